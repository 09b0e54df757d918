/- From what is read to values of the interpreter. No conditions. -/
import Derived.Test.YthcpmjljdncigaaGreatDoorZVExt
import Derived.Deep.Matrix
import Derived.SizedLaws
set_option linter.unusedSimpArgs false
set_option linter.unusedVariables false
namespace Go.V
open RowKit (Below)
open Go.ChangeShapes Go.WideShapes

/-- All memory that there is, as frozen memory. -/
def Zall (W : World) : FZ := fun b o => W.cell? ⟨b, o, none⟩
theorem bareZ (W : World) : WR (Zall W) OM.none W.heap.size W [] W :=
  ⟨Nat.le_refl _, Below.refl _ _, (fun b o v h => h), (fun i L h => by cases h), (fun i ob h => by cases h), (fun i j ob ob' L L' h => by cases h), (fun i ob L h => by cases h), (fun i h => by cases h)⟩

theorem cell_spot {W : World} {a : Addr} {v : Value} (h : W.cell? a = some v) : a.spot = none := by
  unfold World.cell? at h
  split at h
  · split at h
    · cases h
    · rename_i hs
      cases hh : a.spot with
      | none => rfl
      | some x => rw [hh] at hs; simp at hs
  · cases h

theorem cell_add {W : World} {a : Addr} {n : Nat} {v : Value} (h : W.cell? (a.add n) = some v) (ha : a.spot = none) : Zall W a.block (a.off + n) = some v := by
  unfold Zall
  unfold Addr.add at h
  split at h
  · rename_i e
    subst e
    cases a with
    | mk b o s => simp only at ha; subst ha; exact h
  · exact h

theorem okWide_sl {P : Program} {W : World} {r : Reach} {base : Nat} {t e : TypeId} {v : Value} (hu : P.underlying t = some (.slice e)) (h : Value.okWide P W r base t v) : ∃ a n c, v = .slice a n c := by
  cases v with
  | slice a n c => exact ⟨a, n, c, rfl⟩
  | _ => simp [Value.okWide, Cell.okWide, Cell.ok, hu] at h
/-- A slice of cells, each of one. -/
theorem vr_slice {W : World} {a : Addr} {cap : Nat} {es : List AV} {vs : Nat → Value} (hcap : es.length ≤ cap) (hone : ∀ e ∈ es, e.cells = [e]) (hc : ∀ k, k < es.length → W.cell? (a.add k) = some (vs k))
    (hv : ∀ k (h : k < es.length), VR (Zall W) OM.none es[k] (vs k)) : VR (Zall W) OM.none (.sl es) (.slice (some a) es.length cap) := by
  have hsp : es ≠ [] → a.spot = none := fun h => by
    have h0 : 0 < es.length := List.length_pos_iff.2 h
    have := hc 0 h0
    rw [Addr.add, if_pos rfl] at this
    exact cell_spot this
  cases a with
  | mk b o s =>
    refine VR.sl (sz := 1) (fun k _ => vs k) hcap (fun k h => ?_) (fun k j h hj => ?_) (fun k h j hj => ?_) hsp
    · rw [hone _ (List.getElem_mem h)]; rfl
    · have h0 : j = 0 := by omega
      subst h0
      have hne : es ≠ [] := by rintro rfl; simp at h
      have := cell_add (hc k h) (hsp hne)
      simpa using this
    · have e := hone _ (List.getElem_mem h)
      have h0 : j = 0 := by rw [e] at hj; simpa using hj
      subst h0
      simp only [e, List.getElem_cons_zero]
      exact hv k h

/-- A row of bytes. -/
def byteRow (A : Option Addr) (L : Nat) (zs : List Int) : AV := match A with
  | none => .nils
  | some _ => .sl ((zs.take L).map fun n => .int .u8 n)

theorem vr_byteRow {W : World} {A : Option Addr} {L C : Nat} {zs : List Int} (h1 : L ≤ C) (h2 : zs.length = C) (h3 : A = none → C = 0) (h4 : ∀ a', A = some a' → ∀ c, c < C → W.cell? (a'.add c) = some (.int .u8 (zs.getD c 0))) :
    VR (Zall W) OM.none (byteRow A L zs) (.slice A L C) := by
  cases A with
  | none =>
    have hc := h3 rfl
    have hl : L = 0 := by omega
    subst hc hl
    exact .nils
  | some a =>
    have hlen : ((zs.take L).map fun n => AV.int .u8 n).length = L := by simp; omega
    have := vr_slice (W := W) (a := a) (cap := C) (es := (zs.take L).map fun n => AV.int .u8 n) (vs := fun k => .int .u8 (zs.getD k 0)) (by omega)
      (fun e he => by obtain ⟨n, _, rfl⟩ := List.mem_map.1 he; rfl) (fun k hk => h4 a rfl k (by omega)) (fun k hk => by
        have hk' : k < L := by omega
        have : ((zs.take L).map fun n => AV.int .u8 n)[k] = .int .u8 (zs.getD k 0) := by
          simp [List.getD_eq_getElem?_getD, List.getElem?_eq_getElem (show k < zs.length by omega)]
        rw [this]
        exact .int)
    rw [hlen] at this
    exact this

theorem weights_mem_all {H : Type} {P : Program} {e : TypeId} {d : DataW H} {n : Nat} : ∀ {l : List (DataW H)}, d ∈ l → n ∈ d.weights P e → n ∈ DataW.weightsAll P e l
  | x :: l, h, hn => by
    rw [DataW.weightsAll, List.mem_append]
    rcases List.mem_cons.1 h with rfl | h
    · exact .inl hn
    · exact .inr (weights_mem_all h hn)

end Go.V
