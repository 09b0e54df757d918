/- Lines of a list of bytes; what file.Parse says of notes. No conditions but sizes. -/
import Derived.Test.YthcpmjljdncigaaGreatDoorZTParse
set_option linter.unusedSimpArgs false
set_option linter.unusedVariables false
set_option maxRecDepth 20000
namespace Go.Proofs.YthcpmjljdncigaaGreatDoor
open Go Go.V
def mk (l : List UInt8) : ByteArray := ⟨l.toArray⟩
theorem mk_size (l : List UInt8) : (mk l).size = l.length := by simp [mk, ByteArray.size]
theorem mk_app (a b : List UInt8) : mk a ++ mk b = mk (a ++ b) := by
  apply ByteArray.ext
  simp [mk, ByteArray.data_append]
theorem mk_ext (l : List UInt8) (i j : Nat) : (mk l).extract i j = mk ((l.drop i).take (j - i)) := by
  apply ByteArray.ext
  simp [mk]
theorem idx_mk (l : List UInt8) (c : UInt8) : idxB (mk l) c = Lib.indexByte l c := by simp [idxB, mk]
theorem idx_pre {c : UInt8} : ∀ {a r : List UInt8}, c ∉ a → Lib.indexByte (a ++ c :: r) c = a.length
  | [], r, _ => by simp [Lib.indexByte]
  | x :: a, r, h => by
    have hx : ¬ x = c := fun e => h (by rw [e]; exact .head _)
    have ha : c ∉ a := fun e => h (.tail _ e)
    have := idx_pre (r := r) ha
    simp only [List.cons_append, Lib.indexByte, this, beq_iff_eq, hx, if_false, List.length_cons]
    rw [if_neg (by omega)]
    omega
theorem idx_no {c : UInt8} : ∀ {a : List UInt8}, c ∉ a → Lib.indexByte a c = -1
  | [], _ => rfl
  | x :: a, h => by
    have hx : ¬ x = c := fun e => h (by rw [e]; exact .head _)
    have ha : c ∉ a := fun e => h (.tail _ e)
    simp [Lib.indexByte, idx_no ha, hx]
/-- Lines of a list. -/
theorem lines_no {a : List UInt8} (h : (10 : UInt8) ∉ a) : linesOf (mk a) = [mk a] := by
  rw [linesOf, dif_pos]
  rw [idx_mk, idx_no h]; decide
theorem lines_cons {a r : List UInt8} (h : (10 : UInt8) ∉ a) : linesOf (mk (a ++ 10 :: r)) = mk a :: linesOf (mk r) := by
  have hi : idxB (mk (a ++ 10 :: r)) 10 = a.length := by rw [idx_mk, idx_pre h]
  rw [linesOf, dif_neg (by rw [hi]; omega), hi]
  congr 1
  · rw [mk_ext]; congr 1; simp
  · rw [mk_ext, mk_size]
    congr 2
    have e : ((a.length : Int) + 1).toNat = a.length + 1 := by omega
    rw [e]
    have : a ++ 10 :: r = (a ++ [10]) ++ r := by simp
    rw [this, List.drop_left' (by simp)]
    rw [List.take_of_length_le]
    simp
    omega
/-- The text of notes. -/
def notesL (ls : List (List UInt8)) : List UInt8 := ls.flatMap fun bs => 35 :: (bs ++ [10, 10])
theorem lines_notes {t : List UInt8} (ht : (10 : UInt8) ∉ t) : ∀ {ls : List (List UInt8)}, (∀ bs ∈ ls, (10 : UInt8) ∉ bs) → linesOf (mk (notesL ls ++ t)) = (ls.flatMap fun bs => [mk (35 :: bs), mk []]) ++ [mk t]
  | [], _ => by simp [notesL, lines_no ht]
  | bs :: ls, h => by
    have e : notesL (bs :: ls) ++ t = (35 :: bs) ++ 10 :: ([] ++ 10 :: (notesL ls ++ t)) := by simp [notesL]
    have h1 : (10 : UInt8) ∉ (35 :: bs) := by
      have := h bs (.head _)
      simp [this]
    rw [e, lines_cons h1, lines_cons (by simp), lines_notes ht (fun b hb => h b (.tail _ hb))]
    simp
theorem note_cons (bs : List UInt8) : noteL (mk (35 :: bs)) := .inr ⟨by simp [mk_size], by simp [ByteArray.at, mk]; rfl⟩
theorem note_nil : noteL (mk []) := .inl rfl
theorem steps_notes : ∀ {ls : List (List UInt8)} {a : Int} {l : List ByteArray}, stepAll (stepAt stepN) ((), a) ((ls.flatMap fun bs => [mk (35 :: bs), mk []]) ++ l) = stepAll (stepAt stepN) ((), a + (notesL ls).length) l
  | [], a, l => by simp [notesL]
  | bs :: ls, a, l => by
    simp only [List.flatMap_cons, List.cons_append, List.nil_append, stepAll, stepAt, stepN, note_cons, note_nil, if_true]
    rw [steps_notes]
    congr 2
    simp [notesL, mk_size]
    omega
theorem good_notes {ls : List (List UInt8)} (h : ∀ bs ∈ ls, (10 : UInt8) ∉ bs) {t : List UInt8} (ht : (10 : UInt8) ∉ t) (hg : goodL (mk t)) : ∀ x ∈ linesOf (mk (notesL ls ++ t)), goodL x := by
  rw [lines_notes ht h]
  intro x hx
  rcases List.mem_append.1 hx with hx | hx
  · obtain ⟨bs, _, hb⟩ := List.mem_flatMap.1 hx
    rcases List.mem_cons.1 hb with rfl | hb
    · exact .inl (note_cons _)
    · rw [List.mem_singleton.1 hb]; exact .inl note_nil
  · rw [List.mem_singleton.1 hx]; exact hg
theorem parse_notes {ls : List (List UInt8)} {H : Heap} (h : ∀ bs ∈ ls, (10 : UInt8) ∉ bs) (hs : (notesL ls).length ≤ 4096) :
    callL C1 (.fn 9) [.str (mk (notesL ls))] H = some (.tup [.agg [.sl [.str startB], .nils, .nils], .int .i64 0, .int .i64 0], H) := by
  have hn : notesL ls = notesL ls ++ [] := by simp
  have hst : stepAll (stepAt stepN) ((), 0) (linesOf (mk (notesL ls))) = .inl ((), 0 + (notesL ls).length + (mk []).size + 1) := by
    rw [hn, lines_notes (by simp) h, steps_notes]
    simp only [stepAll, stepAt, stepN, note_nil, if_true]
    simp
  exact parse_none (by rw [mk_size]; exact hs) (by rw [hn]; exact good_notes h (by simp) (.inl note_nil)) hst
theorem blank_cut : (cutB (mk [32, 120]) 32).1 = ⟨#[]⟩ := by
  have : idxB (mk [32, 120]) 32 = 0 := by rw [idx_mk]; decide
  unfold cutB
  rw [this]
  rfl
theorem not_note_blank : ¬ noteL (mk [32, 120]) := by
  rintro (h | ⟨_, h⟩)
  · cases h
  · have : ByteArray.at (mk [32, 120]) 0 = 32 := rfl
    rw [this] at h; cases h
theorem good_blank : goodL (mk [32, 120]) := .inr ⟨by decide, by rw [show ByteArray.at (mk [32, 120]) 0 = 32 from rfl]; decide, blank_cut⟩
theorem parse_blank {ls : List (List UInt8)} {H : Heap} (h : ∀ bs ∈ ls, (10 : UInt8) ∉ bs) (hs : (notesL ls).length ≤ 4000) :
    callL C1 (.fn 9) [.str (mk (notesL ls ++ [32, 120]))] H = some (.tup [.agg [.nils, .nils, .nils], .int .i64 (notesL ls).length, .int .i64 150], H) := by
  have ht : (10 : UInt8) ∉ ([32, 120] : List UInt8) := by decide
  have hst : stepAll (stepAt stepN) ((), 0) (linesOf (mk (notesL ls ++ [32, 120]))) = .inr (150, 0 + (notesL ls).length) := by
    rw [lines_notes ht h, steps_notes]
    simp only [stepAll, stepAt, stepN, not_note_blank, if_false]
  have := parse_bad (H := H) (by rw [mk_size]; simp; omega) (good_notes h ht good_blank) hst
  rw [Int.zero_add] at this
  exact this
end Go.Proofs.YthcpmjljdncigaaGreatDoor
