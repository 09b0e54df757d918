/- More fuel changes no answer. No conditions. -/
import Derived.Test.YthcpmjljdncigaaGreatDoorZVRunSound
set_option linter.unusedSimpArgs false
set_option linter.unusedVariables false
namespace Go.V
variable {C : Cfg}

def Mono (rec rec' : RunF) : Prop := ∀ ro fn K env D H x, rec ro fn K env D H = some x → rec' ro fn K env D H = some x

section
variable {rec rec' : RunF} (hm : Mono rec rec')
include hm

theorem callV_mono {tg : Tgt} {args : List AV} {H : Heap} {x : AV × Heap} (h : callV C rec tg args H = some x) : callV C rec' tg args H = some x := by
  cases tg with
  | yld i =>
    simp only [callV] at h ⊢
    split at h
    · split at h
      · rename_i hl; simp only [hl, if_true]; exact hm _ _ _ _ _ _ _ h
      · cases h
    · cases h
  | fn g =>
    simp only [callV] at h ⊢
    split at h
    · exact h
    · split at h
      · cases h
      · rename_i fn hf
        split at h
        · cases h
        · rename_i c hb
          split at h
          · rename_i hv; rw [if_pos hv]; exact hm _ _ _ _ _ _ _ h
          · rename_i hv
            rw [if_neg hv]
            unfold valCall at h ⊢
            split at h
            · cases h
            · split at h
              · cases h
              · rename_i hr
                rw [hm _ _ _ _ _ _ _ hr]
                exact h

theorem stepV_mono {o : Op} {env : Env} {H : Heap} {x : AV × Heap} (h : stepV C.P (callV C rec) o env H = some x) : stepV C.P (callV C rec') o env H = some x := by
  unfold stepV at h ⊢
  split at h
  · rename_i c
    split at h
    · exact callV_mono hm h
    · exact h
  · exact h

theorem opsRun_mono {ops : Array Oper} : ∀ {l : List Nat} {env : Env} {H : Heap} {x : Env × Heap}, opsRun C.P (callV C rec) ops l env H = some x → opsRun C.P (callV C rec') ops l env H = some x
  | [], env, H, x, h => h
  | i :: l, env, H, x, h => by
    rw [opsRun] at h ⊢
    cases ho : ops[i]? with
    | none => rw [ho] at h; exact opsRun_mono h
    | some o =>
      rw [ho] at h
      simp only at h ⊢
      cases hg : guardV ops env o.guard with
      | none => rw [hg] at h; simp at h
      | some b =>
        rw [hg] at h
        cases b with
        | false => exact opsRun_mono h
        | true =>
          simp only at h ⊢
          cases hs : stepV C.P (callV C rec) o.op env H with
          | none => rw [hs] at h; simp at h
          | some q => rw [hs] at h; rw [stepV_mono hm hs]; exact opsRun_mono h

theorem actD_mono {ops : Array Oper} {sl : Option Nat} {i : Nat} {env : Env} {H : Heap} {x : AV × Heap} (h : actD C rec ops sl i env H = some x) : actD C rec' ops sl i env H = some x := by
  unfold actD at h ⊢
  cases ho : ops[i]? with
  | none => rw [ho] at h; simp at h
  | some o =>
    rw [ho] at h
    simp only at h ⊢
    cases hg : guardV ops env o.guard with
    | none => rw [hg] at h; simp at h
    | some b =>
      rw [hg] at h
      cases b with
      | false => exact h
      | true =>
        simp only at h ⊢
        split at h
        · exact h
        · exact stepV_mono hm h

theorem traceD_mono {ops : Array Oper} {sl : Option Nat} : ∀ {l : List Nat} {env : Env} {H : Heap} {x : List Ann × Env × Heap}, traceD C rec ops sl l env H = some x → traceD C rec' ops sl l env H = some x
  | [], env, H, x, h => h
  | i :: l, env, H, x, h => by
    unfold traceD at h ⊢
    cases ha : actD C rec ops sl i env H with
    | none => rw [ha] at h; simp at h
    | some q =>
      rw [ha] at h
      rw [actD_mono hm ha]
      simp only at h ⊢
      cases ht : traceD C rec ops sl l (env.put (dstOf ops i) q.1) q.2 with
      | none => rw [ht] at h; simp at h
      | some r => rw [ht] at h; rw [traceD_mono ht]; exact h

theorem sameAt_mono {ops : Array Oper} {sl : Option Nat} {a : Ann} {H : Heap} (h : sameAt C rec ops sl a H = true) : sameAt C rec' ops sl a H = true := by
  unfold sameAt at h ⊢
  split at h
  · rename_i v _ ha; rw [actD_mono hm ha]; exact h
  · cases h

theorem pairD_mono {ops : Array Oper} {sl : Option Nat} {Hs : Heap} {x y : Ann} (h : pairD C rec ops sl Hs x y = true) : pairD C rec' ops sl Hs x y = true := by
  unfold pairD at h ⊢
  rw [Bool.and_eq_true] at h ⊢
  refine ⟨h.1, ?_⟩
  have h2 := h.2
  split at h2
  all_goals first
    | rfl
    | (cases h2; done)
    | (rw [Bool.and_eq_true] at h2 ⊢
       first
         | exact ⟨sameAt_mono hm h2.1, sameAt_mono hm h2.2⟩
         | exact ⟨h2.1, sameAt_mono hm h2.2⟩)

theorem checkD_mono {ops : Array Oper} {sl : Option Nat} {Hs : Heap} {as : List Ann} (h : checkD C rec ops sl Hs as = true) : checkD C rec' ops sl Hs as = true := by
  unfold checkD at h ⊢
  simp only [Bool.and_eq_true, List.all_eq_true, Bool.or_eq_true] at h ⊢
  refine ⟨h.1, fun y hy => ⟨(h.2 y hy).1, fun x hx => ?_⟩⟩
  rcases (h.2 y hy).2 x hx with h1 | h1
  · exact .inl h1
  · refine .inr ?_
    split at h1
    · rename_i hb; rw [if_pos hb]; exact h1
    · rename_i hb; rw [if_neg hb]; exact pairD_mono hm h1

theorem drawRun_mono {ops : Array Oper} {env : Env} {H : Heap} {x : Env × Heap} (h : drawRun C rec ops env H = some x) : drawRun C rec' ops env H = some x := by
  unfold drawRun at h ⊢
  simp only at h ⊢
  generalize (if 2 ≤ (ops.toList.filter isAlloc).length then H ++ List.replicate (ops.toList.filter isAlloc).length Ob.hole else H) = Hs at h ⊢
  generalize (if 2 ≤ (ops.toList.filter isAlloc).length then some H.length else none) = sl at h ⊢
  cases ht : traceD C rec ops sl (List.range ops.size) env Hs with
  | none => rw [ht] at h; simp at h
  | some q =>
    rw [ht] at h
    rw [traceD_mono hm ht]
    simp only at h ⊢
    split at h
    · rename_i hc; rw [if_pos (checkD_mono hm hc)]; exact h
    · cases h

end

theorem run_mono : ∀ k, Mono (run C k) (run C (k + 1))
  | 0 => fun ro fn K env D H x h => by simp [run] at h
  | k + 1 => by
    have ih := run_mono k
    intro ro fn K env D H x h
    unfold run at h ⊢
    split at h
    · exact h
    · exact h
    · exact ih _ _ _ _ _ _ _ h
    · exact ih _ _ _ _ _ _ _ h
    · exact ih _ _ _ _ _ _ _ h
    · split at h
      · rename_i hc; (try simp only [hc]); exact ih _ _ _ _ _ _ _ h
      · cases h
    · exact ih _ _ _ _ _ _ _ h
    · exact ih _ _ _ _ _ _ _ h
    · exact ih _ _ _ _ _ _ _ h
    · split at h
      · rename_i hc; (try simp only [hc]); exact ih _ _ _ _ _ _ _ h
      · rename_i hc
        (try simp only [hc])
        exact h
    · split at h
      · rename_i hl
        (try simp only [hl])
        split at h
        · rename_i ho; simp only [opsRun_mono ih ho]; exact ih _ _ _ _ _ _ _ h
        · cases h
      · rename_i hl
        (try simp only [hl])
        split at h
        · rename_i hd
          rw [if_pos hd]
          split at h
          · rename_i ho; simp only [opsRun_mono ih ho]; exact ih _ _ _ _ _ _ _ h
          · cases h
        · rename_i hd
          rw [if_neg hd]
          split at h
          · rename_i ho; simp only [drawRun_mono ih ho]; exact ih _ _ _ _ _ _ _ h
          · cases h
    · split at h
      · rename_i hf
        (try simp only [hf])
        split at h
        · cases h
        · rename_i hg
          (try simp only [hg])
          split at h
          · cases h
          · rename_i hb
            (try simp only [hb])
            split at h
            · cases h
            · rename_i hr
              simp only [ih _ _ _ _ _ _ _ hr]
              split at h
              · cases h
              · rename_i hnb hob
                (try simp only [hob])
                exact ih _ _ _ _ _ _ _ h
              · cases h
      · cases h
    · split at h
      · split at h
        · rename_i hi; (try simp only [hi]); exact ih _ _ _ _ _ _ _ h
        · cases h
      · cases h
    · cases h

theorem run_le {k k' : Nat} (hk : k ≤ k') : Mono (run C k) (run C k') := by
  induction hk with
  | refl => exact fun _ _ _ _ _ _ _ h => h
  | step _ ih => exact fun _ _ _ _ _ _ _ h => run_mono _ _ _ _ _ _ _ _ (ih _ _ _ _ _ _ _ h)

end Go.V
