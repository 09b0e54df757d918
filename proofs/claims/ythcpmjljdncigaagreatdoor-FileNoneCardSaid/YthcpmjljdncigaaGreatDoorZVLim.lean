/- Runs without fuel: what a run comes to if the fuel is enough. No conditions. -/
import Derived.Test.YthcpmjljdncigaaGreatDoorZVMono
set_option linter.unusedSimpArgs false
set_option linter.unusedVariables false
namespace Go.V
variable {C : Cfg}

open Classical in
noncomputable def lim {α : Type} (f : Nat → Option α) : Option α := if h : ∃ x k, f k = some x then some (Classical.choose h) else none

def Grows {α : Type} (f : Nat → Option α) : Prop := ∀ k k' x, k ≤ k' → f k = some x → f k' = some x

theorem lim_iff {α : Type} {f : Nat → Option α} (hf : Grows f) {x : α} : lim f = some x ↔ ∃ k, f k = some x := by
  unfold lim
  constructor
  · intro h
    split at h
    · rename_i hx
      cases h
      exact Classical.choose_spec hx
    · cases h
  · rintro ⟨k, hk⟩
    have hx : ∃ x k, f k = some x := ⟨x, k, hk⟩
    rw [dif_pos hx]
    obtain ⟨k', hk'⟩ := Classical.choose_spec hx
    have h1 := hf k (max k k') x (Nat.le_max_left _ _) hk
    have h2 := hf k' (max k k') _ (Nat.le_max_right _ _) hk'
    rw [h1] at h2
    exact congrArg some (Option.some.inj h2).symm

theorem lim_ext {α : Type} {f g : Nat → Option α} (hf : Grows f) (hg : Grows g) (h : ∀ x, (∃ k, f k = some x) ↔ ∃ k, g k = some x) : lim f = lim g := by
  have key : ∀ x, lim f = some x ↔ lim g = some x := fun x => by rw [lim_iff hf, lim_iff hg]; exact h x
  cases hl : lim f with
  | some x => exact ((key x).1 hl).symm
  | none => cases hr : lim g with
    | none => rfl
    | some x => rw [(key x).2 hr] at hl; cases hl

noncomputable def runL (C : Cfg) : RunF := fun ro fn K env D H => lim fun k => run C k ro fn K env D H
noncomputable def callL (C : Cfg) : CallF := fun tg args H => lim fun k => callV C (run C k) tg args H

theorem run_grows {ro : Option Nat} {fn : Func} {K : List Item} {env : Env} {D : List DV} {H : Heap} : Grows fun k => run C k ro fn K env D H :=
  fun k k' x hk h => run_le hk _ _ _ _ _ _ _ h

theorem call_grows {tg : Tgt} {args : List AV} {H : Heap} : Grows fun k => callV C (run C k) tg args H :=
  fun k k' x hk h => callV_mono (run_le hk) h

theorem runL_iff {ro : Option Nat} {fn : Func} {K : List Item} {env : Env} {D : List DV} {H : Heap} {x : AV × Heap} : runL C ro fn K env D H = some x ↔ ∃ k, run C k ro fn K env D H = some x := lim_iff run_grows
theorem callL_iff {tg : Tgt} {args : List AV} {H : Heap} {x : AV × Heap} : callL C tg args H = some x ↔ ∃ k, callV C (run C k) tg args H = some x := lim_iff call_grows

/-- One step, of whatever fuel, is a step of the limit. -/
theorem step_lim {ro : Option Nat} {fn : Func} {K : List Item} {env : Env} {D : List DV} {H : Heap} {g : Nat → Option (AV × Heap)} (hg : Grows g) (h : ∀ k, run C (k + 1) ro fn K env D H = g k) : runL C ro fn K env D H = lim g := by
  refine lim_ext run_grows hg fun x => ⟨fun ⟨k, hk⟩ => ?_, fun ⟨k, hk⟩ => ⟨k + 1, by show run C (k + 1) ro fn K env D H = some x; rw [h]; exact hk⟩⟩
  cases k with
  | zero => simp [run] at hk
  | succ k => exact ⟨k, by rw [← h]; exact hk⟩

theorem runL_seq {ro : Option Nat} {fn : Func} {a b : Code} {K : List Item} {env : Env} {D : List DV} {H : Heap} : runL C ro fn (.code (.seq a b) :: K) env D H = runL C ro fn (.code a :: .code b :: K) env D H :=
  step_lim run_grows fun k => rfl
theorem runL_skip {ro : Option Nat} {fn : Func} {K : List Item} {env : Env} {D : List DV} {H : Heap} : runL C ro fn (.code .skip :: K) env D H = runL C ro fn K (restr (keepAt C fn (firstRegK K)) env) D H := step_lim run_grows fun k => rfl
theorem runL_inBlock {ro : Option Nat} {fn : Func} {id : Nat} {K : List Item} {env : Env} {D : List DV} {H : Heap} : runL C ro fn (.inBlock id :: K) env D H = runL C ro fn K env D H := step_lim run_grows fun k => rfl
theorem runL_block {ro : Option Nat} {fn : Func} {id : Nat} {c : Code} {K : List Item} {env : Env} {D : List DV} {H : Heap} : runL C ro fn (.code (.block id c) :: K) env D H = runL C ro fn (.code c :: .inBlock id :: K) env D H := step_lim run_grows fun k => rfl
theorem runL_loop {ro : Option Nat} {fn : Func} {c : Code} {K : List Item} {env : Env} {D : List DV} {H : Heap} : runL C ro fn (.code (.loop c) :: K) env D H = runL C ro fn (.code c :: .inLoop c :: K) (restr (keepAt C fn (firstReg c)) env) D H := step_lim run_grows fun k => rfl
theorem runL_inLoop {ro : Option Nat} {fn : Func} {c : Code} {K : List Item} {env : Env} {D : List DV} {H : Heap} : runL C ro fn (.inLoop c :: K) env D H = runL C ro fn (.code c :: .inLoop c :: K) (restr (keepAt C fn (firstReg c)) env) D H := step_lim run_grows fun k => rfl

theorem stepL_iff {o : Op} {env : Env} {H : Heap} {x : AV × Heap} : stepV C.P (callL C) o env H = some x ↔ ∃ k, stepV C.P (callV C (run C k)) o env H = some x := by
  cases o with
  | call c =>
    simp only [stepV]
    cases targetV env c with
    | none => exact ⟨fun h => ⟨0, h⟩, fun ⟨_, h⟩ => h⟩
    | some q => exact callL_iff
  | _ => exact ⟨fun h => ⟨0, h⟩, fun ⟨_, h⟩ => h⟩

theorem opsL_iff {ops : Array Oper} : ∀ {l : List Nat} {env : Env} {H : Heap} {x : Env × Heap}, opsRun C.P (callL C) ops l env H = some x ↔ ∃ k, opsRun C.P (callV C (run C k)) ops l env H = some x
  | [], env, H, x => ⟨fun h => ⟨0, h⟩, fun ⟨_, h⟩ => h⟩
  | i :: l, env, H, x => by
    cases ho : ops[i]? with
    | none =>
      have e : ∀ cf, opsRun C.P cf ops (i :: l) env H = opsRun C.P cf ops l env H := fun cf => by rw [opsRun, ho]
      rw [e]
      simp only [e]
      exact opsL_iff
    | some o =>
      rw [opsRun_cons ho]
      simp only [opsRun_cons ho]
      cases hg : guardV ops env o.guard with
      | none => simp
      | some b => cases b with
        | false => exact opsL_iff
        | true =>
          simp only
          constructor
          · intro h
            cases hs : stepV C.P (callL C) o.op env H with
            | none => rw [hs] at h; simp at h
            | some q =>
              rw [hs] at h
              obtain ⟨k1, h1⟩ := stepL_iff.1 hs
              obtain ⟨k2, h2⟩ := opsL_iff.1 h
              refine ⟨max k1 k2, ?_⟩
              rw [stepV_mono (run_le (Nat.le_max_left k1 k2)) h1]
              exact opsRun_mono (run_le (Nat.le_max_right k1 k2)) h2
          · rintro ⟨k, h⟩
            cases hs : stepV C.P (callV C (run C k)) o.op env H with
            | none => rw [hs] at h; simp at h
            | some q =>
              rw [hs] at h
              rw [stepL_iff.2 ⟨k, hs⟩]
              exact opsL_iff.2 ⟨k, h⟩

theorem runL_ret {ro : Option Nat} {fn : Func} {K : List Item} {env : Env} {D : List DV} {H : Heap} : runL C ro fn (.code .ret :: K) env D H = leaveV C.P ro fn (some .ret) env D H := by
  have e : ∀ x, runL C ro fn (.code .ret :: K) env D H = some x ↔ leaveV C.P ro fn (some .ret) env D H = some x := fun x => by
    rw [runL_iff]
    exact ⟨fun ⟨k, hk⟩ => by cases k with
      | zero => simp [run] at hk
      | succ k => exact hk, fun h => ⟨1, h⟩⟩
  cases hl : leaveV C.P ro fn (some .ret) env D H with
  | some x => exact (e x).2 hl
  | none => cases hr : runL C ro fn (.code .ret :: K) env D H with
    | none => rfl
    | some x => rw [(e x).1 hr] at hl; cases hl

theorem runL_cond {ro : Option Nat} {fn : Func} {c : Operand} {a b : Code} {K : List Item} {env : Env} {D : List DV} {H : Heap} {t : Bool} (h : evalV env c = .bool t) :
    runL C ro fn (.code (.cond c a b) :: K) env D H = runL C ro fn (.code (if t then a else b) :: K) env D H :=
  step_lim run_grows fun k => by rw [run, h]

theorem runL_exit {ro : Option Nat} {fn : Func} {id : Nat} {K K' : List Item} {env : Env} {D : List DV} {H : Heap} (h : exitTo id K = some K') : runL C ro fn (.code (.exit id) :: K) env D H = runL C ro fn K' (restr (keepAt C fn (firstRegK K')) env) D H :=
  step_lim run_grows fun k => by
    conv => lhs; unfold run
    simp only [h]

/-- A jump out of a round. -/
theorem runL_exit_round {i : Nat} {fn : Func} {id : Nat} {K : List Item} {env : Env} {D : List DV} {H : Heap} (h : exitTo id K = none) :
    runL C (some i) fn (.code (.exit id) :: K) env D H = leaveV C.P (some i) fn (some (.exit id)) env D H := by
  have e : ∀ k, run C (k + 1) (some i) fn (.code (.exit id) :: K) env D H = leaveV C.P (some i) fn (some (.exit id)) env D H := fun k => by
    conv => lhs; unfold run
    simp only [h]
  have e2 : ∀ x, runL C (some i) fn (.code (.exit id) :: K) env D H = some x ↔ leaveV C.P (some i) fn (some (.exit id)) env D H = some x := fun x => by
    rw [runL_iff]
    refine ⟨fun ⟨k, hk⟩ => ?_, fun h => ⟨1, by rw [e]; exact h⟩⟩
    cases k with
    | zero => simp [run] at hk
    | succ k => rw [e] at hk; exact hk
  cases hl : leaveV C.P (some i) fn (some (.exit id)) env D H with
  | some x => exact (e2 x).2 hl
  | none => cases hr : runL C (some i) fn (.code (.exit id) :: K) env D H with
    | none => rfl
    | some x => rw [(e2 x).1 hr] at hl; cases hl

theorem runL_nil {ro : Option Nat} {fn : Func} {env : Env} {D : List DV} {H : Heap} : runL C ro fn [] env D H = leaveV C.P ro fn none env D H := by
  have e : ∀ x, runL C ro fn [] env D H = some x ↔ leaveV C.P ro fn none env D H = some x := fun x => by
    rw [runL_iff]
    exact ⟨fun ⟨k, hk⟩ => by cases k with
      | zero => simp [run] at hk
      | succ k => exact hk, fun h => ⟨1, h⟩⟩
  cases hl : leaveV C.P ro fn none env D H with
  | some x => exact (e x).2 hl
  | none => cases hr : runL C ro fn [] env D H with
    | none => rfl
    | some x => rw [(e x).1 hr] at hl; cases hl

/-- What follows, if there is something. -/
def andThen {α β γ : Type} (o : Option (α × β)) (k : α → β → Option γ) : Option γ :=
  match o with
  | some (a, b) => k a b
  | none => none

/-- A region: its operations, with what each call comes to. -/
theorem runL_region {ro : Option Nat} {fn : Func} {id : Nat} {ops : Array Oper} {draw : Bool} {K : List Item} {env : Env} {D : List DV} {H : Heap} (h1 : lastDefer ops draw = none) (h2 : (!draw || drawOk C ops) = true) :
    runL C ro fn (.code (.region id ops draw) :: K) env D H = andThen (opsRun C.P (callL C) ops (List.range ops.size) env H) fun env' H' => runL C ro fn K (restr (C.keep fn id) env') D H' := by
  have step : ∀ k, run C (k + 1) ro fn (.code (.region id ops draw) :: K) env D H = andThen (opsRun C.P (callV C (run C k)) ops (List.range ops.size) env H) fun env' H' => run C k ro fn K (restr (C.keep fn id) env') D H' := fun k => by
    rw [run, h1]
    simp only [h2, if_true]
    unfold andThen
    cases opsRun C.P (callV C (run C k)) ops (List.range ops.size) env H <;> rfl
  refine Eq.trans (step_lim (g := fun k => andThen (opsRun C.P (callV C (run C k)) ops (List.range ops.size) env H) fun env' H' => run C k ro fn K (restr (C.keep fn id) env') D H') (fun k k' x hk h => ?_) step) ?_
  · try simp only at h ⊢
    unfold andThen at h ⊢
    cases ho : opsRun C.P (callV C (run C k)) ops (List.range ops.size) env H with
    | none => rw [ho] at h; cases h
    | some q => rw [ho] at h; rw [opsRun_mono (run_le hk) ho]; exact run_le hk _ _ _ _ _ _ _ h
  · cases ho : opsRun C.P (callL C) ops (List.range ops.size) env H with
    | some q =>
      obtain ⟨k0, hk0⟩ := opsL_iff.1 ho
      refine lim_ext (fun k k' x hk h => ?_) run_grows fun x => ⟨fun ⟨k, hk⟩ => ?_, fun ⟨k, hk⟩ => ⟨max k0 k, ?_⟩⟩
      · try simp only at h ⊢
        unfold andThen at h ⊢
        cases ho : opsRun C.P (callV C (run C k)) ops (List.range ops.size) env H with
        | none => rw [ho] at h; cases h
        | some q => rw [ho] at h; rw [opsRun_mono (run_le hk) ho]; exact run_le hk _ _ _ _ _ _ _ h
      · unfold andThen at hk
        cases ho2 : opsRun C.P (callV C (run C k)) ops (List.range ops.size) env H with
        | none => rw [ho2] at hk; cases hk
        | some q2 =>
          rw [ho2] at hk
          have := opsL_iff.2 ⟨k, ho2⟩
          rw [ho] at this; cases this
          exact ⟨k, hk⟩
      · simp only [andThen, opsRun_mono (run_le (Nat.le_max_left k0 k)) hk0]
        exact run_le (Nat.le_max_right k0 k) _ _ _ _ _ _ _ hk
    | none =>
      have : ∀ k, opsRun C.P (callV C (run C k)) ops (List.range ops.size) env H = none := fun k => by
        cases h : opsRun C.P (callV C (run C k)) ops (List.range ops.size) env H with
        | none => rfl
        | some q => rw [opsL_iff.2 ⟨k, h⟩] at ho; cases ho
      simp only [this, andThen]
      unfold lim
      simp

/-- A region's operations, each with what it needs alone. -/
def flat (ops : Array Oper) : List (Option (Option Nat × Bool) × Option Nat × Op) :=
  ops.toList.map fun o => (o.guard.map fun (j, w) => ((ops[j]?).bind (·.dst), w), o.dst, o.op)

def guardF (env : Env) (g : Option (Option Nat × Bool)) : Option Bool :=
  match g with
  | none => some true
  | some (none, _) => some false
  | some (some d, want) => match env d with
    | .bool b => some (b == want)
    | .undef => none
    | _ => some false

/-- A region's operations, with what follows. -/
def flatK {β : Type} (P : Program) (cf : CallF) : List (Option (Option Nat × Bool) × Option Nat × Op) → Env → Heap → (Env → Heap → Option β) → Option β
  | [], env, H, k => k env H
  | (g, d, o) :: l, env, H, k => match guardF env g with
    | none => none
    | some false => flatK P cf l (env.put d (.tup [])) H k
    | some true => match stepV P cf o env H with
      | none => none
      | some (v, H') => flatK P cf l (env.put d v) H' k

theorem flatK_eq {β : Type} {P : Program} {cf : CallF} {ops : Array Oper} {k : Env → Heap → Option β} : ∀ (n i : Nat) (env : Env) (H : Heap), i + n = ops.size →
    andThen (opsRun P cf ops (List.range' i n) env H) k = flatK P cf ((flat ops).drop i) env H k
  | 0, i, env, H, h => by
    have : (flat ops).drop i = [] := by rw [List.drop_eq_nil_iff]; simp [flat]; omega
    rw [this]; rfl
  | n + 1, i, env, H, h => by
    have hi : i < ops.size := by omega
    have hl : i < (flat ops).length := by simp [flat]; omega
    rw [List.drop_eq_getElem_cons hl, List.range'_succ]
    have e : (flat ops)[i] = ((ops[i]).guard.map fun (j, w) => ((ops[j]?).bind (·.dst), w), (ops[i]).dst, (ops[i]).op) := by simp [flat]
    rw [e]
    have ho : ops[i]? = some ops[i] := Array.getElem?_eq_getElem hi
    have hg : ∀ g, guardV ops env g = guardF env (g.map fun (j, w) => ((ops[j]?).bind (·.dst), w)) := by
      intro g
      cases g with
      | none => rfl
      | some jw =>
        obtain ⟨j, w⟩ := jw
        simp only [guardV, guardF, Option.map_some]
        cases (ops[j]?).bind (·.dst) <;> rfl
    rw [opsRun_cons ho]
    simp only [flatK, ← hg]
    cases guardV ops env ops[i].guard with
    | none => rfl
    | some b => cases b with
      | false => exact flatK_eq n (i + 1) _ _ (by omega)
      | true =>
        simp only
        cases stepV P cf ops[i].op env H with
        | none => rfl
        | some q => exact flatK_eq n (i + 1) _ _ (by omega)

/-- A region told by its operations' list. -/
theorem runL_flat {ro : Option Nat} {fn : Func} {id : Nat} {ops : Array Oper} {draw : Bool} {K : List Item} {env : Env} {D : List DV} {H : Heap} {L : List (Option (Option Nat × Bool) × Option Nat × Op)} {o : Option (List Nat)}
    (h1 : lastDefer ops draw = none) (h2 : (!draw || drawOk C ops) = true) (h3 : flat ops = L) (h4 : C.keep fn id = o) :
    runL C ro fn (.code (.region id ops draw) :: K) env D H = flatK C.P (callL C) L env H fun e h => runL C ro fn K (restr o e) D h := by
  rw [runL_region h1 h2, h4, List.range_eq_range', flatK_eq ops.size 0 env H (by omega), h3]
  rfl

end Go.V
