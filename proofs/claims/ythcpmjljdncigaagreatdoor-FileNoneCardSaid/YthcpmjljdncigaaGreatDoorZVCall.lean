/- Calls and loops over functions, without fuel. No conditions. -/
import Derived.Test.YthcpmjljdncigaaGreatDoorZVLim
set_option linter.unusedSimpArgs false
set_option linter.unusedVariables false
namespace Go.V
variable {C : Cfg}

theorem lim_const {α : Type} (x : Option α) : lim (fun _ => x) = x := by
  cases hx : x with
  | none => unfold lim; simp
  | some y => exact (lim_iff (f := fun _ => some y) (fun _ _ _ _ h => h)).2 ⟨0, rfl⟩

theorem Grows.const {α : Type} (x : Option α) : Grows (fun _ => x) := fun _ _ _ _ h => h

theorem Grows.bind {α β : Type} {f : Nat → Option α} (hf : Grows f) {g : α → Nat → Option β} (hg : ∀ a, Grows (g a)) : Grows (fun k => (f k).bind fun a => g a k) := by
  intro k k' x hk h
  simp only [Option.bind_eq_some_iff] at h ⊢
  obtain ⟨a, h1, h2⟩ := h
  exact ⟨a, hf _ _ _ hk h1, hg a _ _ _ hk h2⟩

theorem lim_bind {α β : Type} {f : Nat → Option α} (hf : Grows f) {g : α → Nat → Option β} (hg : ∀ a, Grows (g a)) : lim (fun k => (f k).bind fun a => g a k) = (lim f).bind fun a => lim (g a) := by
  have key : ∀ x, lim (fun k => (f k).bind fun a => g a k) = some x ↔ ((lim f).bind fun a => lim (g a)) = some x := by
    intro x
    rw [lim_iff (hf.bind hg)]
    simp only [Option.bind_eq_some_iff]
    constructor
    · rintro ⟨k, a, h1, h2⟩
      exact ⟨a, (lim_iff hf).2 ⟨k, h1⟩, (lim_iff (hg a)).2 ⟨k, h2⟩⟩
    · rintro ⟨a, h1, h2⟩
      obtain ⟨k1, h1⟩ := (lim_iff hf).1 h1
      obtain ⟨k2, h2⟩ := (lim_iff (hg a)).1 h2
      exact ⟨max k1 k2, a, hf _ _ _ (Nat.le_max_left _ _) h1, hg a _ _ _ (Nat.le_max_right _ _) h2⟩
  cases hl : lim (fun k => (f k).bind fun a => g a k) with
  | some x => exact ((key x).1 hl).symm
  | none => cases hr : (lim f).bind fun a => lim (g a) with
    | none => rfl
    | some x => rw [(key x).2 hr] at hl; cases hl

/-- A call of a function that has a text, on the caller's heap. -/
theorem callL_heap {g : FuncId} {fn : Func} {c : Code} {args : List AV} {H : Heap} (hx : C.ext g = none) (hf : C.P.funcs[g]? = some fn) (hb : fn.body = some c) (hv : C.vm g = 0) :
    callL C (.fn g) args H = runL C none fn [.code c] (initEnv args) [] H := by
  unfold callL runL
  congr 1
  funext k
  simp only [callV, hx, hf, hb, hv, if_true]

/-- A call by value. -/
theorem callL_val {g : FuncId} {fn : Func} {c : Code} {args : List AV} {H : Heap} (hx : C.ext g = none) (hf : C.P.funcs[g]? = some fn) (hb : fn.body = some c) (hv : (C.vm g == 0) = false) :
    callL C (.fn g) args H = match freezes H args with
      | none => none
      | some (args', H') => (runL C none fn [.code c] (initEnv args') [] []).bind fun p => match freeze p.2 p.1 with
        | none => none
        | some (r', _) => if (C.vm g == 2) = true then (if r'.scalar = true then some (r', H) else none) else some (r', H') := by
  have hv' : C.vm g ≠ 0 := by simpa using hv
  cases hz : freezes H args with
  | none =>
    unfold callL
    simp only [callV, hx, hf, hb, if_neg hv', valCall, hz]
    exact lim_const _
  | some q =>
    simp only
    unfold callL
    simp only [callV, hx, hf, hb, if_neg hv', valCall, hz]
    unfold runL
    have e := lim_bind (f := fun k => run C k none fn [.code c] (initEnv q.1) [] []) run_grows (g := fun p _ => match freeze p.2 p.1 with
        | none => none
        | some (r', _) => if (C.vm g == 2) = true then (if r'.scalar = true then some (r', H) else none) else some (r', q.2)) (fun a => Grows.const _)
    simp only [lim_const] at e
    rw [← e]
    congr 1
    funext k
    cases run C k none fn [.code c] (initEnv q.1) [] [] with
    | none => rfl
    | some p => rfl

theorem callL_ext {g : FuncId} {e : List AV → Option AV} {args : List AV} {H : Heap} (hx : C.ext g = some e) :
    callL C (.fn g) args H = match freezes H args with
      | none => none
      | some (args', _) => match e args' with
        | none => none
        | some r => if r.scalar = true then some (r, H) else none := by
  unfold callL
  simp only [callV, hx]
  exact lim_const _

theorem callL_yld {i : Nat} {args : List AV} {H : Heap} {env : Env} {ps : Array Tmp} {asg body : Code} {st : LoopState} {pend : Option Code} (hi : H[i]? = some (.loop env ps asg body st pend)) (ha : args.length = ps.size) :
    callL C (.yld i) args H = runL C (some i) default [.code asg, .beginRound, .code body] (putAll env ps.toList args) [] H := by
  unfold callL runL
  simp only [callV, hi, ha, if_true]

theorem runL_beginRound {i : Nat} {fn : Func} {K : List Item} {env e : Env} {D : List DV} {H : Heap} {ps : Array Tmp} {a b : Code} {pend : Option Code} (hi : H[i]? = some (.loop e ps a b .ready pend)) :
    runL C (some i) fn (.beginRound :: K) env D H = runL C (some i) fn K env D (H.set i (.loop e ps a b .busy pend)) :=
  step_lim run_grows fun k => by
    conv => lhs; unfold run
    simp only [hi]

/-- A loop over a function. -/
theorem runL_rangeFunc {fn : Func} {f : Operand} {ps : Array Tmp} {asg body : Code} {K : List Item} {env : Env} {D : List DV} {H : Heap} {g : FuncId} {first caps : List AV} {gf : Func} {gc : Code}
    (hv : evalV env f = .fn g first caps) (hf : C.P.funcs[g]? = some gf) (hb : gf.body = some gc) :
    runL C none fn (.code (.rangeFunc f ps asg body) :: K) env D H =
      (runL C none gf [.code gc] (initEnv (first ++ [.yld (H.length + 1)] ++ caps)) [] (H ++ [.defs, .loop env ps asg body .ready none])).bind fun p => match p.2[H.length + 1]? with
        | some (.loop _ _ _ _ .busy _) => none
        | some (.loop _ _ _ _ _ pend) => runL C none fn ((pend.map Item.code).toList ++ K) env (.coll H.length :: D) (p.2.set (H.length + 1) .dead)
        | _ => none := by
  have hgr : ∀ p : AV × Heap, Grows (fun k => match p.2[H.length + 1]? with
        | some (.loop _ _ _ _ .busy _) => none
        | some (.loop _ _ _ _ _ pend) => run C k none fn ((pend.map Item.code).toList ++ K) env (.coll H.length :: D) (p.2.set (H.length + 1) .dead)
        | _ => none) := by
    intro p k k' x hk h
    simp only at h ⊢
    split at h
    · cases h
    · rename_i hnb hob; exact run_le hk _ _ _ _ _ _ _ h
    · cases h
  have hg1 : Grows (fun k => run C k none gf [.code gc] (initEnv (first ++ [.yld (H.length + 1)] ++ caps)) [] (H ++ [.defs, .loop env ps asg body .ready none])) := run_grows
  refine (step_lim (Grows.bind hg1 hgr) (fun k => ?_)).trans ((lim_bind hg1 hgr).trans ?_)
  · conv => lhs; unfold run
    simp only [hv, hf, hb]
    cases run C k none gf [.code gc] (initEnv (first ++ [.yld (H.length + 1)] ++ caps)) [] (H ++ [.defs, .loop env ps asg body .ready none]) <;> rfl
  · unfold runL
    congr 1
    funext p
    cases hp : p.2[H.length + 1]? with
    | none => exact lim_const _
    | some ob =>
      cases ob with
      | loop a b c d st pend => cases st <;> first | exact lim_const _ | rfl
      | _ => exact lim_const _

/-- A region whose last operation puts off a 'delete'. -/
theorem runL_defer {fn : Func} {id : Nat} {ops : Array Oper} {draw : Bool} {K : List Item} {env env' : Env} {D : List DV} {H H' : Heap} {t : TypeId} {x y : Operand} (h1 : lastDefer ops draw = some (t, x, y))
    (h : opsRun C.P (callL C) ops (List.range (ops.size - 1)) env H = some (env', H')) : runL C none fn (.code (.region id ops draw) :: K) env D H = runL C none fn K env' (.del t (evalV env' x) (evalV env' y) :: D) H' := by
  obtain ⟨k0, hk0⟩ := opsL_iff.1 h
  refine lim_ext run_grows run_grows fun x => ⟨fun ⟨k, hk⟩ => ?_, fun ⟨k, hk⟩ => ⟨max k0 k + 1, ?_⟩⟩
  · cases k with
    | zero => simp [run] at hk
    | succ k =>
      rw [run, h1] at hk
      simp only at hk
      cases ho : opsRun C.P (callV C (run C k)) ops (List.range (ops.size - 1)) env H with
      | none => rw [ho] at hk; simp at hk
      | some q =>
        rw [ho] at hk
        have := opsL_iff.2 ⟨k, ho⟩
        rw [h] at this; cases this
        exact ⟨k, hk⟩
  · rw [run, h1]
    simp only [opsRun_mono (run_le (Nat.le_max_left k0 k)) hk0]
    exact run_le (Nat.le_max_right k0 k) _ _ _ _ _ _ _ hk

/-- A condition. -/
def condK {α : Type} (v : AV) (a b : Option α) : Option α :=
  match v with
  | .bool t => if t = true then a else b
  | _ => none

theorem runL_cond' {ro : Option Nat} {fn : Func} {c : Operand} {a b : Code} {K : List Item} {env : Env} {D : List DV} {H : Heap} :
    runL C ro fn (.code (.cond c a b) :: K) env D H = condK (evalV env c) (runL C ro fn (.code a :: K) env D H) (runL C ro fn (.code b :: K) env D H) := by
  unfold condK
  split
  · rename_i t ht
    rw [runL_cond ht]
    cases t <;> rfl
  · rename_i hn
    unfold runL
    unfold lim
    rw [dif_neg]
    rintro ⟨x, k, hk⟩
    cases k with
    | zero => simp [run] at hk
    | succ k =>
      have hk' : (match evalV env c with
        | .bool t => run C k ro fn (.code (if t then a else b) :: K) env D H
        | _ => none) = some x := hk
      split at hk'
      · rename_i t ht; exact hn _ ht
      · cases hk'

end Go.V
