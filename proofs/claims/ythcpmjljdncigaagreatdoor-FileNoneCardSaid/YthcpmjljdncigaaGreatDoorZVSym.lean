/- Equations by which a run is told step by step, over whatever values. No conditions. -/
import Derived.Test.YthcpmjljdncigaaGreatDoorZVCall
import Derived.IntWalk
set_option linter.unusedSimpArgs false
set_option linter.unusedVariables false
namespace Go.V
variable {C : Cfg} {P : Program}

abbrev FL := List (Option (Option Nat × Bool) × Option Nat × Op)

def regionOf1 : Code → Nat → Option (Array Oper)
  | .region id ops _, n => if id = n then some ops else none
  | .seq a b, n => (regionOf1 a n).or (regionOf1 b n)
  | .cond _ a b, n => (regionOf1 a n).or (regionOf1 b n)
  | .block _ c, n => regionOf1 c n
  | .loop c, n => regionOf1 c n
  | .rangeFunc _ _ a b, n => (regionOf1 a n).or (regionOf1 b n)
  | _, _ => none
def regionOf (c : Option Code) (n : Nat) : Array Oper := ((c.bind fun c => regionOf1 c n)).getD #[]

/-! ### Environments -/
theorem E_nil {t : Nat} : E [] t = .undef := rfl
theorem E_hit {d : Nat} {v : AV} {l : List (Nat × AV)} : E ((d, v) :: l) d = v := by simp [E]
theorem E_miss {d t : Nat} {v : AV} {l : List (Nat × AV)} (h : (t == d) = false) : E ((d, v) :: l) t = E l t := by
  have : t ≠ d := by simpa using h
  simp [E, this]
theorem upd_hit {env : Env} {d : Nat} {v : AV} : env.upd d v d = v := by simp [Env.upd]
theorem upd_miss {env : Env} {d t : Nat} {v : AV} (h : (t == d) = false) : env.upd d v t = env t := by
  have : t ≠ d := by simpa using h
  simp [Env.upd, this]
theorem E_cons {d t : Nat} {v : AV} {l : List (Nat × AV)} : E ((d, v) :: l) t = if t = d then v else E l t := rfl
theorem upd_app {env : Env} {d t : Nat} {v : AV} : env.upd d v t = if t = d then v else env t := rfl
theorem put_app {env : Env} {d t : Nat} {v : AV} : env.put (some d) v t = if t = d then v else env t := rfl
theorem put_app_none {env : Env} {t : Nat} {v : AV} : env.put none v t = env t := rfl
theorem put_some {env : Env} {d : Nat} {v : AV} : env.put (some d) v = env.upd d v := rfl
theorem put_none {env : Env} {v : AV} : env.put none v = env := rfl
theorem ini0 {a : AV} {l : List AV} : initEnv (a :: l) 0 = a := rfl
theorem ini1 {a b : AV} {l : List AV} : initEnv (a :: b :: l) 1 = b := rfl
theorem ini2 {a b c : AV} {l : List AV} : initEnv (a :: b :: c :: l) 2 = c := rfl
theorem ini3 {a b c d : AV} {l : List AV} : initEnv (a :: b :: c :: d :: l) 3 = d := rfl
theorem ini4 {a b c d e : AV} {l : List AV} : initEnv (a :: b :: c :: d :: e :: l) 4 = e := rfl
theorem restr_none {env : Env} : restr none env = env := rfl
theorem restr_some {env : Env} {l : List Nat} : restr (some l) env = E (l.map fun t => (t, env t)) := rfl
def keepE (env : Env) : List Nat → List (Nat × AV)
  | [] => []
  | t :: l => (t, env t) :: keepE env l
theorem keepE_nil {env : Env} : keepE env [] = [] := rfl
theorem keepE_cons {env : Env} {t : Nat} {l : List Nat} : keepE env (t :: l) = (t, env t) :: keepE env l := rfl
theorem keepE_eq {env : Env} : ∀ {l : List Nat}, keepE env l = l.map fun t => (t, env t)
  | [] => rfl
  | t :: l => by rw [keepE, keepE_eq]; rfl
theorem restr_keep {env : Env} {l : List Nat} : restr (some l) env = E (keepE env l) := by rw [keepE_eq, restr_some]
theorem evalV_tmp {env : Env} {t : Nat} : evalV env (.tmp t) = env t := rfl
theorem evalV_bool {env : Env} {b : Bool} : evalV env (.const (.bool b)) = .bool b := rfl
theorem evalV_int {env : Env} {k : IntKind} {n : Int} : evalV env (.const (.int k n)) = .int k n := rfl
theorem evalV_str {env : Env} {s : ByteArray} : evalV env (.const (.string s)) = .str s := rfl
theorem evalV_nilp {env : Env} : evalV env (.const (.pointer none)) = .nilp := rfl
theorem evalV_nils {env : Env} : evalV env (.const (.slice none 0 0)) = .nils := rfl
theorem evalV_nilm {env : Env} : evalV env (.const (.map none)) = .nilm := rfl
theorem evalV_nilf {env : Env} : evalV env (.const .nilFunc) = .nilf := rfl
theorem evalV_func {env : Env} {f : FuncId} : evalV env (.func f) = .fn f [] [] := rfl
theorem keepAt_none {fn : Func} : keepAt C fn none = none := rfl
theorem keepAt_some {fn : Func} {r : Nat} : keepAt C fn (some r) = C.keepL fn r := rfl
theorem fr_region {id : Nat} {ops : Array Oper} {d : Bool} : firstReg (.region id ops d) = some id := rfl
theorem fr_seq {a b : Code} : firstReg (.seq a b) = firstReg a := rfl
theorem fr_block {n : Nat} {a : Code} : firstReg (.block n a) = firstReg a := rfl
theorem fr_loop {a : Code} : firstReg (.loop a) = firstReg a := rfl
theorem fr_cond {c : Operand} {a b : Code} : firstReg (.cond c a b) = none := rfl
theorem fr_ret : firstReg .ret = none := rfl
theorem fr_skip : firstReg .skip = none := rfl
theorem fr_exit {n : Nat} : firstReg (.exit n) = none := rfl
theorem fr_rf {o : Operand} {p : Array Tmp} {a b : Code} : firstReg (.rangeFunc o p a b) = none := rfl
theorem frk_code {c : Code} {K : List Item} : firstRegK (.code c :: K) = firstReg c := rfl
theorem frk_inLoop {c : Code} {K : List Item} : firstRegK (.inLoop c :: K) = firstReg c := rfl
theorem frk_inBlock {n : Nat} {K : List Item} : firstRegK (.inBlock n :: K) = firstRegK K := rfl
theorem frk_nil : firstRegK [] = none := rfl

/-- What follows a region. -/
noncomputable def kont (C : Cfg) (ro : Option Nat) (fn : Func) (K : List Item) (o : Option (List Nat)) (D : List DV) : Env → Heap → Option (AV × Heap) := fun e h => runL C ro fn K (restr o e) D h

/-- A region, with what is kept. -/
theorem runL_flatE {ro : Option Nat} {fn : Func} {id : Nat} {ops : Array Oper} {draw : Bool} {K : List Item} {env : Env} {D : List DV} {H : Heap} {L : List (Option (Option Nat × Bool) × Option Nat × Op)} {l : List Nat}
    (hP : C.P = P) (h1 : lastDefer ops draw = none) (h2 : (!draw || drawOk C ops) = true) (h3 : flat ops = L) (h4 : C.keep fn id = some l) :
    runL C ro fn (.code (.region id ops draw) :: K) env D H = flatK P (callL C) L env H (kont C ro fn K (some l) D) := by
  subst hP
  exact runL_flat h1 h2 h3 h4
theorem runL_flatN {ro : Option Nat} {fn : Func} {id : Nat} {ops : Array Oper} {draw : Bool} {K : List Item} {env : Env} {D : List DV} {H : Heap} {L : List (Option (Option Nat × Bool) × Option Nat × Op)}
    (hP : C.P = P) (h1 : lastDefer ops draw = none) (h2 : (!draw || drawOk C ops) = true) (h3 : flat ops = L) (h4 : C.keep fn id = none) :
    runL C ro fn (.code (.region id ops draw) :: K) env D H = flatK P (callL C) L env H (kont C ro fn K none D) := by
  subst hP
  exact runL_flat h1 h2 h3 h4

theorem E_restr {l : List Nat} {env : Env} (l' : List Nat) (h : ∀ t, t ∈ l' → t ∈ l) : E (l'.map fun t => (t, E (l.map fun t => (t, env t)) t)) = E (l'.map fun t => (t, env t)) := by
  have key : ∀ (l : List Nat) t, t ∈ l → E (l.map fun t => (t, env t)) t = env t := by
    intro l
    induction l with
    | nil => intro t h; cases h
    | cons d l ih =>
      intro t ht
      simp only [List.map_cons, E]
      split
      · rename_i e; subst e; rfl
      · rename_i e
        exact ih t (by simpa [e] using ht)
  congr 1
  exact List.map_congr_left fun t ht => by rw [key l t (h t ht)]

/-! ### The structure of a code -/
theorem runL_loopE {fn : Func} {c : Code} {K : List Item} {env : Env} {D : List DV} {H : Heap} {l : List Nat} (h : keepAt C fn (firstReg c) = some l) :
    runL C none fn (.code (.loop c) :: K) env D H = runL C none fn (.inLoop c :: K) (E (keepE env l)) D H := by
  rw [runL_loop, runL_inLoop, h, keepE_eq, restr_some, restr_some, E_restr l (fun _ h => h)]
theorem runL_inLoopE {fn : Func} {c : Code} {K : List Item} {env : Env} {D : List DV} {H : Heap} {l : List Nat} (h : keepAt C fn (firstReg c) = some l) :
    runL C none fn (.inLoop c :: K) env D H = runL C none fn (.code c :: .inLoop c :: K) (E (keepE env l)) D H := by
  rw [runL_inLoop, h, restr_keep]

section
variable {ro : Option Nat} {fn : Func} {K : List Item} {env : Env} {D : List DV} {H : Heap}
theorem exit_hit {id : Nat} : runL C ro fn (.code (.exit id) :: .inBlock id :: K) env D H = runL C ro fn K (restr (keepAt C fn (firstRegK K)) env) D H :=
  runL_exit (by simp [exitTo])

theorem exit_same {id : Nat} {x : Item} (h : exitTo id (x :: K) = exitTo id K) : runL C ro fn (.code (.exit id) :: x :: K) env D H = runL C ro fn (.code (.exit id) :: K) env D H := by
  cases hk : exitTo id K with
  | some K' => rw [runL_exit (h.trans hk), runL_exit hk]
  | none => cases ro with
    | some i => rw [runL_exit_round (h.trans hk), runL_exit_round hk]
    | none =>
      have key : ∀ K'' : List Item, exitTo id K'' = none → runL C none fn (.code (.exit id) :: K'') env D H = none := by
        intro K'' hK
        cases hr : runL C none fn (.code (.exit id) :: K'') env D H with
        | none => rfl
        | some q =>
          obtain ⟨k, hk⟩ := runL_iff.1 hr
          cases k with
          | zero => simp [run] at hk
          | succ k =>
            have : (match exitTo id K'' with
              | some K' => run C k none fn K' (restr (keepAt C fn (firstRegK K')) env) D H
              | none => (none : Option (AV × Heap))) = some q := by
              conv at hk => lhs; unfold run
              simp only at hk
              exact hk
            rw [hK] at this
            cases this
      rw [key _ (h.trans hk), key _ hk]
theorem exit_inLoop {id : Nat} {c : Code} : runL C ro fn (.code (.exit id) :: .inLoop c :: K) env D H = runL C ro fn (.code (.exit id) :: K) env D H := exit_same rfl
theorem exit_code {id : Nat} {c : Code} : runL C ro fn (.code (.exit id) :: .code c :: K) env D H = runL C ro fn (.code (.exit id) :: K) env D H := exit_same rfl
theorem exit_block {id id' : Nat} (h : (id' == id) = false) : runL C ro fn (.code (.exit id) :: .inBlock id' :: K) env D H = runL C ro fn (.code (.exit id) :: K) env D H :=
  exit_same (by simp [exitTo, h])

theorem exit_if {id id' : Nat} : runL C ro fn (.code (.exit id) :: .inBlock id' :: K) env D H = if id' = id then runL C ro fn K (restr (keepAt C fn (firstRegK K)) env) D H else runL C ro fn (.code (.exit id) :: K) env D H := by
  split
  · rename_i h; subst h; exact exit_hit
  · rename_i h; exact exit_block (by simpa using h)
theorem leave_fin {j : Option Code} : leaveV P none fn j env [] H = finishV P fn env H := rfl
end

/-- A branch. -/
def brK {α : Type} (v : AV) (f : Option Bool → Option α) : Option α :=
  match v with
  | .bool t => f (some t)
  | .undef => none
  | _ => f none
theorem brK_cases {α : Type} {t : Bool} {f : Option Bool → Option α} {x : Option α} (h1 : t = true → f (some true) = x) (h2 : t = false → f (some false) = x) : brK (.bool t) f = x := by
  cases t
  · exact h2 rfl
  · exact h1 rfl
theorem brK_true {α : Type} {f : Option Bool → Option α} : brK (.bool true) f = f (some true) := rfl
theorem brK_false {α : Type} {f : Option Bool → Option α} : brK (.bool false) f = f (some false) := rfl
theorem brK_tup {α : Type} {vs : List AV} {f : Option Bool → Option α} : brK (.tup vs) f = f none := rfl
/-- What follows a condition. -/
noncomputable def kC (C : Cfg) (ro : Option Nat) (fn : Func) (a b : Code) (K : List Item) (env : Env) (D : List DV) (H : Heap) : Option Bool → Option (AV × Heap)
  | some true => runL C ro fn (.code a :: K) env D H
  | some false => runL C ro fn (.code b :: K) env D H
  | none => none
section
variable {ro : Option Nat} {fn : Func} {a b : Code} {K : List Item} {env : Env} {D : List DV} {H : Heap}
theorem runL_br {c : Operand} : runL C ro fn (.code (.cond c a b) :: K) env D H = brK (evalV env c) (kC C ro fn a b K env D H) := by
  rw [runL_cond']
  cases evalV env c with
  | bool t => cases t <;> rfl
  | _ => rfl
theorem kC_true : kC C ro fn a b K env D H (some true) = runL C ro fn (.code a :: K) env D H := rfl
theorem kC_false : kC C ro fn a b K env D H (some false) = runL C ro fn (.code b :: K) env D H := rfl
end
theorem andThen_none {α β γ : Type} {k : α → β → Option γ} : andThen none k = none := rfl
def bindV {α β : Type} (o : Option α) (f : α → Option β) : Option β := match o with
  | some a => f a
  | none => none
@[congr] theorem bindV_congr {α β : Type} {o o' : Option α} {f : α → Option β} (h : o = o') : bindV o f = bindV o' f := by rw [h]
@[congr] theorem andThen_congr {α β γ : Type} {o o' : Option (α × β)} {k : α → β → Option γ} (h : o = o') : andThen o k = andThen o' k := by rw [h]
theorem bindV_some {α β : Type} {a : α} {f : α → Option β} : bindV (some a) f = f a := rfl
theorem bindV_none {α β : Type} {f : α → Option β} : bindV none f = none := rfl
theorem map_andThen {α γ : Type} {o : Option α} {H : Heap} {k : α → Heap → Option γ} : andThen (o.map fun v => (v, H)) k = bindV o fun v => k v H := by cases o <;> rfl

/-! ### Operations -/
section
variable {β : Type} {cf : CallF} {l : FL} {env : Env} {H : Heap} {k : Env → Heap → Option β} {d : Option Nat}
@[congr] theorem flatK_congr {l l' : FL} {env : Env} {H : Heap} (h : l = l') : flatK P cf l env H k = flatK P cf l' env H k := by rw [h]
theorem fk_nil : flatK P cf [] env H k = k env H := rfl
theorem fk_end {ro : Option Nat} {fn : Func} {K : List Item} {o : Option (List Nat)} {D : List DV} : flatK P cf [] env H (kont C ro fn K o D) = runL C ro fn K (restr o env) D H := rfl
def cV (P : Program) (cf : CallF) (l : FL) (d : Option Nat) (env : Env) (H : Heap) (k : Env → Heap → Option β) : AV → Option β := fun v => flatK P cf l (env.put d v) H k
def cVH (P : Program) (cf : CallF) (l : FL) (d : Option Nat) (env : Env) (k : Env → Heap → Option β) : AV → Heap → Option β := fun v H' => flatK P cf l (env.put d v) H' k
def cH (P : Program) (cf : CallF) (l : FL) (d : Option Nat) (env : Env) (k : Env → Heap → Option β) : Heap → Option β := fun H' => flatK P cf l (env.put d .undef) H' k
theorem bindV_cV {v : AV} : bindV (some v) (cV P cf l d env H k) = flatK P cf l (env.put d v) H k := rfl
theorem bindV_cH {H' : Heap} : bindV (some H') (cH P cf l d env k) = flatK P cf l (env.put d .undef) H' k := rfl
theorem andThen_cVH {v : AV} {H' : Heap} : andThen (some (v, H')) (cVH P cf l d env k) = flatK P cf l (env.put d v) H' k := rfl

/-- What is left of operations, once a guard is known. -/
def gset (j : Nat) (b : Bool) (g : Option (Option Nat × Bool)) : Option (Option Nat × Bool) :=
  match g with
  | some (some j', w) => if j' = j then (if (b == w) = true then none else some (none, false)) else some (some j', w)
  | g => g
def setG (j : Nat) (b : Bool) : FL → FL
  | [] => []
  | (g, d, o) :: l => (gset j b g, d, o) :: if d = some j then l else setG j b l
theorem guardF_gset {j : Nat} {b : Bool} {env : Env} (he : env j = .bool b) : ∀ g, guardF env (gset j b g) = guardF env g
  | none => rfl
  | some (none, w) => rfl
  | some (some j', w) => by
    unfold gset
    simp only
    split
    · rename_i e
      subst e
      split
      · rename_i e2; simp only [guardF, he, e2]
      · rename_i e2
        have : (b == w) = false := by simpa using e2
        simp only [guardF, he, this]
    · rfl
theorem flatK_setG {j : Nat} {b : Bool} : ∀ {l : FL} {env : Env} {H : Heap}, env j = .bool b → flatK P cf l env H k = flatK P cf (setG j b l) env H k
  | [], _, _, _ => rfl
  | (g, d, o) :: l, env, H, he => by
    have rest : ∀ (v : AV) (H' : Heap), flatK P cf l (env.put d v) H' k = flatK P cf (if d = some j then l else setG j b l) (env.put d v) H' k := by
      intro v H'
      split
      · rfl
      · rename_i hd
        refine flatK_setG ?_
        cases d with
        | none => exact he
        | some d =>
          have : j ≠ d := fun e => hd (by rw [e])
          simp [Env.put, Env.upd, this, he]
    rw [setG, flatK, flatK, guardF_gset he]
    simp only [rest]
theorem setG_nil {j : Nat} {b : Bool} : setG j b [] = [] := rfl
theorem fk_no {w : Bool} {o : Op} : flatK P cf ((some (none, w), d, o) :: l) env H k = flatK P cf l (env.put d (.tup [])) H k := rfl
theorem upd_same {j : Nat} {env : Env} {v : AV} (h : env j = v) : env.upd j v = env := by
  funext i
  simp only [Env.upd]
  split
  · rename_i e; rw [e, h]
  · rfl
/-- What follows, by a guard. -/
def gC (P : Program) (cf : CallF) (j : Nat) (w : Bool) (d : Option Nat) (o : Op) (l : FL) (env : Env) (H : Heap) (k : Env → Heap → Option β) : Option Bool → Option β
  | some t => flatK P cf (setG j t ((some (some j, w), d, o) :: l)) (env.upd j (.bool t)) H k
  | none => flatK P cf l (env.put d (.tup [])) H k
theorem gC_some {j : Nat} {w t : Bool} {o : Op} : gC P cf j w d o l env H k (some t) = flatK P cf (setG j t ((some (some j, w), d, o) :: l)) (env.upd j (.bool t)) H k := rfl
theorem gC_none {j : Nat} {w : Bool} {o : Op} : gC P cf j w d o l env H k none = flatK P cf l (env.put d (.tup [])) H k := rfl
theorem fk_guards {j : Nat} {w : Bool} {o : Op} : flatK P cf ((some (some j, w), d, o) :: l) env H k = brK (env j) (gC P cf j w d o l env H k) := by
  cases hv : env j with
  | bool t => simp only [brK, gC]; rw [upd_same hv]; exact flatK_setG hv
  | undef => simp only [flatK, guardF, hv, brK]
  | _ => simp only [flatK, guardF, hv, brK, gC]
theorem gset_tt {j : Nat} : gset j true (some (some j, true)) = none := by simp [gset]
theorem gset_tf {j : Nat} : gset j true (some (some j, false)) = some (none, false) := by simp [gset]
theorem gset_ft {j : Nat} : gset j false (some (some j, true)) = some (none, false) := by simp [gset]
theorem gset_ff {j : Nat} : gset j false (some (some j, false)) = none := by simp [gset]
def gres (b w : Bool) : Option (Option Nat × Bool) := if (b == w) = true then none else some (none, false)
theorem gset_if {j j' : Nat} {b w : Bool} : gset j b (some (some j', w)) = if j' = j then gres b w else some (some j', w) := rfl
theorem gres_tt : gres true true = none := rfl
theorem gres_tf : gres true false = some (none, false) := rfl
theorem gres_ft : gres false true = some (none, false) := rfl
theorem gres_ff : gres false false = none := rfl
theorem gset_ne {j j' : Nat} {b w : Bool} (h : (j' == j) = false) : gset j b (some (some j', w)) = some (some j', w) := by
  have : j' ≠ j := by simpa using h
  simp [gset, this]
theorem gset_none {j : Nat} {b : Bool} : gset j b none = none := rfl
theorem gset_no {j : Nat} {b w : Bool} : gset j b (some (none, w)) = some (none, w) := rfl
theorem setG_cons {j : Nat} {b : Bool} {g : Option (Option Nat × Bool)} {d : Option Nat} {o : Op} {l : FL} : setG j b ((g, d, o) :: l) = (gset j b g, d, o) :: if d = some j then l else setG j b l := rfl

theorem fk_op {o : Op} (h : ∀ c, o ≠ .call c) : flatK P cf ((none, d, o) :: l) env H k = andThen (opV P (evalV env) o H) fun v H' => flatK P cf l (env.put d v) H' k := by
  have e : stepV P cf o env H = opV P (evalV env) o H := by
    cases o with
    | call c => exact absurd rfl (h c)
    | _ => rfl
  simp only [flatK, guardF, e]
  unfold andThen
  cases opV P (evalV env) o H <;> rfl
theorem fk_move {x : Operand} : flatK P cf ((none, d, .move x) :: l) env H k = flatK P cf l (env.put d (evalV env x)) H k := rfl
theorem fk_assign {x : Operand} : flatK P cf ((none, d, .assign x) :: l) env H k = flatK P cf l (env.put d (evalV env x)) H k := rfl
def pC (P : Program) (cf : CallF) (l : FL) (d : Option Nat) (env : Env) (H : Heap) (k : Env → Heap → Option β) (x y : Operand) : Option Bool → Option β
  | some true => flatK P cf l (env.put d (evalV env x)) H k
  | some false => flatK P cf l (env.put d (evalV env y)) H k
  | none => none
theorem pC_true {x y : Operand} : pC P cf l d env H k x y (some true) = flatK P cf l (env.put d (evalV env x)) H k := rfl
theorem pC_false {x y : Operand} : pC P cf l d env H k x y (some false) = flatK P cf l (env.put d (evalV env y)) H k := rfl
theorem fk_pick {c x y : Operand} : flatK P cf ((none, d, .pick c x y) :: l) env H k = brK (evalV env c) (pC P cf l d env H k x y) := by
  rw [fk_op (fun c h => by cases h)]
  simp only [opV]
  cases evalV env c with
  | bool b => cases b <;> rfl
  | _ => rfl
theorem fk_bin {op : BinOp} {t u : TypeId} {x y : Operand} : flatK P cf ((none, d, .binOp op t x y u) :: l) env H k = bindV (binV P op t (evalV env x) (evalV env y)) (cV P cf l d env H k) := by
  rw [fk_op (fun c h => by cases h)]; exact map_andThen
theorem fk_un {op : UnOp} {t : TypeId} {x : Operand} : flatK P cf ((none, d, .unOp op t x) :: l) env H k = bindV (unV op (evalV env x)) (cV P cf l d env H k) := by
  rw [fk_op (fun c h => by cases h)]; exact map_andThen
theorem fk_index {t : TypeId} {x i : Operand} : flatK P cf ((none, d, .index t x i) :: l) env H k = bindV (indexV P t (evalV env x) (evalV env i)) (cV P cf l d env H k) := by
  rw [fk_op (fun c h => by cases h)]; exact map_andThen
theorem fk_fieldAddr {t : TypeId} {x : Operand} {i : Nat} : flatK P cf ((none, d, .fieldAddr t x i) :: l) env H k = bindV (fieldAddrV P t (evalV env x) i) (cV P cf l d env H k) := by
  rw [fk_op (fun c h => by cases h)]; exact map_andThen
theorem fk_indexAddr {t : TypeId} {x i : Operand} : flatK P cf ((none, d, .indexAddr t x i) :: l) env H k = bindV (indexAddrV P t (evalV env x) (evalV env i) H) (cV P cf l d env H k) := by
  rw [fk_op (fun c h => by cases h)]; exact map_andThen
theorem fk_slice {t : TypeId} {x : Operand} {lo hi mx : Option Operand} : flatK P cf ((none, d, .slice t x lo hi mx) :: l) env H k = bindV (sliceV P t (evalV env x) (lo.map (evalV env)) (hi.map (evalV env)) (mx.map (evalV env)) H) (cV P cf l d env H k) := by
  rw [fk_op (fun c h => by cases h)]; exact map_andThen
theorem fk_lookup {t : TypeId} {x i : Operand} {ok : Bool} : flatK P cf ((none, d, .lookup t x i ok) :: l) env H k = bindV (lookupV P t (evalV env x) (evalV env i) ok H) (cV P cf l d env H k) := by
  rw [fk_op (fun c h => by cases h)]; exact map_andThen
def fieldK (P : Program) (t : TypeId) (v : AV) (f : Nat) : Option AV :=
  match v, fieldOf P t f with
  | .agg cs, some f => if known P f.type = true then partV P f.type cs f.offset else none
  | _, _ => none
theorem fk_field {t : TypeId} {x : Operand} {i : Nat} : flatK P cf ((none, d, .field t x i) :: l) env H k = bindV (fieldK P t (evalV env x) i) (cV P cf l d env H k) := by
  rw [fk_op (fun c h => by cases h)]
  refine Eq.trans ?_ (map_andThen (k := fun v H' => flatK P cf l (env.put d v) H' k))
  congr 1
  simp only [opV, fieldK]
  cases evalV env x <;> try rfl
  cases fieldOf P t i <;> try rfl
  simp only
  split <;> rfl
def loadK (P : Program) (t : TypeId) (a : AV) (H : Heap) : Option AV := if known P t = true then loadV P t a H else none
theorem fk_load {t : TypeId} {a : Operand} : flatK P cf ((none, d, .load t a) :: l) env H k = bindV (loadK P t (evalV env a) H) (cV P cf l d env H k) := by
  rw [fk_op (fun c h => by cases h)]
  refine Eq.trans ?_ (map_andThen (k := fun v H' => flatK P cf l (env.put d v) H' k))
  congr 1
  simp only [opV, loadK]
  split <;> rfl
def storeK (P : Program) (t : TypeId) (a x : AV) (H : Heap) : Option Heap := if known P t = true then storeV P t a x H else none
theorem fk_store {t : TypeId} {a x : Operand} : flatK P cf ((none, d, .store t a x) :: l) env H k = bindV (storeK P t (evalV env a) (evalV env x) H) (cH P cf l d env k) := by
  rw [fk_op (fun c h => by cases h)]
  simp only [opV, storeK]
  split
  · cases storeV P t (evalV env a) (evalV env x) H <;> rfl
  · rfl
def nilCheckV : AV → Option AV
  | .ptr i j => some (.ptr i j)
  | .eptr i j k => some (.eptr i j k)
  | .raddr v => some (.raddr v)
  | _ => none
theorem fk_nilCheck {x : Operand} : flatK P cf ((none, d, .nilCheck x) :: l) env H k = bindV (nilCheckV (evalV env x)) (cV P cf l d env H k) := by
  rw [fk_op (fun c h => by cases h)]
  simp only [opV, nilCheckV]
  cases evalV env x <;> rfl
theorem fk_build {t : TypeId} {ps : Array (Nat × Operand)} : flatK P cf ((none, d, .build t ps) :: l) env H k = bindV (buildV P t (ps.toList.map fun p => (p.1, evalV env p.2))) (cV P cf l d env H k) := by
  rw [fk_op (fun c h => by cases h)]; exact map_andThen
theorem fk_buildSlice {t : TypeId} {n : Nat} {ps : Array (Nat × Operand)} : flatK P cf ((none, d, .buildSlice t n ps) :: l) env H k = andThen (buildSliceV P t n (ps.toList.map fun p => (p.1, evalV env p.2)) H) (cVH P cf l d env k) := by
  rw [fk_op (fun c h => by cases h)]; rfl
theorem fk_alloc {t : TypeId} : flatK P cf ((none, d, .alloc t) :: l) env H k = bindV (zeroP P t) fun z => flatK P cf l (env.put d (.ptr H.length 0)) (H ++ [.box z]) k := by
  rw [fk_op (fun c h => by cases h)]
  simp only [opV]
  cases zeroP P t <;> rfl
theorem fk_box {t : TypeId} {x : Operand} : flatK P cf ((none, d, .box t x) :: l) env H k = if (evalV env x).cells.all AV.one = true then flatK P cf l (env.put d (.ptr H.length 0)) (H ++ [.box (evalV env x).cells]) k else none := by
  rw [fk_op (fun c h => by cases h)]
  simp only [opV]
  split <;> rfl
theorem fk_convert {s t : TypeId} {x : Operand} : flatK P cf ((none, d, .convert s t x) :: l) env H k = andThen (convertV P s t (evalV env x) H) (cVH P cf l d env k) := by
  rw [fk_op (fun c h => by cases h)]; rfl
theorem fk_makeFunc {f : FuncId} {a b : Array Operand} : flatK P cf ((none, d, .makeFunc (.func f) a b) :: l) env H k = flatK P cf l (env.put d (.fn f (a.toList.map (evalV env)) (b.toList.map (evalV env)))) H k := rfl
theorem fk_makeSlice {t : TypeId} {x y : Operand} : flatK P cf ((none, d, .makeSlice t x y) :: l) env H k = andThen (makeSliceV P t (evalV env x) (evalV env y) H) (cVH P cf l d env k) := by
  rw [fk_op (fun c h => by cases h)]; rfl
theorem fk_makeMap {t : TypeId} : flatK P cf ((none, d, .makeMap t none) :: l) env H k = flatK P cf l (env.put d (.map H.length)) (H ++ [.map []]) k := rfl
theorem fk_mapUpdate {t : TypeId} {m x y : Operand} : flatK P cf ((none, d, .mapUpdate t m x y) :: l) env H k = bindV (mapUpdateV P t (evalV env m) (evalV env x) (evalV env y) H) (cH P cf l d env k) := by
  rw [fk_op (fun c h => by cases h)]
  simp only [opV]
  cases mapUpdateV P t (evalV env m) (evalV env x) (evalV env y) H <;> rfl
theorem fk_extract {x : Operand} {i : Nat} {vs : List AV} (h : evalV env x = .tup vs) : flatK P cf ((none, d, .extract x i) :: l) env H k = bindV vs[i]? (cV P cf l d env H k) := by
  rw [fk_op (fun c h => by cases h)]
  simp only [opV, h]
  exact map_andThen
def tupGet (v : AV) (i : Nat) : Option AV := match v with
  | .tup vs => vs[i]?
  | _ => none
theorem tupGet_tup {vs : List AV} {i : Nat} : tupGet (.tup vs) i = vs[i]? := rfl
theorem fk_ext {x : Operand} {i : Nat} : flatK P cf ((none, d, .extract x i) :: l) env H k = bindV (tupGet (evalV env x) i) (cV P cf l d env H k) := by
  rw [fk_op (fun c h => by cases h)]
  simp only [opV, tupGet]
  cases evalV env x <;> first | rfl | exact map_andThen
theorem fk_builtin {b : Builtin} {a : Array Operand} {t : Array TypeId} : flatK P cf ((none, d, .call ⟨.builtin b, a, t⟩) :: l) env H k = andThen (builtinV P b t (a.toList.map (evalV env)) H) (cVH P cf l d env k) := by
  simp only [flatK, guardF, stepV, targetV, opV]
  unfold andThen
  cases builtinV P b t (a.toList.map (evalV env)) H <;> rfl
theorem fk_call {f : FuncId} {a : Array Operand} {t : Array TypeId} : flatK P cf ((none, d, .call ⟨.value (.func f), a, t⟩) :: l) env H k = andThen (cf (.fn f) (a.toList.map (evalV env)) H) (cVH P cf l d env k) := by
  simp only [flatK, guardF, stepV, targetV, evalV, List.nil_append, List.append_nil]
  unfold andThen
  cases cf (.fn f) (a.toList.map (evalV env)) H <;> rfl
theorem fk_callv {x : Nat} {a : Array Operand} {t : Array TypeId} {g : FuncId} {fs cs : List AV} (h : env x = .fn g fs cs) : flatK P cf ((none, d, .call ⟨.value (.tmp x), a, t⟩) :: l) env H k = andThen (cf (.fn g) (fs ++ a.toList.map (evalV env) ++ cs) H) (cVH P cf l d env k) := by
  simp only [flatK, guardF, stepV, targetV, evalV_tmp, h]
  unfold andThen
  cases cf (.fn g) (fs ++ a.toList.map (evalV env) ++ cs) H <;> rfl
def dynC (cf : CallF) (v : AV) (args : List AV) (H : Heap) : Option (AV × Heap) := match v with
  | .fn g fs cs => cf (.fn g) (fs ++ args ++ cs) H
  | .yld i => cf (.yld i) args H
  | _ => none
theorem dynC_fn {g : FuncId} {fs cs args : List AV} : dynC cf (.fn g fs cs) args H = cf (.fn g) (fs ++ args ++ cs) H := rfl
theorem dynC_yld {i : Nat} {args : List AV} : dynC cf (.yld i) args H = cf (.yld i) args H := rfl
theorem fk_callt {x : Nat} {a : Array Operand} {t : Array TypeId} : flatK P cf ((none, d, .call ⟨.value (.tmp x), a, t⟩) :: l) env H k = andThen (dynC cf (env x) (a.toList.map (evalV env)) H) (cVH P cf l d env k) := by
  simp only [flatK, guardF, stepV, targetV, evalV_tmp, dynC]
  unfold andThen
  cases env x <;> simp only [opV] <;> (first | rfl | (split <;> first | rfl | simp_all [cVH]))
theorem fk_yield {x : Nat} {a : Array Operand} {t : Array TypeId} {i : Nat} (h : env x = .yld i) : flatK P cf ((none, d, .call ⟨.value (.tmp x), a, t⟩) :: l) env H k = andThen (cf (.yld i) (a.toList.map (evalV env)) H) (cVH P cf l d env k) := by
  simp only [flatK, guardF, stepV, targetV, evalV_tmp, h]
  unfold andThen
  cases cf (.yld i) (a.toList.map (evalV env)) H <;> rfl
end

/-! ### Values -/
section
variable {t : TypeId} {k k' : IntKind} {a b : Int}
theorem bin_add : binV P .add t (.int k a) (.int k b) = some (.int k (k.wrap (a + b))) := by simp [binV, intBin]
theorem bin_sub : binV P .sub t (.int k a) (.int k b) = some (.int k (k.wrap (a - b))) := by simp [binV, intBin]
theorem bin_mul : binV P .mul t (.int k a) (.int k b) = some (.int k (k.wrap (a * b))) := by simp [binV, intBin]
theorem bin_quo (h : b ≠ 0) : binV P .quo t (.int k a) (.int k b) = some (.int k (k.wrap (a.tdiv b))) := by simp [binV, intBin, h]
theorem bin_rem (h : b ≠ 0) : binV P .rem t (.int k a) (.int k b) = some (.int k (a.tmod b)) := by simp [binV, intBin, h]
theorem bin_and : binV P .and t (.int k a) (.int k b) = some (.int k (k.wrap (BitVec.ofInt k.bits a &&& BitVec.ofInt k.bits b).toNat)) := by simp [binV, intBin]
theorem bin_or : binV P .or t (.int k a) (.int k b) = some (.int k (k.wrap (BitVec.ofInt k.bits a ||| BitVec.ofInt k.bits b).toNat)) := by simp [binV, intBin]
theorem bin_xor : binV P .xor t (.int k a) (.int k b) = some (.int k (k.wrap (BitVec.ofInt k.bits a ^^^ BitVec.ofInt k.bits b).toNat)) := by simp [binV, intBin]
theorem bin_eql : binV P .eql t (.int k a) (.int k b) = some (.bool (decide (a = b))) := by
  have : (a == b) = decide (a = b) := by by_cases h : a = b <;> simp [h]
  simp [binV, intBin, this]
theorem bin_neq : binV P .neq t (.int k a) (.int k b) = some (.bool (decide (a ≠ b))) := by
  have : (a != b) = decide (a ≠ b) := by by_cases h : a = b <;> simp [h]
  simp [binV, intBin, this]
theorem bin_lss : binV P .lss t (.int k a) (.int k b) = some (.bool (decide (a < b))) := by simp [binV, intBin]
theorem bin_leq : binV P .leq t (.int k a) (.int k b) = some (.bool (decide (a ≤ b))) := by simp [binV, intBin]
theorem bin_gtr : binV P .gtr t (.int k a) (.int k b) = some (.bool (decide (b < a))) := by simp [binV, intBin]
theorem bin_geq : binV P .geq t (.int k a) (.int k b) = some (.bool (decide (b ≤ a))) := by simp [binV, intBin]
theorem bin_shl (h : 0 ≤ b) : binV P .shl t (.int k a) (.int k' b) = some (.int k (k.wrap (a * 2 ^ (min b.toNat k.bits)))) := by
  have : ¬ b < 0 := by omega
  simp [binV, shiftV, this]
theorem bin_shr (h : 0 ≤ b) : binV P .shr t (.int k a) (.int k' b) = some (.int k (a.fdiv (2 ^ (min b.toNat k.bits)))) := by
  have : ¬ b < 0 := by omega
  simp [binV, shiftV, this]
theorem str_beq (x y : ByteArray) : (x.data.toList == y.data.toList) = decide (x = y) := by
  have : x.data.toList = y.data.toList ↔ x = y := by
    constructor
    · intro h
      cases x; cases y
      simp only at h
      congr 1
      exact Array.ext' h
    · rintro rfl; rfl
  by_cases h : x = y
  · subst h; simp
  · have : ¬ x.data.toList = y.data.toList := fun e => h (this.1 e)
    simp only [h, decide_false]
    exact beq_eq_false_iff_ne.2 this
theorem bin_seql {x y : ByteArray} : binV P .eql t (.str x) (.str y) = some (.bool (decide (x = y))) := by simp only [binV, strBin, str_beq]
theorem bin_sneq {x y : ByteArray} : binV P .neq t (.str x) (.str y) = some (.bool (!decide (x = y))) := by simp only [binV, strBin, str_beq]
theorem bin_sadd {x y : ByteArray} (h : x.size + y.size ≤ 9223372036854775807) : binV P .add t (.str x) (.str y) = some (.str (x ++ y)) := by
  have : ¬ (((x.size + y.size : Nat) : Int) > IntKind.i64.max) := by
    have : IntKind.i64.max = 9223372036854775807 := by decide
    omega
  simp only [binV, strBin, this, if_false]
theorem un_not {x : Bool} : unV .not (.bool x) = some (.bool !x) := rfl
theorem un_neg : unV .neg (.int k a) = some (.int k (k.wrap (0 - a))) := rfl
theorem eq_nilp_ptr {e : TypeId} {i j : Nat} (h : P.underlying t = some (.pointer e)) : binV P .eql t (.ptr i j) .nilp = some (.bool false) := by simp [binV, eqP, eqAtom, h]
theorem eq_nilp_nilp {e : TypeId} (h : P.underlying t = some (.pointer e)) : binV P .eql t .nilp .nilp = some (.bool true) := by simp [binV, eqP, eqAtom, h]
theorem ne_nilp_ptr {e : TypeId} {i j : Nat} (h : P.underlying t = some (.pointer e)) : binV P .neq t (.ptr i j) .nilp = some (.bool true) := by simp [binV, eqP, eqAtom, h]
theorem ne_nilp_nilp {e : TypeId} (h : P.underlying t = some (.pointer e)) : binV P .neq t .nilp .nilp = some (.bool false) := by simp [binV, eqP, eqAtom, h]
theorem ne_nilp_raddr {e : TypeId} {v : AV} (h : P.underlying t = some (.pointer e)) : binV P .neq t (.raddr v) .nilp = some (.bool true) := by simp [binV, eqP, eqAtom, h]
theorem eq_bool {x y : Bool} (h : P.underlying t = some .bool) : binV P .eql t (.bool x) (.bool y) = some (.bool (x == y)) := by simp [binV, eqP, eqAtom, h]
theorem ne_bool {x y : Bool} (h : P.underlying t = some .bool) : binV P .neq t (.bool x) (.bool y) = some (.bool !(x == y)) := by simp [binV, eqP, eqAtom, h]

/-- The byte of a string at a place. -/
def ByteArray.at (s : ByteArray) (i : Int) : Int := ((s[i.toNat]?).map fun b => (b.toNat : Int)).getD 0
theorem idx_str {s : ByteArray} {i : Int} (hu : P.underlying t = some .string) (h0 : 0 ≤ i) (h1 : i < s.size) : indexV P t (.str s) (.int k i) = some (.int .u8 (ByteArray.at s i)) := by
  have hl : i.toNat < s.size := by omega
  have hs : s[i.toNat]? = some s[i.toNat] := by simp [hl]
  simp [indexV, hu, h0, hs, ByteArray.at]
theorem ByteArray.at_lo (s : ByteArray) (i : Int) : 0 ≤ ByteArray.at s i := by
  unfold ByteArray.at
  cases s[i.toNat]? with
  | none => simp
  | some b => simp
theorem ByteArray.at_hi (s : ByteArray) (i : Int) : ByteArray.at s i < 256 := by
  unfold ByteArray.at
  cases s[i.toNat]? with
  | none => simp
  | some b => simp only [Option.map_some, Option.getD_some]; have := b.toNat_lt; omega
theorem len_str {s : ByteArray} {H : Heap} {r : List AV} {ts : Array TypeId} (h0 : ts[0]? = some t) (hu : P.underlying t = some .string) : builtinV P .len ts (.str s :: r) H = some (.int .i64 s.size, H) := by simp [builtinV, lenV, hu, h0]
theorem len_sl {e : TypeId} {es : List AV} {H : Heap} {r : List AV} {ts : Array TypeId} (h0 : ts[0]? = some t) (hu : P.underlying t = some (.slice e)) : builtinV P .len ts (.sl es :: r) H = some (.int .i64 es.length, H) := by simp [builtinV, lenV, hu, h0]
theorem len_nils {e : TypeId} {H : Heap} {r : List AV} {ts : Array TypeId} (h0 : ts[0]? = some t) (hu : P.underlying t = some (.slice e)) : builtinV P .len ts (.nils :: r) H = some (.int .i64 0, H) := by simp [builtinV, lenV, hu, h0]
theorem len_ref {e : TypeId} {i o n : Nat} {H : Heap} {r : List AV} {ts : Array TypeId} (h0 : ts[0]? = some t) (hu : P.underlying t = some (.slice e)) : builtinV P .len ts (.ref i o n :: r) H = some (.int .i64 n, H) := by simp [builtinV, lenV, hu, h0]
theorem len_arr {e : TypeId} {n : Nat} {v : AV} {H : Heap} {r : List AV} {ts : Array TypeId} (h0 : ts[0]? = some t) (hu : P.underlying t = some (.array n e)) : builtinV P .len ts (v :: r) H = some (.int .i64 n, H) := by
  simp [builtinV, lenV, hu, h0]
theorem conv_int {s : TypeId} {H : Heap} {ds : TypeDesc} (hs : P.underlying s = some ds) (hd : P.underlying t = some (.int k)) : convertV P s t (.int k' a) H = some (.int k (k.wrap a), H) := by simp [convertV, hs, hd]
theorem min_two : minMaxV false (.int k a) [.int k' b] = some (.int k (if b < a then b else a)) := rfl
theorem max_two : minMaxV true (.int k a) [.int k' b] = some (.int k (if b > a then b else a)) := rfl
theorem min_b {ts : Array TypeId} {H : Heap} : builtinV P .min ts [.int k a, .int k' b] H = some (.int k (if b < a then b else a), H) := rfl
theorem max_b {ts : Array TypeId} {H : Heap} : builtinV P .max ts [.int k a, .int k' b] H = some (.int k (if b > a then b else a), H) := rfl
end
section
variable {t : TypeId} {H : Heap}
theorem nc_ptr {i j : Nat} : nilCheckV (.ptr i j) = some (.ptr i j) := rfl
theorem nc_eptr {i j k : Nat} : nilCheckV (.eptr i j k) = some (.eptr i j k) := rfl
theorem nc_raddr {v : AV} : nilCheckV (.raddr v) = some (.raddr v) := rfl
theorem loadK_box {i off : Nat} {cs : List AV} {ds : TypeDesc} (hu : P.underlying t = some ds) (h : H[i]? = some (.box cs)) : loadK P t (.ptr i off) H = loadCs P t cs off := by
  simp [loadK, known, hu, loadV, h]
theorem loadCs_one {cs : List AV} {off : Nat} (hu : isAggP P t = false) : loadCs P t cs off = cs[off]? := by simp [loadCs, hu]
theorem loadCs_agg {cs : List AV} {off n : Nat} (hu : isAggP P t = true) (hc : P.cellsOf t = n) (hn : off + n ≤ cs.length) : loadCs P t cs off = some (.agg ((cs.drop off).take n)) := by simp [loadCs, hu, hc, hn]
theorem storeK_box {i off : Nat} {x : AV} {cs : List AV} {ds : TypeDesc} (hu : P.underlying t = some ds) (hx : x.cells.length = P.cellsOf t) (ho : x.cells.all AV.one = true) (h : H[i]? = some (.box cs)) (hn : off + x.cells.length ≤ cs.length) :
    storeK P t (.ptr i off) x H = some (H.set i (.box (splice cs off x.cells))) := by
  simp only [storeK, known, hu, Option.isSome_some, if_true, storeV, hx, ho, h, and_self]
  rw [if_pos (by omega)]
theorem fa_ptr {fs : Array Field} {f : Field} {n i off : Nat} {ds : TypeDesc} (hu : P.underlying t = some (.struct fs)) (hf : fs[n]? = some f) (hc : P.cellsOf f.type ≠ 0) (hk : P.underlying f.type = some ds) :
    fieldAddrV P t (.ptr i off) n = some (.ptr i (off + f.offset)) := by simp [fieldAddrV, fieldOf, hu, hf, hc, known, hk]
theorem set_get {i : Nat} {ob : Ob} (h : i < H.length) : (H.set i ob)[i]? = some ob := by simp [h]
theorem set_get' {i j : Nat} {ob : Ob} (h : i ≠ j) : (H.set i ob)[j]? = H[j]? := by simp [h]
end

/-! ### Facts of types, as the printed texts want them -/
section
variable {t : TypeId} {H : Heap}
theorem far_agg {cs : List AV} {fs : Array Field} {f : Field} {i n o : Nat} {ds : TypeDesc} (hu : P.underlying t = some (.struct fs)) (hf : fs[i]? = some f) (ho : f.offset = o) (hc : P.cellsOf f.type = n) (hk : P.underlying f.type = some ds) (ha : isAggP P f.type = true)
    (h : o + n ≤ cs.length) (hn : n ≠ 0) : fieldAddrV P t (.raddr (.agg cs)) i = some (.raddr (.agg ((cs.drop o).take n))) := by
  subst hc ho
  simp [fieldAddrV, fieldOf, hu, hf, known, hk, raddrPart, partV, ha, h, hn]
theorem far_one {cs : List AV} {fs : Array Field} {f : Field} {i o : Nat} {v : AV} {ds : TypeDesc} (hu : P.underlying t = some (.struct fs)) (hf : fs[i]? = some f) (hof : f.offset = o) (hc : P.cellsOf f.type = 1) (hk : P.underlying f.type = some ds) (ha : isAggP P f.type = false)
    (h : cs[o]? = some v) (ho : v.one = true) : fieldAddrV P t (.raddr (.agg cs)) i = some (.raddr v) := by
  subst hof
  simp [fieldAddrV, fieldOf, hu, hf, known, hk, raddrPart, partV, ha, h, ho, hc]
theorem fieldK_agg {cs : List AV} {fs : Array Field} {f : Field} {i n o : Nat} {ds : TypeDesc} (hu : P.underlying t = some (.struct fs)) (hf : fs[i]? = some f) (ho : f.offset = o) (hc : P.cellsOf f.type = n) (hk : P.underlying f.type = some ds) (ha : isAggP P f.type = true)
    (h : o + n ≤ cs.length) : fieldK P t (.agg cs) i = some (.agg ((cs.drop o).take n)) := by
  subst hc ho
  simp [fieldK, fieldOf, hu, hf, known, hk, partV, ha, h]
theorem fieldK_one {cs : List AV} {fs : Array Field} {f : Field} {i o : Nat} {ds : TypeDesc} (hu : P.underlying t = some (.struct fs)) (hf : fs[i]? = some f) (ho : f.offset = o) (hk : P.underlying f.type = some ds) (ha : isAggP P f.type = false) :
    fieldK P t (.agg cs) i = cs[o]? := by
  subst ho
  simp [fieldK, fieldOf, hu, hf, known, hk, partV, ha]
theorem loadK_ragg {cs : List AV} {n : Nat} {ds : TypeDesc} (hu : P.underlying t = some ds) (ha : isAggP P t = true) (hc : P.cellsOf t = n) (hn : cs.length = n) : loadK P t (.raddr (.agg cs)) H = some (.agg cs) := by
  simp [loadK, known, hu, loadV, ha, hc, hn]
theorem loadK_rone {v : AV} {ds : TypeDesc} (hu : P.underlying t = some ds) (ha : isAggP P t = false) (hv : v.one = true) : loadK P t (.raddr v) H = some v := by
  simp [loadK, known, hu, loadV, ha, hv]
theorem storeK_one {i off : Nat} {cs : List AV} {v : AV} {ds : TypeDesc} (hu : P.underlying t = some ds) (hc : P.cellsOf t = 1) (h : H[i]? = some (.box cs)) (ho : v.one = true) (hl : off < cs.length) :
    storeK P t (.ptr i off) v H = some (H.set i (.box (cs.set off v))) := by
  have hcs : v.cells = [v] := by cases v <;> first | rfl | (simp [AV.one] at ho)
  rw [storeK_box hu (by rw [hcs, hc]; rfl) (by rw [hcs]; simp [ho]) h (by rw [hcs]; simp; omega), hcs]
  congr 3
  apply List.ext_getElem?
  intro j
  simp only [splice, List.length_singleton]
  rw [List.getElem?_set]
  by_cases hj : j < off
  · rw [List.append_assoc, List.getElem?_append_left (by simp; omega), List.getElem?_take, if_pos hj, if_neg (by omega)]
  · by_cases hj2 : j = off
    · subst hj2
      rw [List.append_assoc, List.getElem?_append_right (by simp; omega)]
      have : j - (List.take j cs).length = 0 := by simp; omega
      rw [this, if_pos rfl, if_pos hl]
      rfl
    · rw [List.getElem?_append_right (by simp; omega), List.getElem?_drop, if_neg (by omega)]
      congr 1
      simp; omega
theorem storeK_agg {i off n : Nat} {cs xs : List AV} {ds : TypeDesc} (hu : P.underlying t = some ds) (hc : P.cellsOf t = n) (h : H[i]? = some (.box cs)) (hn : xs.length = n) (ho : xs.all AV.one = true) (hl : off + n ≤ cs.length) :
    storeK P t (.ptr i off) (.agg xs) H = some (H.set i (.box (splice cs off xs))) := by
  exact storeK_box hu (x := .agg xs) (by simp [AV.cells, hc, hn]) ho h (by simp [AV.cells, hn, hl])
theorem ia_sl {es : List AV} {k : IntKind} {i : Int} {e n : Nat} {v : AV} {ds : TypeDesc} (hu : P.underlying t = some (.slice e)) (hk : P.underlying e = some ds) (hc : P.cellsOf e = n) (h0 : 0 ≤ i) (h1 : es[i.toNat]? = some v) (hv : v.cells.length = n) :
    indexAddrV P t (.sl es) (.int k i) H = some (.raddr v) := by
  have : i < es.length := by have := (List.getElem?_eq_some_iff.1 h1).1; omega
  simp only [indexAddrV, hu, known, hk, h0, this, h1, hv, hc, Option.isSome_some, and_self, if_true]
def slAddr (o : Option AV) (n : Nat) : Option AV := match o with
  | some v => if v.cells.length = n then some (.raddr v) else none
  | none => none
theorem slAddr_some {v : AV} {n : Nat} : slAddr (some v) n = if v.cells.length = n then some (.raddr v) else none := rfl
theorem ia_slA {es : List AV} {k : IntKind} {i : Int} {e n : Nat} {ds : TypeDesc} (hu : P.underlying t = some (.slice e)) (hk : P.underlying e = some ds) (hc : P.cellsOf e = n) (h0 : 0 ≤ i) :
    indexAddrV P t (.sl es) (.int k i) H = slAddr es[i.toNat]? n := by
  simp only [indexAddrV, hu, known, hk, h0, hc, Option.isSome_some, and_true, true_and]
  unfold slAddr
  by_cases hl : i < es.length
  · have : i.toNat < es.length := by omega
    simp only [hl, if_true, List.getElem?_eq_getElem this]
  · have : es[i.toNat]? = none := List.getElem?_eq_none (by omega)
    simp only [hl, if_false, this]
/-- The row that a slice leads to. -/
def rowOb (o : Option Ob) : Option (Bool × Nat × List AV) := match o with
  | some (.row cl sz es) => some (cl, sz, es)
  | some (.ro sz es) => some (true, sz, es)
  | _ => none
theorem rowOf_ob {r : Nat} : rowOf H r = rowOb H[r]? := by
  unfold rowOf rowOb
  cases H[r]? with
  | none => rfl
  | some ob => cases ob <;> rfl
theorem rowOb_row {cl : Bool} {sz : Nat} {es : List AV} : rowOb (some (.row cl sz es)) = some (cl, sz, es) := rfl
theorem rowOb_ro {sz : Nat} {es : List AV} : rowOb (some (.ro sz es)) = some (true, sz, es) := rfl
def refAddr (o : Option (Bool × Nat × List AV)) (sz : Nat) (a : AV) : Option AV := match o with
  | some (_, sz', _) => if sz' = sz then some a else none
  | none => none
theorem refAddr_some {cl : Bool} {sz' sz : Nat} {es : List AV} {a : AV} : refAddr (some (cl, sz', es)) sz a = if sz' = sz then some a else none := rfl
theorem ia_refA {r o n e sz : Nat} {k : IntKind} {i : Int} {ds : TypeDesc} (hu : P.underlying t = some (.slice e)) (hk : P.underlying e = some ds) (hc : P.cellsOf e = sz) (h0 : 0 ≤ i) (h1 : i < n) :
    indexAddrV P t (.ref r o n) (.int k i) H = refAddr (rowOb H[r]?) sz (.eptr r (o + i.toNat) 0) := by
  rw [← rowOf_ob]
  simp only [indexAddrV, hu, known, hk, h0, h1, hc, Option.isSome_some, and_self, if_true]
  unfold refAddr
  cases rowOf H r with
  | none => rfl
  | some q => rfl
def eltGet (o : Option (Bool × Nat × List AV)) (idx off : Nat) : Option AV := match o with
  | some (_, _, es) => (es[idx]?).bind fun e => e.cells[off]?
  | none => none
def eltGetA (o : Option (Bool × Nat × List AV)) (idx off n : Nat) : Option AV := match o with
  | some (_, _, es) => (es[idx]?).bind fun e => if off + n ≤ e.cells.length then some (.agg ((e.cells.drop off).take n)) else none
  | none => none
theorem eltGet_some {cl : Bool} {sz idx off : Nat} {es : List AV} : eltGet (some (cl, sz, es)) idx off = (es[idx]?).bind fun e => e.cells[off]? := rfl
theorem eltGetA_some {cl : Bool} {sz idx off n : Nat} {es : List AV} : eltGetA (some (cl, sz, es)) idx off n = (es[idx]?).bind fun e => if off + n ≤ e.cells.length then some (.agg ((e.cells.drop off).take n)) else none := rfl
theorem loadK_e1 {i idx off : Nat} {ds : TypeDesc} (hu : P.underlying t = some ds) (ha : isAggP P t = false) : loadK P t (.eptr i idx off) H = eltGet (rowOb H[i]?) idx off := by
  rw [← rowOf_ob]
  simp only [loadK, known, hu, Option.isSome_some, if_true, loadV, eltGet]
  cases rowOf H i with
  | none => rfl
  | some q =>
    simp only
    cases q.2.2[idx]? <;> simp [loadCs, ha]
theorem loadK_eA {i idx off n : Nat} {ds : TypeDesc} (hu : P.underlying t = some ds) (ha : isAggP P t = true) (hc : P.cellsOf t = n) : loadK P t (.eptr i idx off) H = eltGetA (rowOb H[i]?) idx off n := by
  rw [← rowOf_ob]
  simp only [loadK, known, hu, Option.isSome_some, if_true, loadV, eltGetA]
  cases rowOf H i with
  | none => rfl
  | some q =>
    simp only
    cases q.2.2[idx]? <;> simp [loadCs, ha, hc]
/-- A literal of one byte, as a string. -/
theorem conv_byte {s : TypeId} {e : TypeId} {cl : Bool} {c : Int} {dd : TypeDesc} (hs : P.underlying s = some (.slice e)) (hd : P.underlying t = some .string) (he : P.underlying e = some (.int .u8)) (h0 : 0 ≤ c) (h1 : c < 256) :
    convertV P s t (.ref H.length 0 1) (H ++ [.row cl 1 [.int .u8 c]]) = some (.str ⟨#[UInt8.ofNat c.toNat]⟩, H ++ [.row cl 1 [.int .u8 c]]) := by
  have hb : isByteP P e = true := by simp [isByteP, he]
  have hr : rowOf (H ++ [.row cl 1 [.int .u8 c]]) H.length = some (cl, 1, [.int .u8 c]) := by simp [rowOf]
  simp [convertV, hs, hd, hb, elems, hr, known, he, toBytes, h0, h1]
theorem ia_ref {r o n e sz : Nat} {cl : Bool} {es : List AV} {k : IntKind} {i : Int} {ds : TypeDesc} (hu : P.underlying t = some (.slice e)) (hk : P.underlying e = some ds) (hc : P.cellsOf e = sz) (h : rowOf H r = some (cl, sz, es)) (h0 : 0 ≤ i) (h1 : i < n) :
    indexAddrV P t (.ref r o n) (.int k i) H = some (.eptr r (o + i.toNat) 0) := by
  simp [indexAddrV, hu, known, hk, h0, h1, h, hc]
theorem sl_lo {s : ByteArray} {k : IntKind} {l : Int} (hu : P.underlying t = some .string) (h0 : 0 ≤ l) (h1 : l ≤ s.size) : sliceV P t (.str s) (some (.int k l)) none none H = some (.str (s.extract l.toNat s.size)) := by
  simp [sliceV, hu, boundsV, boundV, h0, h1]
theorem sl_hi {s : ByteArray} {k : IntKind} {h : Int} (hu : P.underlying t = some .string) (h0 : 0 ≤ h) (h1 : h ≤ s.size) : sliceV P t (.str s) none (some (.int k h)) none H = some (.str (s.extract 0 h.toNat)) := by
  simp [sliceV, hu, boundsV, boundV, h0, h1]
theorem sl_both {s : ByteArray} {k k' : IntKind} {l h : Int} (hu : P.underlying t = some .string) (h0 : 0 ≤ l) (h1 : l ≤ h) (h2 : h ≤ s.size) : sliceV P t (.str s) (some (.int k l)) (some (.int k' h)) none H = some (.str (s.extract l.toNat h.toNat)) := by
  have e1 : 0 ≤ h := by omega
  have e2 : (l ≤ (h.toNat : Int)) := by omega
  have b1 : boundV (some (.int k' h)) s.size s.size = some h.toNat := by simp [boundV, h2, e1]
  have b2 : boundV (some (.int k l)) 0 h.toNat = some l.toNat := by
    show (if 0 ≤ l ∧ l ≤ (h.toNat : Int) then some l.toNat else none) = some l.toNat
    rw [if_pos ⟨h0, e2⟩]
  simp [sliceV, hu, boundsV, b1, b2]
theorem fillV_all {z : AV} : ∀ (vs : List AV) (pre : List AV), fillV (pre ++ List.replicate vs.length z) ((List.range' pre.length vs.length).zip vs) = some (pre ++ vs)
  | [], pre => by simp [fillV]
  | v :: vs, pre => by
    rw [List.length_cons, List.range'_succ, List.zip_cons_cons, fillV, if_pos (by simp)]
    have e : (pre ++ List.replicate (vs.length + 1) z).set pre.length v = (pre ++ [v]) ++ List.replicate vs.length z := by
      rw [List.set_append_right _ _ (Nat.le_refl _), Nat.sub_self, List.replicate_succ, List.set_cons_zero, List.append_assoc]
      rfl
    rw [e]
    have := fillV_all (z := z) vs (pre ++ [v])
    rw [List.length_append, List.length_singleton] at this
    rw [this, List.append_assoc]
    rfl
/-- What lies in a box. -/
def boxGet (o : Option Ob) (off : Nat) : Option AV := match o with
  | some (.box cs) => cs[off]?
  | _ => none
def boxGetA (o : Option Ob) (off n : Nat) : Option AV := match o with
  | some (.box cs) => if off + n ≤ cs.length then some (.agg ((cs.drop off).take n)) else none
  | _ => none
def boxSet (o : Option Ob) (H : Heap) (i off : Nat) (v : AV) : Option Heap := match o with
  | some (.box cs) => if off < cs.length then some (H.set i (.box (cs.set off v))) else none
  | _ => none
def boxSetA (o : Option Ob) (H : Heap) (i off : Nat) (xs : List AV) : Option Heap := match o with
  | some (.box cs) => if off + xs.length ≤ cs.length then some (H.set i (.box (splice cs off xs))) else none
  | _ => none
theorem boxGet_box {cs : List AV} {off : Nat} : boxGet (some (.box cs)) off = cs[off]? := rfl
theorem boxGetA_box {cs : List AV} {off n : Nat} : boxGetA (some (.box cs)) off n = if off + n ≤ cs.length then some (.agg ((cs.drop off).take n)) else none := rfl
theorem boxSet_box {cs : List AV} {i off : Nat} {v : AV} : boxSet (some (.box cs)) H i off v = if off < cs.length then some (H.set i (.box (cs.set off v))) else none := rfl
theorem boxSetA_box {cs xs : List AV} {i off : Nat} : boxSetA (some (.box cs)) H i off xs = if off + xs.length ≤ cs.length then some (H.set i (.box (splice cs off xs))) else none := rfl
theorem cells_one {v : AV} (h : v.one = true) : v.cells = [v] := by cases v <;> first | rfl | (simp [AV.one] at h)
theorem loadK_p1 {i off : Nat} {ds : TypeDesc} (hu : P.underlying t = some ds) (ha : isAggP P t = false) : loadK P t (.ptr i off) H = boxGet H[i]? off := by
  simp only [loadK, known, hu, Option.isSome_some, if_true, loadV, boxGet]
  cases H[i]? with
  | none => rfl
  | some ob => cases ob <;> simp [loadCs, ha]
theorem loadK_pA {i off n : Nat} {ds : TypeDesc} (hu : P.underlying t = some ds) (ha : isAggP P t = true) (hc : P.cellsOf t = n) : loadK P t (.ptr i off) H = boxGetA H[i]? off n := by
  simp only [loadK, known, hu, Option.isSome_some, if_true, loadV, boxGetA]
  cases H[i]? with
  | none => rfl
  | some ob => cases ob <;> simp [loadCs, ha, hc]
theorem storeK_p1 {i off : Nat} {v : AV} {ds : TypeDesc} (hu : P.underlying t = some ds) (hc : P.cellsOf t = 1) (ho : v.one = true) : storeK P t (.ptr i off) v H = boxSet H[i]? H i off v := by
  cases h : H[i]? with
  | none => simp [storeK, known, hu, storeV, h, boxSet]
  | some ob =>
    cases ob with
    | box cs =>
      simp only [boxSet]
      split
      · rename_i hl
        exact storeK_one hu hc h ho hl
      · rename_i hl
        have hcs := cells_one ho
        have : ¬ off + 1 ≤ cs.length := by omega
        simp [storeK, known, hu, storeV, h, hcs, hc, ho, this]
    | _ => simp [storeK, known, hu, storeV, h, boxSet]
theorem storeK_pA {i off n : Nat} {xs : List AV} {ds : TypeDesc} (hu : P.underlying t = some ds) (hc : P.cellsOf t = n) (hn : xs.length = n) (ho : xs.all AV.one = true) : storeK P t (.ptr i off) (.agg xs) H = boxSetA H[i]? H i off xs := by
  cases h : H[i]? with
  | none => simp [storeK, known, hu, storeV, h, boxSetA]
  | some ob =>
    cases ob with
    | box cs =>
      simp only [boxSetA]
      split
      · rename_i hl
        exact storeK_agg hu hc h hn ho (by omega)
      · rename_i hl
        have : ¬ off + (AV.agg xs).cells.length ≤ cs.length := by simpa [AV.cells] using hl
        simp only [storeK, known, hu, storeV, h, Option.isSome_some, if_true]
        rw [if_neg this]
        simp
    | _ => simp [storeK, known, hu, storeV, h, boxSetA]
theorem get_app_lt {i : Nat} {l : List Ob} (h : i < H.length) : (H ++ l)[i]? = H[i]? := List.getElem?_append_left h
theorem get_app_ge {i : Nat} {l : List Ob} (h : H.length ≤ i) : (H ++ l)[i]? = l[i - H.length]? := List.getElem?_append_right h
theorem res_nil {env : Env} : ressV P env H [] = some [] := rfl
def consO (v : Option AV) (r : Option (List AV)) : Option (List AV) := match v, r with
  | some v, some r => some (v :: r)
  | _, _ => none
theorem consO_some {v : AV} {r : List AV} : consO (some v) (some r) = some (v :: r) := rfl
theorem res_tmp {env : Env} {a : Nat} {rs : List ResultVar} : ressV P env H (.tmp a :: rs) = consO (some (env a)) (ressV P env H rs) := by
  rw [ressV, resV]; simp only [consO]; cases ressV P env H rs <;> rfl
theorem res_cell {env : Env} {a : Nat} {ty : TypeId} {rs : List ResultVar} : ressV P env H (.cell a ty :: rs) = consO (loadK P ty (env a) H) (ressV P env H rs) := by
  rw [ressV, resV, loadK]; cases (if known P ty = true then loadV P ty (env a) H else none) <;> cases ressV P env H rs <;> rfl
theorem fk_allocz {cf : CallF} {l : FL} {β : Type} {env : Env} {k : Env → Heap → Option β} {d : Option Nat} {z : List AV} (h : zeroP P t = some z) : flatK P cf ((none, d, .alloc t) :: l) env H k = flatK P cf l (env.put d (.ptr H.length 0)) (H ++ [.box z]) k := by
  rw [fk_alloc, h]; rfl
theorem buildV_of {pl : Nat → Option (Nat × Nat)} {parts : List (Nat × AV)} {z r : List AV} (hz : zeroP P t = some z) (h : (∃ fs, P.underlying t = some (.struct fs) ∧ fs.toList.all (fun f => known P f.type) = true ∧ (fun i => (placesP P fs.toList)[i]?) = pl) ∨ (∃ n e, P.underlying t = some (.array n e) ∧ known P e = true ∧ (fun i => some (i * P.cellsOf e, P.cellsOf e)) = pl)) (hf : fillCs pl z parts = some r) : buildV P t parts = some (.agg r) := by
  rcases h with ⟨fs, h1, h2, rfl⟩ | ⟨n, e, h1, h2, rfl⟩
  · simp only [buildV, hz, h1, h2, if_true]
    rw [hf]; rfl
  · simp only [buildV, hz, h1, h2, if_true]
    rw [hf]; rfl
def finR (o : Option (List AV)) (H : Heap) : Option (AV × Heap) := match o with
  | some [v] => some (v, H)
  | some vs => some (.tup vs, H)
  | none => none
end

/-! ### Calls by value -/
mutual
/-- A value that is frozen. -/
def AV.still : AV → Bool
  | .bool _ | .int .. | .str _ | .nilp | .nils | .nilm | .nilf | .nili | .sl _ | .raddr _ => true
  | .agg cs => stills cs
  | .tup cs => stills cs
  | _ => false
def stills : List AV → Bool
  | [] => true
  | v :: vs => v.still && stills vs
end
mutual
theorem freeze_still {H : Heap} : ∀ {x : AV}, x.still = true → freeze H x = some (x, H)
  | .agg cs, h => by
    rw [AV.still] at h; rw [freeze, freezes_still h]
  | .tup cs, h => by
    rw [AV.still] at h; rw [freeze, freezes_still h]
  | .bool _, _ | .int .., _ | .str _, _ | .nilp, _ | .nils, _ | .nilm, _ | .nilf, _ | .nili, _ | .sl _, _ | .raddr _, _ => by simp [freeze]
  | .undef, h | .ref .., h | .ptr .., h | .eptr .., h | .map _, h | .yld _, h | .fn .., h => by simp [AV.still] at h
theorem freezes_still {H : Heap} : ∀ {xs : List AV}, stills xs = true → freezes H xs = some (xs, H)
  | [], _ => by simp [freezes]
  | x :: xs, h => by
    rw [stills, Bool.and_eq_true] at h
    rw [freezes, freeze_still h.1]
    simp only
    rw [freezes_still h.2]
end
mutual
theorem still_scalar : ∀ {x : AV}, x.scalar = true → x.still = true
  | .agg cs, h => by rw [AV.scalar] at h; rw [AV.still, stills_scalar h]
  | .tup cs, h => by rw [AV.scalar] at h; rw [AV.still, stills_scalar h]
  | .bool _, _ | .int .., _ | .str _, _ | .nilp, _ | .nils, _ | .nilm, _ | .nilf, _ | .nili, _ | .sl _, _ | .raddr _, _ => by simp [AV.still]
  | .undef, h | .ref .., h | .ptr .., h | .eptr .., h | .map _, h | .yld _, h | .fn .., h => by simp [AV.scalar] at h
theorem stills_scalar : ∀ {xs : List AV}, scalars xs = true → stills xs = true
  | [], _ => by simp [stills]
  | x :: xs, h => by
    rw [scalars, Bool.and_eq_true] at h
    rw [stills, still_scalar h.1, stills_scalar h.2]; rfl
end

/-- A call by value, of frozen arguments, with an answer that leads to no memory. -/
theorem call_pure {g : FuncId} {fn : Func} {c : Code} {args : List AV} {H H1 : Heap} {r : AV} (hx : C.ext g = none) (hf : C.P.funcs[g]? = some fn) (hb : fn.body = some c) (hv : (C.vm g == 2) = true)
    (ha : stills args = true) (hs : r.scalar = true) (hr : runL C none fn [.code c] (initEnv args) [] [] = some (r, H1)) : callL C (.fn g) args H = some (r, H) := by
  have h2 : C.vm g = 2 := by simpa using hv
  rw [callL_val hx hf hb (by rw [h2]; rfl), freezes_still ha]
  simp only [hr, Option.bind_some, freeze_still (still_scalar hs), hv, if_true, hs]

/-- A call by value, of frozen arguments. -/
theorem call_value {g : FuncId} {fn : Func} {c : Code} {args : List AV} {H H1 H2 : Heap} {r r' : AV} (hx : C.ext g = none) (hf : C.P.funcs[g]? = some fn) (hb : fn.body = some c) (hv : (C.vm g == 1) = true)
    (ha : stills args = true) (hr : runL C none fn [.code c] (initEnv args) [] [] = some (r, H1)) (hz : freeze H1 r = some (r', H2)) : callL C (.fn g) args H = some (r', H) := by
  have h2 : C.vm g = 1 := by simpa using hv
  rw [callL_val hx hf hb (by rw [h2]; rfl), freezes_still ha]
  simp only [hr, Option.bind_some, hz, h2]
  rfl

/-- The end of a round. -/
def roundEnd (o : Option Ob) (H : Heap) (i : Nat) (j : Option Code) : Option (AV × Heap) := match o with
  | some (.loop e ps a b _ _) => some (.bool j.isNone, H.set i (.loop e ps a b (if j.isNone then .ready else .done) j))
  | _ => none
theorem roundEnd_none {e : Env} {ps : Array Tmp} {a b : Code} {st : LoopState} {pd : Option Code} {H : Heap} {i : Nat} : roundEnd (some (.loop e ps a b st pd)) H i none = some (.bool true, H.set i (.loop e ps a b .ready none)) := rfl
theorem roundEnd_some {e : Env} {ps : Array Tmp} {a b c : Code} {st : LoopState} {pd : Option Code} {H : Heap} {i : Nat} : roundEnd (some (.loop e ps a b st pd)) H i (some c) = some (.bool false, H.set i (.loop e ps a b .done (some c))) := rfl
theorem leave_round {P : Program} {i : Nat} {fn : Func} {j : Option Code} {env : Env} {H : Heap} : leaveV P (some i) fn j env [] H = roundEnd H[i]? H i j := by
  unfold leaveV roundEnd
  dsimp only
  generalize H[i]? = o
  cases o with
  | none => rfl
  | some ob => cases ob <;> rfl
/-- The end of a function that had a loop over a function. -/
def collEnd (o : Option Ob) (P : Program) (fn : Func) (env : Env) (H : Heap) (i : Nat) : Option (AV × Heap) := match o with
  | some .defs => finishV P fn env (H.set i .dead)
  | _ => none
theorem collEnd_defs {P : Program} {fn : Func} {env : Env} {H : Heap} {i : Nat} : collEnd (some .defs) P fn env H i = finishV P fn env (H.set i .dead) := rfl
theorem leave_coll {P : Program} {fn : Func} {j : Option Code} {env : Env} {H : Heap} {i : Nat} : leaveV P none fn j env [.coll i] H = collEnd H[i]? P fn env H i := by
  unfold leaveV collEnd deferV
  dsimp only
  generalize H[i]? = o
  cases o with
  | none => rfl
  | some ob => cases ob <;> rfl
theorem set_app0 {H l : Heap} {ob : Ob} : (H ++ l).set H.length ob = H ++ l.set 0 ob := by
  rw [List.set_append_right _ _ (Nat.le_refl _), Nat.sub_self]
theorem set_app {H l : Heap} {k : Nat} {ob : Ob} : (H ++ l).set (H.length + k) ob = H ++ l.set k ob := by
  rw [List.set_append_right _ _ (by omega), Nat.add_sub_cancel_left]
theorem get_set_self {H : Heap} {i : Nat} {ob : Ob} : (H.set i ob)[i]? = H[i]?.map fun _ => ob := by
  by_cases h : i < H.length
  · rw [List.getElem?_set_self h, List.getElem?_eq_getElem h]; rfl
  · rw [List.getElem?_eq_none (by simp; omega), List.getElem?_eq_none (by omega)]; rfl
theorem get_set_ne {H : Heap} {i j : Nat} {ob : Ob} (h : i ≠ j) : (H.set i ob)[j]? = H[j]? := List.getElem?_set_ne h
theorem get_set_eq {H : Heap} {i : Nat} {ob : Ob} (h : i < H.length) : (H.set i ob)[i]? = some ob := List.getElem?_set_self h
/-- A literal of frozen values. -/
theorem buildSlice_still {P : Program} {t e : TypeId} {n sz : Nat} {vs z : List AV} {z' : AV} {H : Heap} (hu : P.underlying t = some (.slice e)) (hz : zeroP P e = some z) (hm : mkV (isAggP P e) z = some z') (hc : P.cellsOf e = sz)
    (hzc : z'.cells.length = sz) (hk : (P.underlying e).isSome = true) (hn : vs.length = n) (h16 : n ≤ 2 ^ 16) (h24 : n * sz ≤ 2 ^ 24) (hst : stills vs = true) (hsz : sizedV sz vs = true) (hkn : vs.all AV.kn = true) :
    buildSliceV P t n ((List.range n).zip vs) H = some (.ref H.length 0 n, H ++ [.row true sz vs]) := by
  subst hc hn
  have e1 : ((List.range vs.length).zip vs).map (·.2) = vs := by rw [List.map_snd_zip]; simp
  have e2 : ((List.range vs.length).zip vs).map (·.1) = List.range vs.length := by rw [List.map_fst_zip]; simp
  have hf := fillV_all (z := z') vs []
  simp only [List.nil_append, List.length_nil, ← List.range_eq_range'] at hf
  simp only [buildSliceV, hu, hz, hm, known, hk, h16, h24, hzc, and_self, if_true, e1, e2, freezes_still hst, hsz, hkn, hf]
theorem finR_one {v : AV} {H : Heap} : finR (some [v]) H = some (v, H) := rfl
theorem finR_two {v w : AV} {vs : List AV} {H : Heap} : finR (some (v :: w :: vs)) H = some (.tup (v :: w :: vs), H) := rfl
theorem finR_nil {H : Heap} : finR (some []) H = some (.tup [], H) := rfl
theorem cells_int {k : IntKind} {n : Int} : (AV.int k n).cells = [.int k n] := rfl
theorem cells_bool {n : Bool} : (AV.bool n).cells = [.bool n] := rfl
theorem cells_str {n : ByteArray} : (AV.str n).cells = [.str n] := rfl
theorem cells_ptr {i j : Nat} : (AV.ptr i j).cells = [.ptr i j] := rfl
theorem cells_nilp : AV.nilp.cells = [.nilp] := rfl
theorem cells_nils : AV.nils.cells = [.nils] := rfl
theorem cells_ref {i j k : Nat} : (AV.ref i j k).cells = [.ref i j k] := rfl
theorem cells_sl {l : List AV} : (AV.sl l).cells = [.sl l] := rfl
theorem cells_map {i : Nat} : (AV.map i).cells = [.map i] := rfl
theorem cells_fn {f : Nat} {a b : List AV} : (AV.fn f a b).cells = [.fn f a b] := rfl
theorem cells_agg {cs : List AV} : (AV.agg cs).cells = cs := rfl
theorem one_int {k : IntKind} {n : Int} : (AV.int k n).one = true := by simp [AV.one]
theorem one_bool {n : Bool} : (AV.bool n).one = true := by simp [AV.one]
theorem one_str {n : ByteArray} : (AV.str n).one = true := by simp [AV.one]
theorem one_ptr {i j : Nat} : (AV.ptr i j).one = true := by simp [AV.one]
theorem one_eptr {i j k : Nat} : (AV.eptr i j k).one = true := by simp [AV.one]
theorem one_ref {i j k : Nat} : (AV.ref i j k).one = true := by simp [AV.one]
theorem one_sl {l : List AV} : (AV.sl l).one = true := by simp [AV.one]
theorem one_nils : AV.nils.one = true := by simp [AV.one]
theorem one_nilp : AV.nilp.one = true := by simp [AV.one]
theorem one_nilm : AV.nilm.one = true := by simp [AV.one]
theorem one_map {i : Nat} : (AV.map i).one = true := by simp [AV.one]
theorem one_fn {f : Nat} {a b : List AV} : (AV.fn f a b).one = true := by simp [AV.one]
theorem one_raddr {v : AV} : (AV.raddr v).one = true := by simp [AV.one]
theorem splice_all {cs xs : List AV} (h : xs.length = cs.length) : splice cs 0 xs = xs := by simp [splice, h]
theorem ext_call {C : Cfg} {g : FuncId} {e : List AV → Option AV} {args : List AV} {H : Heap} {r : AV} (hx : C.ext g = some e) (ha : stills args = true) (he : e args = some r) (hs : r.scalar = true) : callL C (.fn g) args H = some (r, H) := by
  rw [callL_ext hx, freezes_still ha]
  simp only [he, hs, if_true]

end Go.V
