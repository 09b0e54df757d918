/- A region whose operations may change places comes to the same in every order. No conditions. -/
import Derived.Test.YthcpmjljdncigaaGreatDoorZVRun
import Derived.Orders
set_option linter.unusedSimpArgs false
set_option linter.unusedVariables false
namespace Go.V
variable {C : Cfg}

theorem put_comm (env : Env) {x y : Option Nat} (v u : AV) (h : ∀ d, x = some d → y ≠ some d) : (env.put x v).put y u = (env.put y u).put x v := by
  cases x with
  | none => rfl
  | some d => cases y with
    | none => rfl
    | some e =>
      have hne : d ≠ e := fun he => h d rfl (he ▸ rfl)
      funext i
      simp only [Env.put, Env.upd]
      by_cases h1 : i = e
      · subst h1; simp [Ne.symm hne]
      · simp [h1]

theorem evalV_put {env : Env} {x : Option Nat} {v : AV} {o : Operand} (h : ∀ d, x = some d → o ≠ .tmp d) : evalV (env.put x v) o = evalV env o := by
  cases x with
  | none => rfl
  | some d =>
    cases o with
    | tmp t => simp only [evalV, Env.put, Env.upd]; rw [if_neg]; intro e; exact h d rfl (by rw [e])
    | const v => rfl
    | func f => rfl
    | global g => rfl

theorem guardV_put {ops : Array Oper} {env : Env} {x : Option Nat} {v : AV} {o : Oper} (h : ∀ d, x = some d → d ∉ slotsOf ops o) : guardV ops (env.put x v) o.guard = guardV ops env o.guard := by
  unfold guardV
  cases hg : o.guard with
  | none => rfl
  | some g =>
    obtain ⟨j, want⟩ := g
    simp only
    cases hd : (ops[j]?).bind (·.dst) with
    | none => rfl
    | some d =>
      simp only
      have : (env.put x v) d = env d := by
        cases x with
        | none => rfl
        | some e =>
          simp only [Env.put, Env.upd]
          rw [if_neg]
          intro e1
          subst e1
          exact h d rfl (by unfold slotsOf; rw [hg]; simp [hd])
      rw [this]

theorem operands_of {ops : Array Oper} {o : Oper} {x : Option Nat} (h : ∀ d, x = some d → d ∉ slotsOf ops o) : ∀ y ∈ o.op.operands, ∀ d, x = some d → y ≠ .tmp d := by
  intro y hy d hd e
  refine h d hd ?_
  unfold slotsOf
  refine List.mem_append.2 (.inl ?_)
  rw [List.mem_filterMap]
  exact ⟨y, by simpa using hy, by rw [e]⟩

/-- An operation hangs on its operands alone. -/
theorem opV_congr {P : Program} {ρ ρ' : Operand → AV} {o : Op} {H : Heap} (h : ∀ x ∈ o.operands, ρ x = ρ' x) : opV P ρ o H = opV P ρ' o H := by
  have pairs : ∀ ps : Array (Nat × Operand), (∀ x ∈ (ps.toList.map (·.2)).toArray, ρ x = ρ' x) → (ps.toList.map fun p => (p.1, ρ p.2)) = (ps.toList.map fun p => (p.1, ρ' p.2)) := fun ps hp =>
    List.map_congr_left fun p hm => by rw [hp p.2 (by simp; exact ⟨p.1, by simpa using hm⟩)]
  have lists : ∀ xs : Array Operand, (∀ x ∈ xs, ρ x = ρ' x) → xs.toList.map ρ = xs.toList.map ρ' := fun xs hx => List.map_congr_left fun x hm => hx x (by simpa using hm)
  have opts : ∀ x : Option Operand, (∀ y ∈ x.toArray, ρ y = ρ' y) → x.map ρ = x.map ρ' := fun x hx => by cases x <;> simp_all
  cases o <;> simp only [Op.operands] at h <;> simp only [opV]
  case move x => rw [h x (by simp)]
  case assign x => rw [h x (by simp)]
  case pick c a b => rw [h c (by simp), h a (by simp), h b (by simp)]
  case box t x => rw [h x (by simp)]
  case build t ps => rw [pairs ps h]
  case buildSlice t n ps => rw [pairs ps h]
  case load t a => rw [h a (by simp)]
  case store t a x => rw [h a (by simp), h x (by simp)]
  case nilCheck x => rw [h x (by simp)]
  case binOp op t x y ty => rw [h x (by simp), h y (by simp)]
  case unOp op t x => rw [h x (by simp)]
  case convert s d x => rw [h x (by simp)]
  case makeFunc fn first caps =>
    cases fn <;> simp only
    rw [lists first fun x hx => h x (by simp [hx]), lists caps fun x hx => h x (by simp [hx])]
  case makeSlice t l c => rw [h l (by simp), h c (by simp)]
  case slice t x lo hi mx => rw [h x (by simp), opts lo fun y hy => h y (by simp at hy ⊢; simp [hy]), opts hi fun y hy => h y (by simp at hy ⊢; simp [hy]), opts mx fun y hy => h y (by simp at hy ⊢; simp [hy])]
  case fieldAddr t x f => rw [h x (by simp)]
  case field t x f => rw [h x (by simp)]
  case indexAddr t x i => rw [h x (by simp), h i (by simp)]
  case index t x i => rw [h x (by simp), h i (by simp)]
  case extract x i => rw [h x (by simp)]
  case call c =>
    obtain ⟨callee, args, ts⟩ := c
    cases callee <;> simp only [Call.operands] at h ⊢
    rw [lists args fun x hx => h x (by simp [hx])]
  case makeMap t r => cases r <;> rfl
  case range t x => rw [h x (by simp)]
  case next x b => cases b <;> simp only <;> rw [h x (by simp)]
  case lookup t x k ok => rw [h x (by simp), h k (by simp)]
  case mapUpdate t m k v => rw [h m (by simp), h k (by simp), h v (by simp)]
  case insert t m k v => rw [h m (by simp), h k (by simp), h v (by simp)]

theorem targetV_congr {env env' : Env} {c : Call} (h : ∀ x ∈ c.operands, evalV env x = evalV env' x) : targetV env c = targetV env' c := by
  unfold targetV
  cases hc : c.callee with
  | value f =>
    simp only
    rw [h f (by simp [Call.operands, hc])]
    have : c.args.toList.map (evalV env) = c.args.toList.map (evalV env') := List.map_congr_left fun x hm => h x (by simp [Call.operands, hc]; exact .inr (by simpa using hm))
    rw [this]
  | invoke r n => rfl
  | builtin b => rfl

theorem stepV_congr {P : Program} {cf : CallF} {env env' : Env} {o : Op} {H : Heap} (h : ∀ x ∈ o.operands, evalV env x = evalV env' x) : stepV P cf o env H = stepV P cf o env' H := by
  unfold stepV
  cases o with
  | call c =>
    simp only
    rw [targetV_congr h]
    cases targetV env' c with
    | none => exact opV_congr h
    | some q => rfl
  | _ => exact opV_congr h

theorem class0 {P : Program} {cf : CallF} {o : Op} {env : Env} {H H1 : Heap} {v : AV} (hP : P = C.P) (hc : opClass C o = 0) (h : stepV P cf o env H = some (v, H1)) : H1 = H ∧ ∀ H2, stepV P cf o env H2 = some (v, H2) := by
  subst hP
  have pick : ∀ {f : Option AV} {H1 : Heap} {v : AV}, f.map (fun v => (v, H)) = some (v, H1) → H1 = H ∧ ∀ H2 : Heap, f.map (fun v => (v, H2)) = some (v, H2) := by
    intro f H1 v h
    cases f with
    | none => simp at h
    | some w => simp at h; obtain ⟨rfl, rfl⟩ := h; exact ⟨rfl, fun _ => rfl⟩
  cases o <;> simp only [opClass] at hc <;> try (cases hc; done)
  case move x => simp [stepV, opV] at h ⊢; exact ⟨h.2.symm, h.1⟩
  case assign x => simp [stepV, opV] at h ⊢; exact ⟨h.2.symm, h.1⟩
  case pick c a b =>
    simp only [stepV, opV] at h ⊢
    split at h
    · cases h; exact ⟨rfl, fun _ => rfl⟩
    · cases h; exact ⟨rfl, fun _ => rfl⟩
    · cases h
  case build t ps => exact pick h
  case nilCheck x =>
    simp only [stepV, opV] at h ⊢
    split at h
    · cases h; exact ⟨rfl, fun _ => rfl⟩
    · cases h; exact ⟨rfl, fun _ => rfl⟩
    · cases h; exact ⟨rfl, fun _ => rfl⟩
    · cases h
  case binOp op t x y ty => exact pick h
  case unOp op t x => exact pick h
  case makeFunc fn first caps =>
    cases fn <;> simp [stepV, opV] at h ⊢
    exact ⟨h.2.symm, h.1⟩
  case fieldAddr t x f => exact pick h
  case field t x f =>
    simp only [stepV, opV] at h ⊢
    split at h
    · split at h
      · rename_i hk; simp only [hk, if_true]; exact pick h
      · cases h
    · cases h
  case index t x i => exact pick h
  case extract x i =>
    simp only [stepV, opV] at h ⊢
    split at h
    · exact pick h
    · cases h
  case convert s d x =>
    split at hc
    · rename_i k hd
      simp only [stepV, opV, convertV] at h ⊢
      rw [hd] at h ⊢
      split at h
      · cases h; rename_i heq _; cases heq; exact ⟨rfl, fun _ => rfl⟩
      all_goals first
        | (rename_i heq; cases heq; done)
        | (rename_i heq _; cases heq; done)
        | (rename_i heq _ _; cases heq; done)
        | (cases h; done)
    · cases hc
  case call c =>
    obtain ⟨callee, args, ts⟩ := c
    cases callee with
    | builtin b => cases b <;> simp at hc
    | value f => cases f <;> simp at hc; split at hc <;> cases hc
    | invoke r n => simp at hc

theorem class1 {rec : RunF} {o : Op} {env : Env} {H H1 : Heap} {v : AV} (hc : opClass C o = 1) (h : stepV C.P (callV C rec) o env H = some (v, H1)) : H1 = H := by
  have pick : ∀ {f : Option AV} {H1 : Heap} {v : AV}, f.map (fun v => (v, H)) = some (v, H1) → H1 = H := by
    intro f H1 v h
    cases f with
    | none => simp at h
    | some w => simp at h; exact h.2.symm
  cases o <;> simp only [opClass] at hc <;> try (cases hc; done)
  case load t x =>
    simp only [stepV, opV] at h
    split at h
    · exact pick h
    · cases h
  case indexAddr t x i => exact pick h
  case slice t x lo hi mx => exact pick h
  case convert s d x => split at hc <;> cases hc
  case call c =>
    obtain ⟨callee, args, ts⟩ := c
    cases callee with
    | builtin b =>
      simp only [stepV, targetV, opV, builtinV] at h
      cases b <;> simp at hc
      all_goals (split at h <;> first
        | (rename_i heq; cases heq; done)
        | (rename_i heq _; cases heq; done)
        | (cases h; done)
        | exact pick h
        | (split at h <;> first | exact pick h | (cases h; done) | (split at h <;> first | (cases h; rfl) | (cases h; done))))
    | value f =>
      cases f <;> simp at hc
      rename_i g
      simp only [stepV, targetV, evalV, callV] at h
      split at h
      · split at h
        · cases h
        · split at h
          · cases h
          · split at h
            · cases h; rfl
            · cases h
      · rename_i hext
        rw [hext] at hc
        split at h
        · cases h
        · split at h
          · cases h
          · split at h
            · rename_i hv; rw [hv] at hc; simp at hc
            · unfold valCall at h
              split at h
              · cases h
              · split at h
                · cases h
                · split at h
                  · cases h
                  · split at h
                    · split at h
                      · cases h; rfl
                      · cases h
                    · rename_i hp
                      exfalso
                      simp at hc
                      exact hp (by simpa using hc)
    | invoke r n => simp at hc

theorem opsRun_cons {P : Program} {cf : CallF} {ops : Array Oper} {i : Nat} {l : List Nat} {o : Oper} {env : Env} {H : Heap} (ho : ops[i]? = some o) :
    opsRun P cf ops (i :: l) env H = match guardV ops env o.guard with
      | none => none
      | some false => opsRun P cf ops l (env.put o.dst (.tup [])) H
      | some true => match stepV P cf o.op env H with
        | none => none
        | some (v, H') => opsRun P cf ops l (env.put o.dst v) H' := by
  rw [opsRun, ho]; rfl

/-- Two neighbours change places. -/
theorem swap2 {rec : RunF} {ops : Array Oper} {i j : Nat} {x y : Oper} (hx : ops[j]? = some x) (hy : ops[i]? = some y) (hm : mayswap C ops x y = true) {l : List Nat} {env : Env} {H : Heap} {fin : Env × Heap}
    (h : opsRun C.P (callV C rec) ops (j :: i :: l) env H = some fin) : opsRun C.P (callV C rec) ops (i :: j :: l) env H = some fin := by
  unfold mayswap at hm
  simp only [Bool.and_eq_true, Bool.or_eq_true, beq_iff_eq] at hm
  obtain ⟨⟨h1, h2⟩, h3⟩ := hm
  have hxy : ∀ d, x.dst = some d → d ∉ slotsOf ops y := by intro d hd; rw [hd] at h1; simp at h1; exact h1.1
  have hxd : ∀ d, x.dst = some d → y.dst ≠ some d := by intro d hd; rw [hd] at h1; simp at h1; exact h1.2
  have hyx : ∀ d, y.dst = some d → d ∉ slotsOf ops x := by intro d hd; rw [hd] at h2; simpa using h2
  have gy : ∀ v, guardV ops (env.put x.dst v) y.guard = guardV ops env y.guard := fun v => guardV_put hxy
  have gx : ∀ v, guardV ops (env.put y.dst v) x.guard = guardV ops env x.guard := fun v => guardV_put hyx
  have sy : ∀ v H, stepV C.P (callV C rec) y.op (env.put x.dst v) H = stepV C.P (callV C rec) y.op env H := fun v H => stepV_congr fun z hz => evalV_put fun d hd => operands_of hxy z hz d hd
  have sx : ∀ v H, stepV C.P (callV C rec) x.op (env.put y.dst v) H = stepV C.P (callV C rec) x.op env H := fun v H => stepV_congr fun z hz => evalV_put fun d hd => operands_of hyx z hz d hd
  have pc : ∀ v u, (env.put x.dst v).put y.dst u = (env.put y.dst u).put x.dst v := fun v u => put_comm env v u hxd
  rw [opsRun_cons hx] at h
  rw [opsRun_cons hy]
  cases hgx : guardV ops env x.guard with
  | none => rw [hgx] at h; simp at h
  | some bx =>
    rw [hgx] at h
    cases bx with
    | false =>
      simp only at h
      rw [opsRun_cons hy, gy] at h
      cases hgy : guardV ops env y.guard with
      | none => rw [hgy] at h; simp at h
      | some byy =>
        rw [hgy] at h
        cases byy with
        | false =>
          simp only at h ⊢
          rw [opsRun_cons hx, gx, hgx]
          simp only
          rw [← pc]; exact h
        | true =>
          simp only at h ⊢
          rw [sy] at h
          cases hs : stepV C.P (callV C rec) y.op env H with
          | none => rw [hs] at h; simp at h
          | some q =>
            obtain ⟨v, H1⟩ := q
            rw [hs] at h
            simp only at h ⊢
            rw [opsRun_cons hx, gx, hgx]
            simp only
            rw [← pc]; exact h
    | true =>
      simp only at h
      cases hsx : stepV C.P (callV C rec) x.op env H with
      | none => rw [hsx] at h; simp at h
      | some q =>
        obtain ⟨v, H1⟩ := q
        rw [hsx] at h
        simp only at h
        rw [opsRun_cons hy, gy] at h
        cases hgy : guardV ops env y.guard with
        | none => rw [hgy] at h; simp at h
        | some byy =>
          rw [hgy] at h
          cases byy with
          | false =>
            simp only at h ⊢
            rw [opsRun_cons hx, gx, hgx]
            simp only
            rw [sx, hsx]
            simp only
            rw [← pc]; exact h
          | true =>
            simp only at h ⊢
            rw [sy] at h
            cases hsy : stepV C.P (callV C rec) y.op env H1 with
            | none => rw [hsy] at h; simp at h
            | some q2 =>
              obtain ⟨u, H2⟩ := q2
              rw [hsy] at h
              simp only at h
              have both : stepV C.P (callV C rec) y.op env H = some (u, H2) ∧ stepV C.P (callV C rec) x.op env H2 = some (v, H2) ∨
                  (∃ H3, stepV C.P (callV C rec) y.op env H = some (u, H3) ∧ stepV C.P (callV C rec) x.op env H3 = some (v, H2)) := by
                rcases h3 with (h3 | h3) | h3
                · obtain ⟨e1, e2⟩ := class0 rfl h3 hsx
                  subst e1
                  exact .inl ⟨hsy, e2 H2⟩
                · obtain ⟨e1, e2⟩ := class0 rfl h3 hsy
                  subst e1
                  exact .inr ⟨H, e2 H, hsx⟩
                · by_cases e0 : opClass C x.op = 0
                  · obtain ⟨e1, e2⟩ := class0 rfl e0 hsx
                    subst e1
                    exact .inl ⟨hsy, e2 H2⟩
                  · by_cases e1 : opClass C y.op = 0
                    · obtain ⟨e1, e2⟩ := class0 rfl e1 hsy
                      subst e1
                      exact .inr ⟨H, e2 H, hsx⟩
                    · have e3 : opClass C x.op = 1 := by omega
                      have e4 : opClass C y.op = 1 := by omega
                      have e5 := class1 e3 hsx
                      subst e5
                      have e6 := class1 e4 hsy
                      subst e6
                      exact .inl ⟨hsy, hsx⟩
              rcases both with ⟨e1, e2⟩ | ⟨H3, e1, e2⟩
              · rw [e1]
                simp only
                rw [opsRun_cons hx, gx, hgx]
                simp only
                rw [sx, e2]
                simp only
                rw [← pc]; exact h
              · rw [e1]
                simp only
                rw [opsRun_cons hx, gx, hgx]
                simp only
                rw [sx, e2]
                simp only
                rw [← pc]; exact h

theorem opsRun_congr {P : Program} {cf : CallF} {ops : Array Oper} {i : Nat} {l l' : List Nat} (h : ∀ env H fin, opsRun P cf ops l env H = some fin → opsRun P cf ops l' env H = some fin) {env : Env} {H : Heap} {fin : Env × Heap}
    (k : opsRun P cf ops (i :: l) env H = some fin) : opsRun P cf ops (i :: l') env H = some fin := by
  rw [opsRun] at k ⊢
  cases ho : ops[i]? with
  | none => rw [ho] at k; exact h _ _ _ k
  | some o =>
    rw [ho] at k
    simp only at k ⊢
    cases hg : guardV ops env o.guard with
    | none => rw [hg] at k; simp at k
    | some b =>
      rw [hg] at k
      cases b with
      | false => exact h _ _ _ k
      | true =>
        simp only at k ⊢
        cases hs : stepV P cf o.op env H with
        | none => rw [hs] at k; simp at k
        | some q => rw [hs] at k; exact h _ _ _ k

/-- One goes to the front. -/
theorem to_front {rec : RunF} {ops : Array Oper} {i : Nat} {y : Oper} (hy : ops[i]? = some y) : ∀ {l1 l2 : List Nat}, (∀ j ∈ l1, ∃ x, ops[j]? = some x ∧ mayswap C ops x y = true) → ∀ {env : Env} {H : Heap} {fin : Env × Heap},
    opsRun C.P (callV C rec) ops (l1 ++ i :: l2) env H = some fin → opsRun C.P (callV C rec) ops (i :: (l1 ++ l2)) env H = some fin
  | [], l2, _, env, H, fin, h => h
  | j :: l1, l2, hm, env, H, fin, h => by
    obtain ⟨x, hx, hs⟩ := hm j (by simp)
    have := opsRun_congr (l := l1 ++ i :: l2) (l' := i :: (l1 ++ l2)) (fun env H fin k => to_front hy (fun q hq => hm q (by simp [hq])) k) (by simpa using h)
    exact swap2 hx hy hs this

/-- The operations that aren't listed yet, ascending. -/
def unl (listed : Array Bool) (n : Nat) : List Nat := (List.range n).filter fun i => !listed.getD i true

theorem mem_unl {listed : Array Bool} {n i : Nat} : i ∈ unl listed n ↔ i < n ∧ listed.getD i true = false := by simp [unl]

theorem split_filter {p : Nat → Bool} {i : Nat} (hp : p i = true) : ∀ {l : List Nat}, l.Pairwise (· < ·) → i ∈ l → ∃ l1 l2, l.filter p = l1 ++ i :: l2 ∧ (∀ j ∈ l1, j < i ∧ j ∈ l ∧ p j = true) ∧ l.filter (fun j => p j && j != i) = l1 ++ l2
  | [], _, h => by simp at h
  | x :: l, hs, h => by
    rw [List.pairwise_cons] at hs
    rcases List.mem_cons.1 h with rfl | h
    · refine ⟨[], l.filter p, by simp [hp], by simp, ?_⟩
      simp only [List.filter_cons, hp, bne_self_eq_false, Bool.and_false, Bool.false_eq_true, if_false, List.nil_append]
      refine List.filter_congr fun j hj => ?_
      have := hs.1 j hj
      have : j ≠ i := by omega
      simp [this]
    · obtain ⟨l1, l2, e1, e2, e3⟩ := split_filter hp hs.2 h
      have hxi := hs.1 i h
      by_cases hx : p x = true
      · refine ⟨x :: l1, l2, by simp [List.filter_cons, hx, e1], ?_, ?_⟩
        · intro j hj
          rcases List.mem_cons.1 hj with rfl | hj
          · exact ⟨hxi, by simp, hx⟩
          · obtain ⟨a, b, c⟩ := e2 j hj; exact ⟨a, by simp [b], c⟩
        · have : x ≠ i := by omega
          simp [List.filter_cons, hx, this, e3]
      · refine ⟨l1, l2, by simp [List.filter_cons, hx, e1], ?_, by simp [List.filter_cons, hx, e3]⟩
        intro j hj
        obtain ⟨a, b, c⟩ := e2 j hj; exact ⟨a, by simp [b], c⟩

theorem getD_set {l : Array Bool} {i j : Nat} {d : Bool} (hi : i < l.size) : (l.setIfInBounds i true).getD j d = if j = i then true else l.getD j d := by
  by_cases h : j = i
  · subst h; simp [Array.getD_eq_getD_getElem?, Array.getElem?_setIfInBounds, hi]
  · have : i ≠ j := Ne.symm h
    simp [Array.getD_eq_getD_getElem?, Array.getElem?_setIfInBounds, h, this]

theorem getD_any {l : Array Bool} {i : Nat} (hi : i < l.size) (d e : Bool) : l.getD i d = l.getD i e := by
  simp [Array.getD_eq_getD_getElem?, hi]

theorem draw_go {rec : RunF} {ops : Array Oper} (hd : drawOk C ops = true) : ∀ (fuel t : Nat) (listed : Array Bool), listed.size = ops.size → (unl listed ops.size).length ≤ fuel →
    (∀ k, k < ops.size → listed.getD k false = true → ∀ i, i < k → ((aheadOf ops.toList).getD k 0).testBit i = true → listed.getD i false = true) →
    ∀ {env : Env} {H : Heap} {fin : Env × Heap}, opsRun C.P (callV C rec) ops (unl listed ops.size) env H = some fin → opsRun C.P (callV C rec) ops (Region.linearise.go .any ops fuel t listed []) env H = some fin := by
  intro fuel
  unfold drawOk at hd
  rw [List.all_eq_true] at hd
  generalize hah : aheadOf ops.toList = ah at hd
  induction fuel with
  | zero =>
    intro t listed hsz hlen _ env H fin h
    have : unl listed ops.size = [] := List.length_eq_zero_iff.1 (by omega)
    rw [this] at h
    simpa [Region.linearise.go] using h
  | succ fuel ih =>
    intro t listed hsz hlen hcl env H fin h
    simp only [Region.linearise.go]
    generalize hrs : ((List.range ops.size).filter fun i => !listed.getD i true && ((ops[i]?).map (·.after.all fun e => !Region.binds .any e || listed.getD e.on false)).getD false) = rs
    have inR : ∀ i, i ∈ rs ↔ i < ops.size ∧ listed.getD i true = false ∧ ∀ e ∈ (ops.getD i default).after, Region.binds .any e = true → listed.getD e.on false = true := by
      intro i
      rw [← hrs]
      simp only [List.mem_filter, List.mem_range, Bool.and_eq_true, Bool.not_eq_true']
      constructor
      · rintro ⟨h1, h2, h3⟩
        refine ⟨h1, h2, ?_⟩
        simp only [Array.getElem?_eq_getElem h1, Option.map_some, Option.getD_some, Array.all_eq_true_iff_forall_mem, Bool.or_eq_true, Bool.not_eq_true'] at h3
        intro e he hb
        simp only [Array.getD_eq_getD_getElem?, Array.getElem?_eq_getElem h1, Option.getD_some] at he
        rcases h3 e he with h4 | h4
        · rw [hb] at h4; cases h4
        · exact h4
      · rintro ⟨h1, h2, h3⟩
        refine ⟨h1, h2, ?_⟩
        simp only [Array.getElem?_eq_getElem h1, Option.map_some, Option.getD_some, Array.all_eq_true_iff_forall_mem, Bool.or_eq_true, Bool.not_eq_true']
        intro e he
        cases hb : Region.binds .any e with
        | false => exact .inl rfl
        | true => exact .inr (h3 e (by simpa only [Array.getD_eq_getD_getElem?, Array.getElem?_eq_getElem h1, Option.getD_some] using he) hb)
    cases hi : rs[t % rs.length]? with
    | none =>
      have hnil : rs = [] := by
        cases hr : rs with
        | nil => rfl
        | cons x xs =>
          rw [hr] at hi
          have hlt : t % (x :: xs).length < (x :: xs).length := Nat.mod_lt _ (by simp)
          simp at hi
          simp at hlt
          omega
      have hun : unl listed ops.size = [] := by
        cases hu : unl listed ops.size with
        | nil => rfl
        | cons x xs =>
          exfalso
          have hx := mem_unl.1 (hu ▸ List.mem_cons_self : x ∈ unl listed ops.size)
          have first : ∀ j, j < x → listed.getD j true = true := by
            intro j hj
            cases hb : listed.getD j true with
            | true => rfl
            | false =>
              have hm := mem_unl.2 ⟨Nat.lt_trans hj hx.1, hb⟩
              rw [hu] at hm
              have hp : (x :: xs).Pairwise (· < ·) := by rw [← hu]; exact List.Pairwise.filter _ List.pairwise_lt_range
              rw [List.pairwise_cons] at hp
              rcases List.mem_cons.1 hm with e | hm
              · omega
              · have := hp.1 j hm; omega
          have hready : x ∈ rs := by
            rw [inR]
            refine ⟨hx.1, hx.2, fun e he hb => ?_⟩
            have hdx := hd x (List.mem_range.2 hx.1)
            simp only [Bool.and_eq_true, Array.all_eq_true_iff_forall_mem] at hdx
            have := hdx.1 e he
            simp [hb] at this
            rw [getD_any (by rw [hsz]; exact Nat.lt_trans this hx.1) false true]
            exact first _ this
          rw [hnil] at hready; simp at hready
      rw [hun] at h
      simpa using h
    | some i =>
      simp only
      have him := (inR i).1 (List.mem_of_getElem? hi)
      obtain ⟨h1, h2, h3⟩ := him
      rw [linearise_go_acc, List.reverse_singleton, List.singleton_append]
      obtain ⟨l1, l2, e1, e2, e3⟩ := split_filter (p := fun i => !listed.getD i true) (i := i) (by simp only [h2, Bool.not_false]) List.pairwise_lt_range (List.mem_range.2 h1)
      have hil : i < listed.size := by rw [hsz]; exact h1
      have hnew : unl (listed.setIfInBounds i true) ops.size = l1 ++ l2 := by
        rw [← e3]
        refine List.filter_congr fun j _ => ?_
        rw [getD_set hil]
        by_cases hji : j = i <;> simp [hji]
      have hdi := hd i (List.mem_range.2 h1)
      simp only [Bool.and_eq_true, List.all_eq_true, List.mem_range] at hdi
      have closed : ∀ j, j < i → (ah.getD i 0).testBit j = true → listed.getD j false = true := by
        intro j hj hb
        have := hdi.2 j hj
        rw [if_pos hb] at this
        simp only [Array.any_eq_true', Bool.and_eq_true, Bool.or_eq_true, beq_iff_eq, decide_eq_true_eq] at this
        obtain ⟨e, he, hbind, hor⟩ := this
        have hl := h3 e he hbind
        rcases hor with rfl | ⟨hlt, hb'⟩
        · exact hl
        · have hon : e.on < ops.size := by
            have := hdi.1
            rw [Array.all_eq_true_iff_forall_mem] at this
            have := this e he
            simp [hbind] at this
            omega
          exact hcl e.on hon hl j hlt hb'
      have hy : ops[i]? = some (ops.getD i default) := by simp [Array.getD_eq_getD_getElem?, h1]
      have hfront := to_front (C := C) (rec := rec) hy (l1 := l1) (l2 := l2) (fun j hj => by
        obtain ⟨hji, hjn, hjl⟩ := e2 j hj
        have hjn := List.mem_range.1 hjn
        refine ⟨ops.getD j default, by simp [Array.getD_eq_getD_getElem?, hjn], ?_⟩
        have := hdi.2 j hji
        by_cases hb : (ah.getD i 0).testBit j = true
        · have h5 := closed j hji hb
          rw [getD_any (by rw [hsz]; exact hjn) false true] at h5
          simp [h5] at hjl
        · rw [if_neg hb] at this; exact this) (env := env) (H := H) (fin := fin) (by rw [← e1]; exact h)
      refine opsRun_congr (fun env H fin k => ih _ _ (by simp [hsz]) ?_ ?_ k) (by rw [hnew]; exact hfront)
      · have : (unl listed ops.size).length = (l1 ++ i :: l2).length := by rw [← e1]; rfl
        rw [hnew]
        simp at this ⊢
        omega
      · intro k hk hkl j hj hb
        rw [getD_set hil] at hkl ⊢
        by_cases hji : j = i
        · simp [hji]
        · rw [if_neg hji]
          by_cases hki : k = i
          · subst hki; exact closed j hj (by first | exact hb | (rw [← hah]; exact hb))
          · rw [if_neg hki] at hkl; exact hcl k hk hkl j hj (by first | exact hb | (rw [hah]; exact hb))

theorem draw_any {rec : RunF} {ops : Array Oper} (hd : drawOk C ops = true) {env : Env} {H : Heap} {fin : Env × Heap} (h : opsRun C.P (callV C rec) ops (List.range ops.size) env H = some fin) (t : Nat) :
    opsRun C.P (callV C rec) ops (Region.linearise .any ops t) env H = some fin := by
  unfold Region.linearise
  have e : unl (Array.replicate ops.size false) ops.size = List.range ops.size := by
    unfold unl
    rw [List.filter_eq_self]
    intro i hi
    have := List.mem_range.1 hi
    simp [Array.getD_eq_getD_getElem?, this]
  refine draw_go hd _ _ _ (by simp) (by rw [e]; simp) ?_ (by rw [e]; exact h)
  intro k hk hl
  simp [Array.getD_eq_getD_getElem?, hk] at hl

end Go.V
