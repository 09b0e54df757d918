/- A region that draws its order, with reads beside changes and allocs beside allocs: if the checks at its canonical order pass, it comes to the same in every order. No conditions. -/
import Derived.Test.YthcpmjljdncigaaGreatDoorZVDraw
set_option linter.unusedSimpArgs false
set_option linter.unusedVariables false
namespace Go.V
variable {C : Cfg}

mutual
theorem eqv_eq : ∀ {x y : AV}, x.eqv y = true → x = y
  | .undef, y, h => by cases y <;> simp [AV.eqv] at h <;> rfl
  | .nilp, y, h => by cases y <;> simp [AV.eqv] at h <;> rfl
  | .nils, y, h => by cases y <;> simp [AV.eqv] at h <;> rfl
  | .nilm, y, h => by cases y <;> simp [AV.eqv] at h <;> rfl
  | .nilf, y, h => by cases y <;> simp [AV.eqv] at h <;> rfl
  | .nili, y, h => by cases y <;> simp [AV.eqv] at h <;> rfl
  | .bool a, y, h => by cases y <;> simp [AV.eqv] at h; simp [h]
  | .int k a, y, h => by cases y <;> simp [AV.eqv] at h; simp [h]
  | .str a, y, h => by
    cases y <;> simp only [AV.eqv, Bool.false_eq_true] at h
    rename_i b
    obtain ⟨⟨a⟩⟩ := a; obtain ⟨⟨b⟩⟩ := b
    simp at h; simp [h]
  | .sl a, y, h => by cases y <;> simp only [AV.eqv, Bool.false_eq_true] at h; rw [eqvs_eq h]
  | .ref i j k, y, h => by cases y <;> simp [AV.eqv] at h; simp [h]
  | .ptr i j, y, h => by cases y <;> simp [AV.eqv] at h; simp [h]
  | .eptr i j k, y, h => by cases y <;> simp [AV.eqv] at h; simp [h]
  | .raddr a, y, h => by cases y <;> simp only [AV.eqv, Bool.false_eq_true] at h; rw [eqv_eq h]
  | .map i, y, h => by cases y <;> simp [AV.eqv] at h; simp [h]
  | .yld i, y, h => by cases y <;> simp [AV.eqv] at h; simp [h]
  | .fn f a b, y, h => by
    cases y <;> simp only [AV.eqv, Bool.false_eq_true] at h
    simp only [Bool.and_eq_true, beq_iff_eq] at h
    rw [h.1.1, eqvs_eq h.1.2, eqvs_eq h.2]
  | .agg a, y, h => by cases y <;> simp only [AV.eqv, Bool.false_eq_true] at h; rw [eqvs_eq h]
  | .tup a, y, h => by cases y <;> simp only [AV.eqv, Bool.false_eq_true] at h; rw [eqvs_eq h]
theorem eqvs_eq : ∀ {x y : List AV}, eqvs x y = true → x = y
  | [], y, h => by cases y <;> simp [eqvs] at h; rfl
  | x :: xs, y, h => by
    cases y with
    | nil => simp [eqvs] at h
    | cons y ys => simp only [eqvs, Bool.and_eq_true] at h; rw [eqv_eq h.1, eqvs_eq h.2]
end

/-- The same heap, with more of its places filled. -/
def Fill (Hs H : Heap) : Prop := ∀ (s : Nat) (ob : Ob), Hs[s]? = some ob → ob ≠ Ob.hole → H[s]? = some ob

section
variable {rec : RunF} {ops : Array Oper} {sl : Option Nat}

theorem slots_at {i : Nat} {o : Oper} (ho : ops[i]? = some o) : ops.getD i default = o := by simp [Array.getD_eq_getD_getElem?, ho]

theorem actD_congr {i : Nat} {env env' : Env} {H : Heap} (h : ∀ o, ops[i]? = some o → ∀ d ∈ slotsOf ops o, env d = env' d) : actD C rec ops sl i env H = actD C rec ops sl i env' H := by
  unfold actD
  cases ho : ops[i]? with
  | none => rfl
  | some o =>
    have hs := h o ho
    have hg : guardV ops env o.guard = guardV ops env' o.guard := by
      unfold guardV
      cases hg : o.guard with
      | none => rfl
      | some g =>
        obtain ⟨j, want⟩ := g
        simp only
        cases hd : (ops[j]?).bind (·.dst) with
        | none => rfl
        | some d => simp only; rw [hs d (by unfold slotsOf; rw [hg]; simp [hd])]
    have he : ∀ x ∈ o.op.operands, evalV env x = evalV env' x := by
      intro x hx
      cases x with
      | tmp t =>
        simp only [evalV]
        refine hs t ?_
        unfold slotsOf
        refine List.mem_append.2 (.inl ?_)
        rw [List.mem_filterMap]
        exact ⟨.tmp t, by simpa using hx, rfl⟩
      | _ => rfl
    simp only
    rw [hg]
    cases guardV ops env' o.guard with
    | none => rfl
    | some b => cases b with
      | false => rfl
      | true =>
        simp only
        split
        · rfl
        · rw [stepV_congr he]

theorem cl_at {i : Nat} {o : Oper} (ho : ops[i]? = some o) : clD C ops sl i = dclass C sl o := by unfold clD; rw [slots_at ho]

theorem actD_plain {i : Nat} {o : Oper} {env : Env} {H : Heap} (ho : ops[i]? = some o) (hc : clD C ops sl i ≠ 2) :
    actD C rec ops sl i env H = match guardV ops env o.guard with
      | none => none
      | some false => some (.tup [], H)
      | some true => stepV C.P (callV C rec) o.op env H := by
  unfold actD
  rw [ho]
  simp only
  cases guardV ops env o.guard with
  | none => rfl
  | some b => cases b with
    | false => rfl
    | true =>
      simp only
      split
      · rename_i base t hop
        rw [cl_at ho] at hc
        unfold dclass at hc
        simp [isAlloc, hop] at hc
      · rfl

theorem act_pure {i : Nat} {env : Env} {H H1 : Heap} {v : AV} (hc : clD C ops sl i = 0) (h : actD C rec ops sl i env H = some (v, H1)) : H1 = H ∧ ∀ H2, actD C rec ops sl i env H2 = some (v, H2) := by
  cases ho : ops[i]? with
  | none => unfold actD at h; rw [ho] at h; simp at h
  | some o =>
    have hne : clD C ops sl i ≠ 2 := by omega
    rw [actD_plain ho hne] at h
    cases hg : guardV ops env o.guard with
    | none => rw [hg] at h; simp at h
    | some b => cases b with
      | false => rw [hg] at h; simp at h; obtain ⟨rfl, rfl⟩ := h; exact ⟨rfl, fun H2 => by rw [actD_plain ho hne, hg]⟩
      | true =>
        rw [hg] at h
        simp only at h
        have hc' : opClass C o.op = 0 := by
          rw [cl_at ho] at hc; unfold dclass at hc; split at hc
          · cases hc
          · exact hc
        obtain ⟨e1, e2⟩ := class0 rfl hc' h
        exact ⟨e1, fun H2 => by rw [actD_plain ho hne, hg]; exact e2 H2⟩

theorem act_read {i : Nat} {env : Env} {H H1 : Heap} {v : AV} (hc : clD C ops sl i = 1) (h : actD C rec ops sl i env H = some (v, H1)) : H1 = H := by
  cases ho : ops[i]? with
  | none => unfold actD at h; rw [ho] at h; simp at h
  | some o =>
    have hne : clD C ops sl i ≠ 2 := by omega
    rw [actD_plain ho hne] at h
    cases hg : guardV ops env o.guard with
    | none => rw [hg] at h; simp at h
    | some b => cases b with
      | false => rw [hg] at h; simp at h; exact h.2.symm
      | true =>
        rw [hg] at h
        simp only at h
        have hc' : opClass C o.op = 1 := by
          rw [cl_at ho] at hc; unfold dclass at hc; split at hc
          · cases hc
          · exact hc
        exact class1 hc' h

theorem rowOf_fill {Hs H : Heap} (hf : Fill Hs H) {i : Nat} {x : Bool × Nat × List AV} (h : rowOf Hs i = some x) : rowOf H i = some x := by
  unfold rowOf at h ⊢
  split at h
  · rename_i e; rw [hf _ _ e (by simp)]; exact h
  · rename_i e; rw [hf _ _ e (by simp)]; exact h
  · cases h

theorem loadV_fill {P : Program} {Hs H : Heap} (hf : Fill Hs H) {t : TypeId} {a v : AV} (h : loadV P t a Hs = some v) : loadV P t a H = some v := by
  unfold loadV at h ⊢
  split at h
  · split at h
    · rename_i e; simp only [hf _ _ e (by simp)]; exact h
    · cases h
  · split at h
    · rename_i e; rw [rowOf_fill hf e]; exact h
    · cases h
  · exact h
  · cases h

theorem indexAddrV_fill {P : Program} {Hs H : Heap} (hf : Fill Hs H) {t : TypeId} {a ix v : AV} (h : indexAddrV P t a ix Hs = some v) : indexAddrV P t a ix H = some v := by
  unfold indexAddrV at h ⊢
  split at h
  · split at h
    · exact h
    · split at h
      · rename_i hc
        simp only [hc, if_true]
        split at h
        · rename_i e; rw [rowOf_fill hf e]; exact h
        · cases h
      · cases h
    · exact h
    · exact h
    · exact h
    · cases h
  · cases h

/-- What a plain read tells, it tells when more places are filled. -/
theorem early_mono {a : Ann} {Hs H : Heap} (hf : Fill Hs H) (hr : simpleRead (ops.getD a.i default).op = true) (hs : sameAt C rec ops sl a Hs = true) : actD C rec ops sl a.i a.e H = some (a.v, H) := by
  unfold sameAt at hs
  split at hs
  · rename_i v H1 hact
    have hv := eqv_eq hs
    subst hv
    cases ho : ops[a.i]? with
    | none => unfold actD at hact; rw [ho] at hact; simp at hact
    | some o =>
      rw [slots_at ho] at hr
      have hop : ∀ t, o.op ≠ .alloc t := by intro t e; rw [e] at hr; simp [simpleRead] at hr
      unfold actD at hact ⊢
      rw [ho] at hact ⊢
      simp only at hact ⊢
      cases hg : guardV ops a.e o.guard with
      | none => rw [hg] at hact; simp at hact
      | some b => cases b with
        | false => rw [hg] at hact; simp at hact; rw [← hact.1]
        | true =>
          rw [hg] at hact
          simp only at hact ⊢
          split at hact
          · rename_i base t hop'; exact absurd hop' (hop t)
          · obtain ⟨od, oo, ot, opp, oa, og⟩ := o
            simp only at hr hact hop ⊢
            cases oo with
            | load t x =>
              simp only [stepV, opV] at hact ⊢
              split at hact
              · rename_i hk
                simp only [hk, if_true]
                cases hl : loadV C.P t (evalV a.e x) Hs with
                | none => rw [hl] at hact; simp at hact
                | some w => rw [hl] at hact; simp at hact; rw [loadV_fill hf hl]; simp [hact.1]
              · cases hact
            | indexAddr t x ix =>
              simp only [stepV, opV] at hact ⊢
              cases hl : indexAddrV C.P t (evalV a.e x) (evalV a.e ix) Hs with
              | none => rw [hl] at hact; simp at hact
              | some w => rw [hl] at hact; simp at hact; rw [indexAddrV_fill hf hl]; simp [hact.1]
            | _ => simp [simpleRead] at hr
  · cases hs

theorem act_alloc {i : Nat} {env : Env} {H H1 : Heap} {v : AV} (hc : clD C ops sl i = 2) (h : actD C rec ops sl i env H = some (v, H1)) :
    (H1 = H ∧ ∀ H2, actD C rec ops sl i env H2 = some (v, H2)) ∨ ∃ s z, H[s]? = some .hole ∧ H1 = H.set s (.box z) ∧ ∀ H2 : Heap, H2[s]? = some .hole → actD C rec ops sl i env H2 = some (v, H2.set s (.box z)) := by
  cases ho : ops[i]? with
  | none => unfold actD at h; rw [ho] at h; simp at h
  | some o =>
    rw [cl_at ho] at hc
    unfold dclass at hc
    split at hc
    · rename_i hsa
      simp only [Bool.and_eq_true] at hsa
      obtain ⟨base, rfl⟩ := Option.isSome_iff_exists.1 hsa.1
      obtain ⟨od, oo, ot, opp, oa, og⟩ := o
      cases oo <;> simp [isAlloc] at hsa
      rename_i t
      unfold actD at h
      rw [ho] at h
      simp only at h
      cases hg : guardV ops env og with
      | none => rw [hg] at h; simp at h
      | some b => cases b with
        | false =>
          rw [hg] at h; simp at h; obtain ⟨rfl, rfl⟩ := h
          exact .inl ⟨rfl, fun H2 => by unfold actD; rw [ho]; simp only; rw [hg]⟩
        | true =>
          rw [hg] at h
          simp only at h
          split at h
          · rename_i hh
            cases hz : zeroP C.P t with
            | none => rw [hz] at h; simp at h
            | some z =>
              rw [hz] at h; simp at h; obtain ⟨rfl, rfl⟩ := h
              refine .inr ⟨_, z, hh, rfl, fun H2 h2 => ?_⟩
              unfold actD; rw [ho]; simp only; rw [hg]; simp only [h2, hz, Option.map_some]
          · cases h
    · unfold opClass at hc
      split at hc <;> first | (cases hc; done) | (split at hc <;> cases hc)

theorem Fill.set {Hs H : Heap} (hf : Fill Hs H) {s : Nat} {ob : Ob} (hs : H[s]? = some .hole) : Fill Hs (H.set s ob) := by
  intro q o hq hne
  by_cases e : s = q
  · subst e
    have := hf _ _ hq hne
    rw [hs] at this; cases this; exact absurd rfl hne
  · rw [List.getElem?_set_ne e]; exact hf _ _ hq hne

/-- A run that goes as it went in the canonical order. -/
def RunA (C : Cfg) (rec : RunF) (ops : Array Oper) (sl : Option Nat) (Hs : Heap) : List Ann → Env → Heap → Env × Heap → Prop
  | [], env, H, fin => fin = (env, H)
  | a :: l, env, H, fin => ∃ H', (∀ o, ops[a.i]? = some o → ∀ d ∈ slotsOf ops o, env d = a.e d) ∧ (clD C ops sl a.i = 3 → H = a.pre ∧ H' = a.post) ∧ (clD C ops sl a.i = 2 → Fill Hs H) ∧
      actD C rec ops sl a.i env H = some (a.v, H') ∧ RunA C rec ops sl Hs l (env.put (dstOf ops a.i) a.v) H' fin

theorem apart_spec {x y : Oper} (h : apartD ops x y = true) : (∀ d, x.dst = some d → d ∉ slotsOf ops y) ∧ (∀ d, x.dst = some d → y.dst ≠ some d) ∧ (∀ d, y.dst = some d → d ∉ slotsOf ops x) := by
  unfold apartD at h
  simp only [Bool.and_eq_true] at h
  obtain ⟨h1, h2⟩ := h
  refine ⟨fun d hd => ?_, fun d hd => ?_, fun d hd => ?_⟩
  · rw [hd] at h1; simp at h1; exact h1.1
  · rw [hd] at h1; simp at h1; exact h1.2
  · rw [hd] at h2; simpa using h2

theorem put_off {env : Env} {x : Option Nat} {v : AV} {d : Nat} (h : ∀ e, x = some e → e ≠ d) : (env.put x v) d = env d := by
  cases x with
  | none => rfl
  | some e => simp only [Env.put, Env.upd]; rw [if_neg]; exact fun he => h e rfl he.symm

theorem swapA {Hs : Heap} {x y : Ann} {l : List Ann} {env : Env} {H : Heap} {fin : Env × Heap} (hp : pairD C rec ops sl Hs x y = true) (h : RunA C rec ops sl Hs (x :: y :: l) env H fin) :
    RunA C rec ops sl Hs (y :: x :: l) env H fin := by
  obtain ⟨H1, hx1, hx2, hx3, hx4, H2, hy1, hy2, hy3, hy4, hrest⟩ := h
  cases hox : ops[x.i]? with
  | none => unfold actD at hx4; rw [hox] at hx4; simp at hx4
  | some ox =>
  cases hoy : ops[y.i]? with
  | none => unfold actD at hy4; rw [hoy] at hy4; simp at hy4
  | some oy =>
  unfold pairD at hp
  rw [slots_at hox, slots_at hoy, Bool.and_eq_true] at hp
  obtain ⟨hap, hcl⟩ := hp
  obtain ⟨a1, a2, a3⟩ := apart_spec hap
  have dx : dstOf ops x.i = ox.dst := by simp [dstOf, hox]
  have dy : dstOf ops y.i = oy.dst := by simp [dstOf, hoy]
  rw [dx] at hy1 hy4 hrest
  rw [dy] at hrest
  -- the temporaries that each looks at are not the other's
  have ey : ∀ d ∈ slotsOf ops oy, (env.put ox.dst x.v) d = env d := fun d hd => put_off fun e he hed => a1 e he (hed ▸ hd)
  have ex : ∀ d ∈ slotsOf ops ox, (env.put oy.dst y.v) d = env d := fun d hd => put_off fun e he hed => a3 e he (hed ▸ hd)
  have cy : ∀ G, actD C rec ops sl y.i (env.put ox.dst x.v) G = actD C rec ops sl y.i env G := fun G => actD_congr fun o ho d hd => by rw [hoy] at ho; cases ho; exact ey d hd
  have cx : ∀ G, actD C rec ops sl x.i (env.put oy.dst y.v) G = actD C rec ops sl x.i env G := fun G => actD_congr fun o ho d hd => by rw [hox] at ho; cases ho; exact ex d hd
  have kx : ∀ G, actD C rec ops sl x.i env G = actD C rec ops sl x.i x.e G := fun G => actD_congr hx1
  have ky : ∀ G, actD C rec ops sl y.i env G = actD C rec ops sl y.i y.e G := fun G => actD_congr fun o ho d hd => by
    rw [hoy] at ho; cases ho
    rw [← ey d hd]; exact hy1 oy hoy d hd
  rw [cy] at hy4
  have sy : ∀ o, ops[y.i]? = some o → ∀ d ∈ slotsOf ops o, env d = y.e d := fun o ho d hd => by
    rw [hoy] at ho; cases ho
    rw [← ey d hd]; exact hy1 oy hoy d hd
  have sx : ∀ o, ops[x.i]? = some o → ∀ d ∈ slotsOf ops o, (env.put (dstOf ops y.i) y.v) d = x.e d := fun o ho d hd => by
    rw [hox] at ho; cases ho
    rw [dy, ex d hd]; exact hx1 ox hox d hd
  have fin' : (env.put ox.dst x.v).put oy.dst y.v = (env.put oy.dst y.v).put ox.dst x.v := put_comm env _ _ a2
  -- it is enough to say how the heaps go
  have go : ∀ G, actD C rec ops sl y.i env H = some (y.v, G) → actD C rec ops sl x.i env G = some (x.v, H2) → (clD C ops sl y.i = 3 → H = y.pre ∧ G = y.post) → (clD C ops sl y.i = 2 → Fill Hs H) →
      (clD C ops sl x.i = 3 → G = x.pre ∧ H2 = x.post) → (clD C ops sl x.i = 2 → Fill Hs G) → RunA C rec ops sl Hs (y :: x :: l) env H fin := by
    intro G g1 g2 g3 g4 g5 g6
    refine ⟨G, sy, g3, g4, g1, H2, sx, g5, g6, by rw [dy, cx]; exact g2, ?_⟩
    rw [dx, dy, ← fin']; exact hrest
  by_cases c0 : clD C ops sl x.i = 0
  · obtain ⟨e1, e2⟩ := act_pure c0 hx4
    subst e1
    exact go H2 hy4 (e2 H2) hy2 hy3 (fun e => by omega) (fun e => by omega)
  by_cases c0' : clD C ops sl y.i = 0
  · obtain ⟨e1, e2⟩ := act_pure c0' hy4
    subst e1
    exact go H (e2 H) hx4 (fun e => by omega) (fun e => by omega) hx2 hx3
  split at hcl
  · exact absurd (by assumption) c0
  · exact absurd (by assumption) c0'
  · rename_i e1 e2
    have r1 := act_read e1 hx4
    subst r1
    have r2 := act_read e2 hy4
    subst r2
    exact go _ hy4 hx4 (fun e => by omega) (fun e => by omega) (fun e => by omega) (fun e => by omega)
  · rename_i e1 e2
    rcases act_alloc e1 hx4 with ⟨q1, q2⟩ | ⟨s, z, q1, q2, q3⟩
    · subst q1
      exact go H2 hy4 (q2 H2) hy2 hy3 (fun e => by omega) (fun e => by
        rcases act_alloc e2 hy4 with ⟨p1, _⟩ | ⟨s', z', p1, p2, _⟩
        · subst p1; exact hx3 e
        · subst p2; exact (hx3 e).set p1)
    · rcases act_alloc e2 hy4 with ⟨p1, p2⟩ | ⟨s', z', p1, p2, p3⟩
      · subst p1
        exact go H (p2 H) hx4 (fun e => by omega) (fun _ => hx3 e1) (fun e => by omega) hx3
      · subst q2
        have hlt : s < H.length := (List.getElem?_eq_some_iff.1 q1).1
        have hss : s ≠ s' := by intro e; subst e; rw [List.getElem?_set_self hlt] at p1; cases p1
        rw [List.getElem?_set_ne hss] at p1
        refine go (H.set s' (.box z')) (p3 H p1) ?_ (fun e => by omega) (fun _ => hx3 e1) (fun e => by omega) (fun _ => (hx3 e1).set p1)
        rw [q3 _ (by rw [List.getElem?_set_ne (Ne.symm hss)]; exact q1), p2, List.set_comm _ _ hss]
  · rename_i e1 e2
    rw [Bool.and_eq_true] at hcl
    obtain ⟨p1, p2⟩ := hx2 e1
    have r2 := act_read e2 hy4
    subst r2
    have : actD C rec ops sl y.i env H = some (y.v, H) := by
      rw [ky, p1]
      have := hcl.1
      unfold sameAt at this
      split at this
      · rename_i v H3 hh
        have hv := eqv_eq this
        subst hv
        rw [hh, act_read e2 hh]
      · cases this
    exact go H this hx4 (fun e => by omega) (fun e => by omega) hx2 hx3
  · rename_i e1 e2
    rw [Bool.and_eq_true] at hcl
    obtain ⟨p1, p2⟩ := hy2 e2
    have r1 := act_read e1 hx4
    subst r1
    have : actD C rec ops sl x.i env H2 = some (x.v, H2) := by
      rw [kx, p2]
      have := hcl.2
      unfold sameAt at this
      split at this
      · rename_i v H3 hh
        have hv := eqv_eq this
        subst hv
        rw [hh, act_read e1 hh]
      · cases this
    exact go H2 hy4 this hy2 hy3 (fun e => by omega) (fun e => by omega)
  · rename_i e1 e2
    rw [Bool.and_eq_true] at hcl
    have r2 := act_read e2 hy4
    subst r2
    have hf := hx3 e1
    exact go H (by rw [ky]; exact early_mono hf (by rw [slots_at hoy]; exact hcl.1) hcl.2) hx4 (fun e => by omega) (fun e => by omega) hx2 hx3
  · rename_i e1 e2
    rw [Bool.and_eq_true] at hcl
    have r1 := act_read e1 hx4
    subst r1
    have hf := hy3 e2
    have hf2 : Fill Hs H2 := by
      rcases act_alloc e2 hy4 with ⟨q1, _⟩ | ⟨s, z, q1, q2, _⟩
      · subst q1; exact hf
      · subst q2; exact hf.set q1
    exact go H2 hy4 (by rw [kx]; exact early_mono hf2 (by rw [slots_at hox]; exact hcl.1) hcl.2) hy2 hy3 (fun e => by omega) (fun e => by omega)
  · cases hcl

/-- The run of a list, by its acts. -/
def listD (C : Cfg) (rec : RunF) (ops : Array Oper) (sl : Option Nat) : List Nat → Env → Heap → Option (Env × Heap)
  | [], env, H => some (env, H)
  | i :: l, env, H => match actD C rec ops sl i env H with
    | none => none
    | some (v, H') => listD C rec ops sl l (env.put (dstOf ops i) v) H'

theorem runA_congr {Hs : Heap} {a : Ann} {l l' : List Ann} (h : ∀ env H fin, RunA C rec ops sl Hs l env H fin → RunA C rec ops sl Hs l' env H fin) {env : Env} {H : Heap} {fin : Env × Heap}
    (k : RunA C rec ops sl Hs (a :: l) env H fin) : RunA C rec ops sl Hs (a :: l') env H fin := by
  obtain ⟨H', h1, h2, h3, h4, h5⟩ := k
  exact ⟨H', h1, h2, h3, h4, h _ _ _ h5⟩

theorem to_frontA {Hs : Heap} {y : Ann} : ∀ {l1 l2 : List Ann}, (∀ x ∈ l1, pairD C rec ops sl Hs x y = true) → ∀ {env : Env} {H : Heap} {fin : Env × Heap},
    RunA C rec ops sl Hs (l1 ++ y :: l2) env H fin → RunA C rec ops sl Hs (y :: (l1 ++ l2)) env H fin
  | [], l2, _, env, H, fin, h => h
  | x :: l1, l2, hm, env, H, fin, h => by
    have := runA_congr (l := l1 ++ y :: l2) (l' := y :: (l1 ++ l2)) (fun env H fin k => to_frontA (fun q hq => hm q (by simp [hq])) k) (by simpa using h)
    exact swapA (hm x (by simp)) this

theorem act_fill {i : Nat} {env : Env} {Hs H H1 : Heap} {v : AV} (hf : Fill Hs H) (hc : clD C ops sl i ≠ 3) (h : actD C rec ops sl i env H = some (v, H1)) : Fill Hs H1 := by
  have hle : clD C ops sl i = 0 ∨ clD C ops sl i = 1 ∨ clD C ops sl i = 2 ∨ clD C ops sl i = 3 := by
    unfold clD dclass
    split
    · simp
    · unfold opClass
      split <;> first | (simp; done) | (split <;> (simp; done))
  rcases hle with e | e | e | e
  · rw [(act_pure e h).1]; exact hf
  · rw [act_read e h]; exact hf
  · rcases act_alloc e h with ⟨rfl, _⟩ | ⟨s, z, q1, rfl, _⟩
    · exact hf
    · exact hf.set q1
  · exact absurd e hc

theorem trace_runA {Hs : Heap} : ∀ {l : List Nat} {env : Env} {H : Heap} {as : List Ann} {fin : Env × Heap}, traceD C rec ops sl l env H = some (as, fin) → noAllocAfter C ops sl l = true →
    ((∃ j ∈ l, clD C ops sl j = 2) → Fill Hs H) → RunA C rec ops sl Hs as env H fin ∧ as.map (·.i) = l
  | [], env, H, as, fin, h, _, _ => by simp [traceD] at h; obtain ⟨rfl, rfl⟩ := h; exact ⟨rfl, rfl⟩
  | i :: l, env, H, as, fin, h, hn, hf => by
    unfold traceD at h
    split at h
    · cases h
    · rename_i v H' hact
      split at h
      · cases h
      · rename_i as' fin' ht
        cases h
        simp only [noAllocAfter, Bool.and_eq_true, Bool.or_eq_true, bne_iff_ne, ne_eq, List.all_eq_true] at hn
        obtain ⟨h1, h2⟩ := trace_runA (Hs := Hs) ht hn.2 (fun ⟨j, hj, hc⟩ => by
          have hfill := hf ⟨j, by simp [hj], hc⟩
          refine act_fill hfill ?_ hact
          intro e
          rcases hn.1 with h3 | h3
          · exact h3 e
          · exact h3 j hj hc)
        refine ⟨⟨H', fun o _ d _ => rfl, fun _ => ⟨rfl, rfl⟩, fun hc => hf ⟨i, by simp, hc⟩, hact, h1⟩, by simp [h2]⟩

def unlA (listed : Array Bool) (as : List Ann) : List Ann := as.filter fun a => !listed.getD a.i true

theorem split_filterA {p : Ann → Bool} {a : Ann} (hp : p a = true) : ∀ {l : List Ann}, l.Pairwise (fun x y => x.i < y.i) → a ∈ l → ∃ l1 l2, l.filter p = l1 ++ a :: l2 ∧ (∀ x ∈ l1, x.i < a.i ∧ x ∈ l ∧ p x = true) ∧ l.filter (fun x => p x && x.i != a.i) = l1 ++ l2
  | [], _, h => by simp at h
  | x :: l, hs, h => by
    rw [List.pairwise_cons] at hs
    rcases List.mem_cons.1 h with rfl | h
    · refine ⟨[], l.filter p, by simp [hp], by simp, ?_⟩
      simp only [List.filter_cons, hp, bne_self_eq_false, Bool.and_false, Bool.false_eq_true, if_false, List.nil_append]
      refine List.filter_congr fun j hj => ?_
      have := hs.1 j hj
      have : j.i ≠ a.i := by omega
      simp [this]
    · obtain ⟨l1, l2, e1, e2, e3⟩ := split_filterA hp hs.2 h
      have hxi := hs.1 a h
      by_cases hx : p x = true
      · refine ⟨x :: l1, l2, by simp [List.filter_cons, hx, e1], ?_, ?_⟩
        · intro j hj
          rcases List.mem_cons.1 hj with rfl | hj
          · exact ⟨hxi, by simp, hx⟩
          · obtain ⟨a, b, c⟩ := e2 j hj; exact ⟨a, by simp [b], c⟩
        · have : x.i ≠ a.i := by omega
          simp [List.filter_cons, hx, this, e3]
      · refine ⟨l1, l2, by simp [List.filter_cons, hx, e1], ?_, by simp [List.filter_cons, hx, e3]⟩
        intro j hj
        obtain ⟨a, b, c⟩ := e2 j hj; exact ⟨a, by simp [b], c⟩

theorem drawA_go {Hs : Heap} {as : List Ann} (hmap : as.map (·.i) = List.range ops.size) (hd : checkD C rec ops sl Hs as = true) : ∀ (fuel t : Nat) (listed : Array Bool), listed.size = ops.size → (unlA listed as).length ≤ fuel →
    (∀ k, k < ops.size → listed.getD k false = true → ∀ i, i < k → ((aheadOf ops.toList).getD k 0).testBit i = true → listed.getD i false = true) →
    ∀ {env : Env} {H : Heap} {fin : Env × Heap}, RunA C rec ops sl Hs (unlA listed as) env H fin → listD C rec ops sl (Region.linearise.go .any ops fuel t listed []) env H = some fin := by
  intro fuel
  have hlt : ∀ a ∈ as, a.i < ops.size := fun a ha => by
    have : a.i ∈ as.map (·.i) := List.mem_map_of_mem ha
    rw [hmap] at this; exact List.mem_range.1 this
  have hsorted : as.Pairwise (fun x y => x.i < y.i) := by
    have : (as.map (·.i)).Pairwise (· < ·) := by rw [hmap]; exact List.pairwise_lt_range
    exact List.pairwise_map.1 this
  have hget : ∀ i, i < ops.size → ∃ a ∈ as, a.i = i := fun i hi => by
    have : i ∈ as.map (·.i) := by rw [hmap]; exact List.mem_range.2 hi
    simpa using this
  unfold checkD at hd
  simp only [Bool.and_eq_true] at hd
  obtain ⟨_, hd⟩ := hd
  rw [List.all_eq_true] at hd
  generalize hah : aheadOf ops.toList = ah at hd
  induction fuel with
  | zero =>
    intro t listed hsz hlen _ env H fin h
    have : unlA listed as = [] := List.length_eq_zero_iff.1 (by omega)
    rw [this] at h
    have h : fin = (env, H) := h
    simp [Region.linearise.go, listD, h]
  | succ fuel ih =>
    intro t listed hsz hlen hcl env H fin h
    simp only [Region.linearise.go]
    generalize hrs : ((List.range ops.size).filter fun i => !listed.getD i true && ((ops[i]?).map (·.after.all fun e => !Region.binds .any e || listed.getD e.on false)).getD false) = rs
    have inR : ∀ i, i ∈ rs ↔ i < ops.size ∧ listed.getD i true = false ∧ ∀ e ∈ (ops.getD i default).after, Region.binds .any e = true → listed.getD e.on false = true := by
      intro i
      rw [← hrs]
      simp only [List.mem_filter, List.mem_range, Bool.and_eq_true, Bool.not_eq_true']
      constructor
      · rintro ⟨h1, h2, h3⟩
        refine ⟨h1, h2, ?_⟩
        simp only [Array.getElem?_eq_getElem h1, Option.map_some, Option.getD_some, Array.all_eq_true_iff_forall_mem, Bool.or_eq_true, Bool.not_eq_true'] at h3
        intro e he hb
        simp only [Array.getD_eq_getD_getElem?, Array.getElem?_eq_getElem h1, Option.getD_some] at he
        rcases h3 e he with h4 | h4
        · rw [hb] at h4; cases h4
        · exact h4
      · rintro ⟨h1, h2, h3⟩
        refine ⟨h1, h2, ?_⟩
        simp only [Array.getElem?_eq_getElem h1, Option.map_some, Option.getD_some, Array.all_eq_true_iff_forall_mem, Bool.or_eq_true, Bool.not_eq_true']
        intro e he
        cases hb : Region.binds .any e with
        | false => exact .inl rfl
        | true => exact .inr (h3 e (by simpa only [Array.getD_eq_getD_getElem?, Array.getElem?_eq_getElem h1, Option.getD_some] using he) hb)
    cases hi : rs[t % rs.length]? with
    | none =>
      have hnil : rs = [] := by
        cases hr : rs with
        | nil => rfl
        | cons x xs =>
          rw [hr] at hi
          have hlt : t % (x :: xs).length < (x :: xs).length := Nat.mod_lt _ (by simp)
          simp at hi
          simp at hlt
          omega
      have hun : unlA listed as = [] := by
        cases hu : unlA listed as with
        | nil => rfl
        | cons x xs =>
          exfalso
          have hx : x ∈ unlA listed as := hu ▸ List.mem_cons_self
          have hx1 : x ∈ as ∧ listed.getD x.i true = false := by simpa [unlA] using hx
          have hxlt := hlt x hx1.1
          have first : ∀ j, j < x.i → listed.getD j true = true := by
            intro j hj
            cases hb : listed.getD j true with
            | true => rfl
            | false =>
              obtain ⟨b, hb1, rfl⟩ := hget j (Nat.lt_trans hj hxlt)
              have hm : b ∈ unlA listed as := by unfold unlA; rw [List.mem_filter]; exact ⟨hb1, by rw [hb]; rfl⟩
              rw [hu] at hm
              have hp : (x :: xs).Pairwise (fun x y => x.i < y.i) := by rw [← hu]; exact List.Pairwise.filter _ hsorted
              rw [List.pairwise_cons] at hp
              rcases List.mem_cons.1 hm with e | hm
              · rw [e] at hj; omega
              · have := hp.1 b hm; omega
          have hready : x.i ∈ rs := by
            rw [inR]
            refine ⟨hxlt, hx1.2, fun e he hb => ?_⟩
            have hdx := hd x hx1.1
            simp only [Bool.and_eq_true, Array.all_eq_true_iff_forall_mem] at hdx
            have := hdx.1 e he
            simp [hb] at this
            rw [getD_any (by rw [hsz]; exact Nat.lt_trans this hxlt) false true]
            exact first _ this
          rw [hnil] at hready; simp at hready
      rw [hun] at h
      have h : fin = (env, H) := h
      simp [listD, h]
    | some i =>
      simp only
      have him := (inR i).1 (List.mem_of_getElem? hi)
      obtain ⟨h1, h2, h3⟩ := him
      rw [linearise_go_acc, List.reverse_singleton, List.singleton_append]
      obtain ⟨a, haas, rfl⟩ := hget i h1
      obtain ⟨l1, l2, e1, e2, e3⟩ := split_filterA (p := fun x => !listed.getD x.i true) (a := a) (by simp only [h2, Bool.not_false]) hsorted haas
      have hil : a.i < listed.size := by rw [hsz]; exact h1
      have hnew : unlA (listed.setIfInBounds a.i true) as = l1 ++ l2 := by
        rw [← e3]
        refine List.filter_congr fun x _ => ?_
        rw [getD_set hil]
        by_cases hji : x.i = a.i <;> simp [hji]
      have hdi := hd a haas
      simp only [Bool.and_eq_true, List.all_eq_true, Bool.or_eq_true, Bool.not_eq_true', decide_eq_false_iff_not] at hdi
      have closed : ∀ j, j < a.i → (ah.getD a.i 0).testBit j = true → listed.getD j false = true := by
        intro j hj hb
        obtain ⟨x, hx, rfl⟩ := hget j (Nat.lt_trans hj h1)
        have := (hdi.2 x hx).resolve_left (by omega)
        rw [if_pos hb] at this
        simp only [Array.any_eq_true', Bool.and_eq_true, Bool.or_eq_true, beq_iff_eq, decide_eq_true_eq] at this
        obtain ⟨e, he, hbind, hor⟩ := this
        have hl := h3 e he hbind
        rcases hor with h4 | ⟨hlt', hb'⟩
        · rw [← h4]; exact hl
        · have hon : e.on < ops.size := by
            have := hdi.1
            rw [Array.all_eq_true_iff_forall_mem] at this
            have := this e he
            simp [hbind] at this
            omega
          exact hcl e.on hon hl x.i hlt' hb'
      have hfront := to_frontA (C := C) (rec := rec) (ops := ops) (sl := sl) (Hs := Hs) (y := a) (l1 := l1) (l2 := l2) (fun x hx => by
        obtain ⟨hji, hjn, hjl⟩ := e2 x hx
        have := (hdi.2 x hjn).resolve_left (by omega)
        by_cases hb : (ah.getD a.i 0).testBit x.i = true
        · have h5 := closed x.i hji hb
          rw [getD_any (by rw [hsz]; exact hlt x hjn) false true] at h5
          simp [h5] at hjl
        · rw [if_neg hb] at this; exact this) (env := env) (H := H) (fin := fin) (by rw [← e1]; exact h)
      obtain ⟨H', k1, k2, k3, k4, k5⟩ := hfront
      unfold listD
      rw [k4]
      refine ih _ _ (by simp [hsz]) ?_ ?_ (by rw [hnew]; exact k5)
      · have : (unlA listed as).length = (l1 ++ a :: l2).length := by rw [← e1]; rfl
        rw [hnew]
        simp at this ⊢
        omega
      · intro k hk hkl j hj hb
        rw [getD_set hil] at hkl ⊢
        by_cases hji : j = a.i
        · simp [hji]
        · rw [if_neg hji]
          by_cases hki : k = a.i
          · rw [hki] at hj hb; exact closed j hj (by first | exact hb | (rw [← hah]; exact hb))
          · rw [if_neg hki] at hkl; exact hcl k hk hkl j hj (by first | exact hb | (rw [hah]; exact hb))

theorem drawA_any {Hs : Heap} {as : List Ann} {env : Env} {fin : Env × Heap} (ht : traceD C rec ops sl (List.range ops.size) env Hs = some (as, fin)) (hd : checkD C rec ops sl Hs as = true) (t : Nat) :
    listD C rec ops sl (Region.linearise .any ops t) env Hs = some fin := by
  unfold Region.linearise
  have hna : noAllocAfter C ops sl (List.range ops.size) = true := by
    unfold checkD at hd; simp only [Bool.and_eq_true] at hd; exact hd.1
  obtain ⟨hr, hmap⟩ := trace_runA (Hs := Hs) ht hna (fun _ => fun s ob h _ => h)
  have e : unlA (Array.replicate ops.size false) as = as := by
    unfold unlA
    rw [List.filter_eq_self]
    intro a ha
    have : a.i ∈ as.map (·.i) := List.mem_map_of_mem ha
    rw [hmap] at this
    have := List.mem_range.1 this
    simp [Array.getD_eq_getD_getElem?, this]
  refine drawA_go hmap hd _ _ _ (by simp) (by rw [e, ← List.length_map (·.i), hmap]; simp) ?_ (by rw [e]; exact hr)
  intro k hk hl
  simp [Array.getD_eq_getD_getElem?, hk] at hl

end
end Go.V
