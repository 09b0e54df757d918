/- Regions that draw their order, told by few questions: what stands beside a change must be the same ahead of it and behind it. No conditions. -/
import Derived.Test.YthcpmjljdncigaaGreatDoorZVSym
set_option linter.unusedSimpArgs false
set_option linter.unusedVariables false
namespace Go.V
variable {C : Cfg}

mutual
theorem eqv_refl : ∀ v : AV, v.eqv v = true
  | .undef | .nilp | .nils | .nilm | .nilf | .nili => by simp [AV.eqv]
  | .bool _ | .int .. | .str _ | .ref .. | .ptr .. | .eptr .. | .map _ | .yld _ => by simp [AV.eqv]
  | .sl a => by rw [AV.eqv]; exact eqvs_refl a
  | .raddr a => by rw [AV.eqv]; exact eqv_refl a
  | .fn f a b => by rw [AV.eqv, eqvs_refl a, eqvs_refl b]; simp
  | .agg a => by rw [AV.eqv]; exact eqvs_refl a
  | .tup a => by rw [AV.eqv]; exact eqvs_refl a
theorem eqvs_refl : ∀ v : List AV, eqvs v v = true
  | [] => by simp [eqvs]
  | x :: xs => by rw [eqvs, eqv_refl x, eqvs_refl xs]; rfl
end

/-- An operation, by its number. -/
def actF (P : Program) (cf : CallF) (ops : Array Oper) (i : Nat) (env : Env) (H : Heap) : Option (AV × Heap) :=
  match ops[i]? with
  | none => none
  | some o => match guardV ops env o.guard with
    | none => none
    | some false => some (.tup [], H)
    | some true => stepV P cf o.op env H

theorem actD_none {rec : RunF} {ops : Array Oper} {i : Nat} {env : Env} {H : Heap} : actD C rec ops none i env H = actF C.P (callV C rec) ops i env H := by
  unfold actD actF
  cases ops[i]? with
  | none => rfl
  | some o =>
    simp only
    cases guardV ops env o.guard with
    | none => rfl
    | some b => cases b <;> rfl

theorem opsRun_actF {P : Program} {cf : CallF} {ops : Array Oper} {i : Nat} {l : List Nat} {env : Env} {H : Heap} (hi : i < ops.size) :
    opsRun P cf ops (i :: l) env H = (actF P cf ops i env H).bind fun p => opsRun P cf ops l (env.put (dstOf ops i) p.1) p.2 := by
  have ho : ops[i]? = some ops[i] := Array.getElem?_eq_getElem hi
  rw [opsRun_cons ho]
  have hd : dstOf ops i = ops[i].dst := by simp [dstOf, ho]
  unfold actF
  rw [ho, hd]
  simp only
  cases guardV ops env ops[i].guard with
  | none => rfl
  | some b => cases b with
    | false => rfl
    | true =>
      simp only
      cases stepV P cf ops[i].op env H <;> rfl

theorem trace_of {rec : RunF} {ops : Array Oper} : ∀ (n i : Nat) (env : Env) (H : Heap) (eF : Env) (HF : Heap), i + n ≤ ops.size → opsRun C.P (callV C rec) ops (List.range' i n) env H = some (eF, HF) →
    ∃ as, traceD C rec ops none (List.range' i n) env H = some (as, eF, HF) ∧ ∀ a ∈ as, i ≤ a.i ∧ a.i < i + n ∧ opsRun C.P (callV C rec) ops (List.range' i (a.i - i)) env H = some (a.e, a.pre) ∧
      actF C.P (callV C rec) ops a.i a.e a.pre = some (a.v, a.post) ∧ ∃ e', opsRun C.P (callV C rec) ops (List.range' i (a.i + 1 - i)) env H = some (e', a.post)
  | 0, i, env, H, eF, HF, _, h => by
    simp only [List.range'_zero, opsRun, Option.some.injEq, Prod.mk.injEq] at h
    obtain ⟨rfl, rfl⟩ := h
    exact ⟨[], rfl, fun a ha => by cases ha⟩
  | n + 1, i, env, H, eF, HF, hn, h => by
    rw [List.range'_succ, opsRun_actF (by omega)] at h
    cases ha : actF C.P (callV C rec) ops i env H with
    | none => rw [ha] at h; cases h
    | some p =>
      rw [ha] at h
      simp only [Option.bind_some] at h
      obtain ⟨as, h1, h2⟩ := trace_of n (i + 1) _ _ _ _ (by omega) h
      refine ⟨⟨i, env, p.1, H, p.2⟩ :: as, ?_, ?_⟩
      · rw [List.range'_succ]
        unfold traceD
        rw [actD_none, ha]
        simp only [h1]
      · intro a hm
        rcases List.mem_cons.1 hm with rfl | hm
        · refine ⟨Nat.le_refl _, by simp, by simp [opsRun], by simpa using ha, env.put (dstOf ops i) p.1, ?_⟩
          simp only [Nat.add_sub_cancel_left, List.range'_one]
          rw [opsRun_actF (by omega), ha]
          rfl
        · obtain ⟨k1, k2, k3, k4, e', k5⟩ := h2 a hm
          have step : ∀ m, opsRun C.P (callV C rec) ops (List.range' i (m + 1)) env H = opsRun C.P (callV C rec) ops (List.range' (i + 1) m) (env.put (dstOf ops i) p.1) p.2 := fun m => by
            rw [List.range'_succ, opsRun_actF (by omega), ha]; rfl
          refine ⟨by omega, by omega, ?_, k4, e', ?_⟩
          · have : a.i - i = (a.i - (i + 1)) + 1 := by omega
            rw [this, step]; exact k3
          · have : a.i + 1 - i = (a.i + 1 - (i + 1)) + 1 := by omega
            rw [this, step]; exact k5

/-- What is asked of a region, but for the pairs that are named: each a change, and something that looks. -/
def staticD (C : Cfg) (ops : Array Oper) (need : List (Nat × Nat)) : Bool :=
  let ah := aheadOf ops.toList
  decide ((ops.toList.filter isAlloc).length < 2) && noAllocAfter C ops none (List.range ops.size) &&
  (List.range ops.size).all fun y =>
    ((ops.getD y default).after.all fun e => !Region.binds .any e || decide (e.on < y)) &&
    (List.range y).all fun x => if (ah.getD y 0).testBit x then (ops.getD y default).after.any fun e => Region.binds .any e && (e.on == x || (decide (x < e.on) && (ah.getD e.on 0).testBit x))
      else apartD ops (ops.getD x default) (ops.getD y default) && (match clD C ops none x, clD C ops none y with
        | 0, _ | _, 0 | 1, 1 | 2, 2 => true
        | 3, 1 => need.contains (x, y)
        | 1, 3 => need.contains (y, x)
        | _, _ => false)

/-- A change, and something that looks: it sees the same ahead of it and behind it. -/
def dynF (P : Program) (cf : CallF) (ops : Array Oper) (env : Env) (H : Heap) (w r : Nat) : Prop :=
  ∃ er Hr v H1 ew Hp eq Hq H2 H3, opsRun P cf ops (List.range r) env H = some (er, Hr) ∧ actF P cf ops r er Hr = some (v, H1) ∧ opsRun P cf ops (List.range w) env H = some (ew, Hp) ∧
    opsRun P cf ops (List.range (w + 1)) env H = some (eq, Hq) ∧ actF P cf ops r er Hp = some (v, H2) ∧ actF P cf ops r er Hq = some (v, H3)

theorem pair_ok {cx cy : Nat} {a b a' b' c d : Bool} (h : (match cx, cy with
    | 0, _ | _, 0 | 1, 1 | 2, 2 => true
    | 3, 1 => a
    | 1, 3 => b
    | _, _ => false) = true) (ha : a = true → a' = true) (hb : b = true → b' = true) : (match (generalizing := false) cx, cy with
    | 0, _ | _, 0 | 1, 1 | 2, 2 => true
    | 3, 1 => a'
    | 1, 3 => b'
    | 2, 1 => c
    | 1, 2 => d
    | _, _ => false) = true := by
  match cx, cy with
  | 0, _ => rfl
  | n + 1, 0 => simp
  | 1, 1 => rfl
  | 2, 2 => rfl
  | 3, 1 => exact ha h
  | 1, 3 => exact hb h
  | 1, 2 => cases h
  | 2, 1 => cases h
  | 2, 3 => cases h
  | 3, 2 => cases h
  | 3, 3 => cases h
  | 1, n + 4 => cases h
  | 2, n + 4 => cases h
  | 3, n + 4 => cases h
  | n + 4, m + 1 => simp at h

theorem draw_need {rec : RunF} {ops : Array Oper} {env eF : Env} {H HF : Heap} {need : List (Nat × Nat)} (hs : staticD C ops need = true) (hr : opsRun C.P (callV C rec) ops (List.range ops.size) env H = some (eF, HF))
    (hd : ∀ p ∈ need, dynF C.P (callV C rec) ops env H p.1 p.2) : drawRun C rec ops env H = some (eF, HF) := by
  unfold staticD at hs
  simp only [Bool.and_eq_true, decide_eq_true_eq] at hs
  obtain ⟨⟨hna, hnoa⟩, hall⟩ := hs
  rw [List.range_eq_range'] at hr
  obtain ⟨as, htr, has⟩ := trace_of ops.size 0 env H eF HF (by omega) hr
  have hna' : ¬ 2 ≤ (ops.toList.filter isAlloc).length := by omega
  unfold drawRun
  simp only [hna', if_false]
  rw [List.range_eq_range', htr]
  simp only
  rw [if_pos]
  unfold checkD
  simp only [Bool.and_eq_true]
  refine ⟨hnoa, ?_⟩
  rw [List.all_eq_true]
  intro y hy
  obtain ⟨_, hyl, hy1, hy2, ey, hy3⟩ := has y hy
  simp only [Nat.zero_add, Nat.sub_zero] at hyl hy1 hy3
  have hY := List.all_eq_true.1 hall y.i (List.mem_range.2 hyl)
  simp only [Bool.and_eq_true] at hY ⊢
  refine ⟨hY.1, ?_⟩
  rw [List.all_eq_true]
  intro x hx
  obtain ⟨_, hxl, hx1, hx2, ex, hx3⟩ := has x hx
  simp only [Nat.zero_add, Nat.sub_zero] at hxl hx1 hx3
  by_cases hxy : x.i < y.i
  · have hX := List.all_eq_true.1 hY.2 x.i (List.mem_range.2 hxy)
    simp only [hxy, decide_true, Bool.not_true, Bool.false_or]
    by_cases hb : ((aheadOf ops.toList).getD y.i 0).testBit x.i = true
    · rw [if_pos hb] at hX ⊢; exact hX
    · rw [if_neg hb] at hX ⊢
      unfold pairD
      rw [Bool.and_eq_true] at hX ⊢
      refine ⟨hX.1, ?_⟩
      have same : ∀ (a b : Ann), a ∈ as → b ∈ as → (b.i, a.i) ∈ need → (sameAt C rec ops none a b.pre && sameAt C rec ops none a b.post) = true := by
        intro a b ha hb hn
        obtain ⟨_, _, ha1, ha2, _⟩ := has a ha
        obtain ⟨_, _, hb1, hb2, eb, hb3⟩ := has b hb
        simp only [Nat.sub_zero] at ha1 hb1 hb3
        obtain ⟨er, Hr, v, H1, ew, Hp, eq, Hq, H2, H3, d1, d2, d3, d4, d5, d6⟩ := hd _ hn
        rw [List.range_eq_range'] at d1 d3 d4
        rw [ha1] at d1
        simp only [Option.some.injEq, Prod.mk.injEq] at d1
        obtain ⟨rfl, rfl⟩ := d1
        rw [ha2] at d2
        simp only [Option.some.injEq, Prod.mk.injEq] at d2
        obtain ⟨rfl, _⟩ := d2
        rw [hb1] at d3
        simp only [Option.some.injEq, Prod.mk.injEq] at d3
        obtain ⟨_, rfl⟩ := d3
        rw [hb3] at d4
        simp only [Option.some.injEq, Prod.mk.injEq] at d4
        obtain ⟨_, rfl⟩ := d4
        simp only [sameAt, actD_none, d5, d6, eqv_refl, Bool.and_self]
      exact pair_ok hX.2 (fun h => same y x hy hx (by simpa using h)) (fun h => same x y hx hy (by simpa using h))
  · simp [hxy]

theorem actF_mono {k k' : Nat} (hk : k ≤ k') {ops : Array Oper} {i : Nat} {env : Env} {H : Heap} {x : AV × Heap} (h : actF C.P (callV C (run C k)) ops i env H = some x) : actF C.P (callV C (run C k')) ops i env H = some x := by
  unfold actF at h ⊢
  cases ho : ops[i]? with
  | none => rw [ho] at h; cases h
  | some o =>
    rw [ho] at h
    simp only at h ⊢
    cases hg : guardV ops env o.guard with
    | none => rw [hg] at h; cases h
    | some b =>
      rw [hg] at h
      cases b with
      | false => exact h
      | true => exact stepV_mono (run_le hk) h

theorem actL_some {ops : Array Oper} {i : Nat} {env : Env} {H : Heap} {x : AV × Heap} (h : actF C.P (callL C) ops i env H = some x) : ∃ k, actF C.P (callV C (run C k)) ops i env H = some x := by
  unfold actF at h ⊢
  cases ho : ops[i]? with
  | none => rw [ho] at h; cases h
  | some o =>
    rw [ho] at h
    simp only at h ⊢
    cases hg : guardV ops env o.guard with
    | none => rw [hg] at h; cases h
    | some b =>
      rw [hg] at h
      cases b with
      | false => exact ⟨0, h⟩
      | true => exact stepL_iff.1 h

theorem dynL {ops : Array Oper} {env : Env} {H : Heap} {w r : Nat} (h : dynF C.P (callL C) ops env H w r) : ∃ k, ∀ k', k ≤ k' → dynF C.P (callV C (run C k')) ops env H w r := by
  obtain ⟨er, Hr, v, H1, ew, Hp, eq, Hq, H2, H3, d1, d2, d3, d4, d5, d6⟩ := h
  obtain ⟨k1, d1⟩ := opsL_iff.1 d1
  obtain ⟨k2, d2⟩ := actL_some d2
  obtain ⟨k3, d3⟩ := opsL_iff.1 d3
  obtain ⟨k4, d4⟩ := opsL_iff.1 d4
  obtain ⟨k5, d5⟩ := actL_some d5
  obtain ⟨k6, d6⟩ := actL_some d6
  exact ⟨k1 + k2 + k3 + k4 + k5 + k6, fun k' hk => ⟨er, Hr, v, H1, ew, Hp, eq, Hq, H2, H3, opsRun_mono (run_le (by omega)) d1, actF_mono (by omega) d2, opsRun_mono (run_le (by omega)) d3,
    opsRun_mono (run_le (by omega)) d4, actF_mono (by omega) d5, actF_mono (by omega) d6⟩⟩

theorem dynsL {ops : Array Oper} {env : Env} {H : Heap} : ∀ {need : List (Nat × Nat)}, (∀ p ∈ need, dynF C.P (callL C) ops env H p.1 p.2) → ∃ k, ∀ k', k ≤ k' → ∀ p ∈ need, dynF C.P (callV C (run C k')) ops env H p.1 p.2
  | [], _ => ⟨0, fun _ _ _ h => by cases h⟩
  | p :: l, h => by
    obtain ⟨k1, h1⟩ := dynL (h p (.head _))
    obtain ⟨k2, h2⟩ := dynsL (need := l) fun q hq => h q (.tail _ hq)
    refine ⟨max k1 k2, fun k' hk q hq => ?_⟩
    rcases List.mem_cons.1 hq with rfl | hq
    · exact h1 k' (by omega)
    · exact h2 k' (by omega) q hq

/-- A region that draws, where the named pairs are met. -/
theorem runL_drawn {ro : Option Nat} {fn : Func} {id : Nat} {ops : Array Oper} {draw : Bool} {K : List Item} {env eF : Env} {D : List DV} {H HF : Heap} {need : List (Nat × Nat)} (h1 : lastDefer ops draw = none) (h2 : (!draw || drawOk C ops) = false)
    (hs : staticD C ops need = true) (hr : opsRun C.P (callL C) ops (List.range ops.size) env H = some (eF, HF)) (hd : ∀ p ∈ need, dynF C.P (callL C) ops env H p.1 p.2) :
    runL C ro fn (.code (.region id ops draw) :: K) env D H = runL C ro fn K (restr (C.keep fn id) eF) D HF := by
  obtain ⟨k1, hk1⟩ := opsL_iff.1 hr
  obtain ⟨k2, hk2⟩ := dynsL hd
  have key : ∀ k, k1 + k2 ≤ k → drawRun C (run C k) ops env H = some (eF, HF) := fun k hk =>
    draw_need hs (opsRun_mono (run_le (by omega)) hk1) (hk2 k (by omega))
  have e : ∀ k, run C (k + 1) ro fn (.code (.region id ops draw) :: K) env D H = match drawRun C (run C k) ops env H with
    | some (env', H') => run C k ro fn K (restr (C.keep fn id) env') D H'
    | none => none := fun k => by
    rw [run, h1]
    simp only [h2, Bool.false_eq_true, if_false]
    try (cases drawRun C (run C k) ops env H <;> rfl)
  refine lim_ext run_grows run_grows fun x => ⟨fun ⟨k, hk⟩ => ?_, fun ⟨k, hk⟩ => ⟨max (k1 + k2) k + 1, ?_⟩⟩
  · have hk' := run_le (C := C) (show k ≤ max k (k1 + k2) + 1 by omega) _ _ _ _ _ _ _ hk
    rw [e, key _ (by omega)] at hk'
    exact ⟨_, hk'⟩
  · rw [e, key _ (by omega)]
    exact run_le (by omega) _ _ _ _ _ _ _ hk

/-! ### The same, told by the operations' list -/
def pairK : Env → Heap → Option (Env × Heap) := fun e h => some (e, h)
def valK (d : Nat) : Env → Heap → Option (AV × Heap) := fun e h => some (e d, h)
theorem fk_pair {P : Program} {cf : CallF} {env : Env} {H : Heap} : flatK P cf [] env H pairK = some (env, H) := rfl
theorem fk_val {P : Program} {cf : CallF} {env : Env} {H : Heap} {d : Nat} : flatK P cf [] env H (valK d) = some (env d, H) := rfl

theorem flatK_pre {β : Type} {P : Program} {cf : CallF} {ops : Array Oper} {k : Env → Heap → Option β} : ∀ (n i : Nat) (env : Env) (H : Heap), i + n ≤ ops.size →
    andThen (opsRun P cf ops (List.range' i n) env H) k = flatK P cf (((flat ops).drop i).take n) env H k
  | 0, i, env, H, h => by simp [List.range'_zero, opsRun, andThen, flatK]
  | n + 1, i, env, H, h => by
    have hi : i < ops.size := by omega
    have hl : i < (flat ops).length := by simp [flat]; omega
    rw [List.drop_eq_getElem_cons hl, List.range'_succ, List.take_succ_cons]
    have e : (flat ops)[i] = ((ops[i]).guard.map fun (j, w) => ((ops[j]?).bind (·.dst), w), (ops[i]).dst, (ops[i]).op) := by simp [flat]
    rw [e]
    have ho : ops[i]? = some ops[i] := Array.getElem?_eq_getElem hi
    have hg : ∀ g, guardV ops env g = guardF env (g.map fun (j, w) => ((ops[j]?).bind (·.dst), w)) := by
      intro g
      cases g with
      | none => rfl
      | some jw =>
        obtain ⟨j, w⟩ := jw
        simp only [guardV, guardF, Option.map_some]
        cases (ops[j]?).bind (·.dst) <;> rfl
    rw [opsRun_cons ho]
    simp only [flatK, ← hg]
    cases guardV ops env ops[i].guard with
    | none => rfl
    | some b => cases b with
      | false => exact flatK_pre n (i + 1) _ _ (by omega)
      | true =>
        simp only
        cases stepV P cf ops[i].op env H with
        | none => rfl
        | some q => exact flatK_pre n (i + 1) _ _ (by omega)

theorem ops_of_flat {P : Program} {cf : CallF} {ops : Array Oper} {env e : Env} {H h : Heap} {n : Nat} {L : FL} (hn : n ≤ ops.size) (hL : (flat ops).take n = L) (hf : flatK P cf L env H pairK = some (e, h)) : opsRun P cf ops (List.range n) env H = some (e, h) := by
  have := flatK_pre (P := P) (cf := cf) (ops := ops) (k := pairK) n 0 env H (by omega)
  rw [List.drop_zero, hL, hf, ← List.range_eq_range'] at this
  cases ho : opsRun P cf ops (List.range n) env H with
  | none => rw [ho] at this; cases this
  | some q => rw [ho] at this; exact congrArg some (Option.some.inj this)

theorem act_of_flat {P : Program} {cf : CallF} {ops : Array Oper} {env : Env} {H h : Heap} {v : AV} {i d : Nat} {L : FL} (hi : i < ops.size) (hL : ((flat ops).drop i).take 1 = L) (hd : dstOf ops i = some d) (hf : flatK P cf L env H (valK d) = some (v, h)) :
    actF P cf ops i env H = some (v, h) := by
  have := flatK_pre (P := P) (cf := cf) (ops := ops) (k := valK d) 1 i env H (by omega)
  rw [hL, hf, List.range'_one, opsRun_actF hi] at this
  cases ha : actF P cf ops i env H with
  | none => rw [ha] at this; cases this
  | some q =>
    rw [ha] at this
    have h2 : (q.1, q.2) = (v, h) := by simpa [andThen, valK, opsRun, hd, Env.put, Env.upd] using this
    rw [← h2]

theorem dyn_of_flat {P : Program} {cf : CallF} {ops : Array Oper} {env er ew eq : Env} {H Hr H1 Hp Hq H2 H3 : Heap} {v : AV} {w r d : Nat} {Lr L1 Lw Lq : FL} (hw : w < ops.size) (hr : r < ops.size) (hd : dstOf ops r = some d)
    (hLr : (flat ops).take r = Lr) (hL1 : ((flat ops).drop r).take 1 = L1) (hLw : (flat ops).take w = Lw) (hLq : (flat ops).take (w + 1) = Lq)
    (d1 : flatK P cf Lr env H pairK = some (er, Hr)) (d2 : flatK P cf L1 er Hr (valK d) = some (v, H1)) (d3 : flatK P cf Lw env H pairK = some (ew, Hp)) (d4 : flatK P cf Lq env H pairK = some (eq, Hq))
    (d5 : flatK P cf L1 er Hp (valK d) = some (v, H2)) (d6 : flatK P cf L1 er Hq (valK d) = some (v, H3)) : dynF P cf ops env H w r :=
  ⟨er, Hr, v, H1, ew, Hp, eq, Hq, H2, H3, ops_of_flat (by omega) hLr d1, act_of_flat hr hL1 hd d2, ops_of_flat (by omega) hLw d3, ops_of_flat (by omega) hLq d4, act_of_flat hr hL1 hd d5, act_of_flat hr hL1 hd d6⟩

theorem forall_cons {α : Type} {p : α → Prop} {a : α} {l : List α} (h : p a) (hl : ∀ x ∈ l, p x) : ∀ x ∈ a :: l, p x := fun x hx => by
  rcases List.mem_cons.1 hx with rfl | hx
  · exact h
  · exact hl x hx

end Go.V
