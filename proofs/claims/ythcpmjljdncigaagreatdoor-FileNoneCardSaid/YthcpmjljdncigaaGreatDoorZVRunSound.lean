/- What the interpreter runs, the model runs. The conditions: 'Good': a check of the program's text, and the contracts of functions that are answered from outside. -/
import Derived.Test.YthcpmjljdncigaaGreatDoorZVRun
import Derived.Test.YthcpmjljdncigaaGreatDoorZVDrawD
import Derived.Test.YthcpmjljdncigaaGreatDoorZVSoundG
import Derived.AtR
import Derived.RangeFuncIn
import Derived.RangeFuncRecord
set_option linter.unusedSimpArgs false
set_option linter.unusedVariables false
namespace Go.V
open RowKit (Below)

def itemFits (n : Nat) : Item → Bool
  | .code c => codeFits n c
  | .inLoop c => codeFits n c
  | _ => true

def funcOk (fn : Func) : Bool :=
  match fn.body with
  | some c => codeFits fn.ntmps c && !(fn.name == "runtime.NumGoroutine")
  | none => true

structure Good (C : Cfg) : Prop where
  funcs : C.P.funcs.all funcOk = true
  mixed : C.P.follows .mixedOrders = true
  ext : ∀ g e, C.ext g = some e → ∀ args r, e args = some r → r.scalar = true → ∀ (Z : FZ) (W : World) (vs : List Value), (∀ b o v, Z b o = some v → W.cell? ⟨b, o, none⟩ = some v) → LVR Z OM.none args vs →
    (∃ v W', (callFunc g vs.toArray).run C.P W = .ok (.value v) W' ∧ Below W.heap.size W W' ∧ VR Z OM.none r v) ∨
    ((callFunc g vs.toArray).run C.P W = .ok (.enter g vs.toArray) W ∧ Calls C.P g vs.toArray W fun e W' => ∃ v, e = .returned v ∧ Below W.heap.size W W' ∧ VR Z OM.none r v)

variable {C : Cfg} {Z : FZ} {m : OM} {base : Nat} {W0 : World} {H : Heap} {W : World}

/-- What a call leaves. -/
def Post (Z : FZ) (m : OM) (base : Nat) (W0 : World) (r : AV) (H' : Heap) (v : Value) (W' : World) : Prop :=
  ∃ Z' m', Ext base Z Z' m m' ∧ WR Z' m' base W0 H' W' ∧ VR Z' m' r v

def CallOk (P : Program) (cf : CallF) : Prop := ∀ tg args H r H', cf tg args H = some (r, H') → ∀ (Z : FZ) (m : OM) (base : Nat) (W0 W : World) (vs : List Value), LVR Z m args vs → WR Z m base W0 H W →
  match tg with
  | .fn g => (∃ v W', (callFunc g vs.toArray).run P W = .ok (.value v) W' ∧ Post Z m base W0 r H' v W') ∨
    ((callFunc g vs.toArray).run P W = .ok (.enter g vs.toArray) W ∧ Calls P g vs.toArray W fun e W' => ∃ v, e = .returned v ∧ Post Z m base W0 r H' v W')
  | .yld i => ∃ L f tmps asg body, m i = some L ∧ (Instr.yield L.b vs.toArray).run P W = .ok (.round L.b f tmps asg body) W ∧
      ∀ c cs, ∃ v W', Post Z m base W0 r H' v W' ∧ Steps P (lone (Frame.round L.b f tmps asg body .normal) (c :: cs) W) (lone (c.finish v) cs W')

/-- A running frame comes to its end: a function's is about to leave; behind a round's, its caller has gone on. -/
def Ends (P : Program) (Z : FZ) (m : OM) (base : Nat) (W0 : World) (r : AV) (H' : Heap) (b : Frame) (a : Act) (K : List Item) (cs : List Frame) (W : World) : Prop :=
  ∃ v W', Post Z m base W0 r H' v W' ∧
    ((b.roundOf = none ∧ ∃ fr, Steps P (lone (b.atR a K) cs W) (lone fr cs W') ∧ fr.fn = b.fn ∧ fr.leaving P W' (.returned v)) ∨
     (b.roundOf ≠ none ∧ ∀ c cs', cs = c :: cs' → Steps P (lone (b.atR a K) cs W) (lone (c.finish v) cs' W')))

theorem Ends.steps {P : Program} {r : AV} {H' : Heap} {b : Frame} {a a' : Act} {K K' : List Item} {cs : List Frame} {W W' : World} (k : Ends P Z m base W0 r H' b a' K' cs W') (h : Steps P (lone (b.atR a K) cs W) (lone (b.atR a' K') cs W')) :
    Ends P Z m base W0 r H' b a K cs W := by
  obtain ⟨v, W2, hp, ⟨h0, fr, h1, h2⟩ | ⟨h0, h1⟩⟩ := k
  · exact ⟨v, W2, hp, .inl ⟨h0, fr, h.trans h1, h2⟩⟩
  · exact ⟨v, W2, hp, .inr ⟨h0, fun c cs' e => h.trans (h1 c cs' e)⟩⟩

theorem Post.weaken {Z' : FZ} {m' : OM} {r : AV} {H' : Heap} {v : Value} {W' : World} (h : Ext base Z Z' m m') (k : Post Z' m' base W0 r H' v W') : Post Z m base W0 r H' v W' := by
  obtain ⟨Z2, m2, e, w, x⟩ := k
  exact ⟨Z2, m2, h.trans e, w, x⟩

theorem Ends.weaken {P : Program} {Z' : FZ} {m' : OM} {r : AV} {H' : Heap} {b : Frame} {a : Act} {K : List Item} {cs : List Frame} (h : Ext base Z Z' m m') (k : Ends P Z' m' base W0 r H' b a K cs W) :
    Ends P Z m base W0 r H' b a K cs W := by
  obtain ⟨v, W2, hp, h1⟩ := k
  exact ⟨v, W2, hp.weaken h, h1⟩

theorem wanted_sound {env : Env} {a : Act} (hE : ER Z m env a.tmps) {ops : Array Oper} {o : Oper} {b : Bool} (h : guardV ops env o.guard = some b) :
    Region.wanted o (yielded ops a.tmps) = b := by
  unfold guardV at h
  unfold Region.wanted
  split at h
  · rename_i hg; cases h; rw [hg]
  · rename_i j want hg
    rw [hg]
    simp only []
    unfold yielded
    split at h
    · rename_i hd; cases h; rw [hd]; rfl
    · rename_i d hd
      rw [hd]
      have hv := hE d
      have key : ∀ v, VR Z m (env d) v → env d ≠ .undef → ∀ x, v = .bool x → env d = .bool x := by
        intro v hv hu x hx
        generalize env d = y at hv hu ⊢
        subst hx
        cases hv with
        | undef => exact absurd rfl hu
        | bool => rfl
      simp only [Option.bind_some]
      split at h
      · rename_i x hx
        cases h
        rw [hx] at hv
        generalize hw : a.tmps.getD d Go.undef = w at hv
        cases hv
        have : a.tmps[d]? = some (.bool x) := by
          rw [Array.getD_eq_getD_getElem?] at hw
          cases e : a.tmps[d]? with
          | none => rw [e] at hw; simp [Go.undef] at hw
          | some u => rw [e] at hw; simp at hw; rw [hw]
        rw [this]
        simp
      · cases h
      · rename_i h1 h2
        cases h
        cases e : a.tmps[d]? with
        | none => rfl
        | some u =>
          cases u with
          | bool x =>
            have hw : a.tmps.getD d Go.undef = .bool x := by rw [Array.getD_eq_getD_getElem?, e]; rfl
            exact absurd (key _ hv h2 x hw) (h1 x)
          | _ => rfl

theorem tup_undef : VR Z m (.tup []) Go.undef := by
  have := VR.tup (Z := Z) (m := m) (cs := []) (cs' := []) rfl (fun j h => absurd h (by simp))
  simpa [Go.undef] using this

theorem opsFit_get {n : Nat} {ops : Array Oper} (h : opsFit n ops = true) {i : Nat} {o : Oper} (ho : ops[i]? = some o) : ∀ d, o.dst = some d → d < n := by
  intro d hd
  unfold opsFit at h
  rw [Array.all_eq_true_iff_forall_mem] at h
  have := h o (Array.mem_of_getElem? ho)
  simpa [hd] using this

/-- A call by the interpreter's book. -/
theorem target_sound {P : Program} {env : Env} {a : Act} (hE : ER Z m env a.tmps) {dst : Option Tmp} {c : Call} {type : TypeId} {pos : String} {after : Array Edge} {guard : Option (Nat × Bool)} {tg : Tgt} {args : List AV}
    (h : targetV env c = some (tg, args)) : ∃ vs : List Value, LVR Z m args vs ∧ ∀ W, match tg with
      | .fn g => (execOp a.eval ⟨dst, .call c, type, pos, after, guard⟩).run P W = (callFunc g vs.toArray).run P W
      | .yld i => ∀ L, m i = some L → (execOp a.eval ⟨dst, .call c, type, pos, after, guard⟩).run P W = (Instr.yield L.b vs.toArray).run P W := by
  unfold targetV at h
  split at h
  · rename_i f hc
    have hv := evalV_VR hE f
    split at h
    · rename_i g' first caps hf
      cases h
      rw [hf] at hv
      generalize hw : a.eval f = w at hv
      cases hv with
      | fn ha hc' hva hvc =>
        rename_i as' cs'
        refine ⟨as' ++ c.args.toList.map a.eval ++ cs', (LVR.append (LVR.append ⟨ha, hva⟩ (LVR.map fun x _ => evalV_VR hE x)) ⟨hc', hvc⟩), fun W => ?_⟩
        simp only [execOp, resolve, hc, hw, Deferred.ofValue, Sem.run_bind, Sem.run_pure, Result.andThen_ok, invoke]
        congr 2
        apply Array.ext'
        simp
    · rename_i i hf
      cases h
      rw [hf] at hv
      generalize hw : a.eval f = w at hv
      cases hv with
      | yld hL0 =>
        refine ⟨c.args.toList.map a.eval, LVR.map fun x _ => evalV_VR hE x, fun W L hL => ?_⟩
        rw [hL0] at hL; cases hL
        simp only [execOp, resolve, hc, hw, Deferred.ofValue, Sem.run_bind, Sem.run_pure, Result.andThen_ok, invoke]
        congr 2
        apply Array.ext'
        simp
    · cases h
  · cases h

theorem ops_sound {P : Program} {cf : CallF} (hcf : CallOk P cf) {ops : Array Oper} : ∀ {l : List Nat} {env env' : Env} {H H' : Heap} {Z : FZ} {m : OM} {W : World} {b : Frame} {a : Act} {K : List Item} {cs : List Frame} {rest : List Nat},
    opsRun P cf ops l env H = some (env', H') → opsFit a.tmps.size ops = true → ER Z m env a.tmps → WR Z m base W0 H W →
    ∃ a' W' Z' m', Steps P (lone (b.atR a (.inRegion ops (l ++ rest) :: K)) cs W) (lone (b.atR a' (.inRegion ops rest :: K)) cs W') ∧ a'.defers = a.defers ∧ a'.tmps.size = a.tmps.size ∧
      ER Z' m' env' a'.tmps ∧ WR Z' m' base W0 H' W' ∧ Ext base Z Z' m m'
  | [], env, env', H, H', Z, m, W, b, a, K, cs, rest, h, hfit, hE, hW => by
    simp [opsRun] at h; obtain ⟨rfl, rfl⟩ := h
    exact ⟨a, W, Z, m, Steps.refl _ _, rfl, rfl, hE, hW, Ext.refl _ _ _⟩
  | i :: l, env, env', H, H', Z, m, W, b, a, K, cs, rest, h, hfit, hE, hW => by
    unfold opsRun at h
    split at h
    · rename_i ho
      obtain ⟨a', W', Z', m', h1, h2⟩ := ops_sound hcf (b := b) (K := K) (cs := cs) h hfit hE hW
      have hs := stepR_op_skip (P := P) (b := b) (a := a) (k := K) (cs := cs) (w := W) (ops := ops) (i := i) (rest := l ++ rest) (by simp [ho])
      simp only [ho, Option.bind_none, Act.put] at hs
      exact ⟨a', W', Z', m', Steps.head hs h1, h2⟩
    · rename_i o ho
      have hdst := opsFit_get hfit ho
      split at h
      · cases h
      · rename_i hg
        have hw := wanted_sound hE hg
        have hs := stepR_op_skip (P := P) (b := b) (a := a) (k := K) (cs := cs) (w := W) (ops := ops) (i := i) (rest := l ++ rest) (by simp [ho]; simpa using hw)
        simp only [ho, Option.bind_some] at hs
        have hsz : (a.put o.dst Go.undef).tmps.size = a.tmps.size := by cases o.dst <;> simp [Act.put]
        obtain ⟨a', W', Z', m', h1, h2, h3, h4⟩ := ops_sound hcf (a := a.put o.dst Go.undef) (b := b) (K := K) (cs := cs) h (by rw [hsz]; exact hfit) (hE.put tup_undef hdst) hW
        exact ⟨a', W', Z', m', Steps.head hs h1, by rw [h2]; cases o.dst <;> rfl, by rw [h3, hsz], h4⟩
      · rename_i hg
        have hw := wanted_sound hE hg
        split at h
        · cases h
        · rename_i y H1 hst
          -- what comes behind the operation
          have go : ∀ {v : Value} {W1 : World} {Z1 : FZ} {m1 : OM}, Steps P (lone (b.atR a (.inRegion ops (i :: (l ++ rest)) :: K)) cs W) (lone (b.atR (a.put o.dst v) (.inRegion ops (l ++ rest) :: K)) cs W1) →
              Ext base Z Z1 m m1 → WR Z1 m1 base W0 H1 W1 → VR Z1 m1 y v →
              ∃ a' W' Z' m', Steps P (lone (b.atR a (.inRegion ops (i :: (l ++ rest)) :: K)) cs W) (lone (b.atR a' (.inRegion ops rest :: K)) cs W') ∧ a'.defers = a.defers ∧ a'.tmps.size = a.tmps.size ∧
                ER Z' m' env' a'.tmps ∧ WR Z' m' base W0 H' W' ∧ Ext base Z Z' m m' := by
            intro v W1 Z1 m1 hsteps hx hw1 hv1
            have hsz : (a.put o.dst v).tmps.size = a.tmps.size := by cases o.dst <;> simp [Act.put]
            obtain ⟨a', W', Z', m', h1, h2, h3, h4, h5, h6⟩ := ops_sound hcf (a := a.put o.dst v) (b := b) (K := K) (cs := cs) h (by rw [hsz]; exact hfit) ((hE.mono hx.1 hx.2.1).put hv1 hdst) hw1
            exact ⟨a', W', Z', m', hsteps.trans h1, by rw [h2]; cases o.dst <;> rfl, by rw [h3, hsz], h4, h5, hx.trans h6⟩
          have hnd : ∀ c, o.op ≠ .defer c := by
            intro c hc
            rw [hc] at hst
            simp [stepV, opV] at hst
          have hgo := stepGR_op (P := P) (b := b) (k := K) (a := a) (cs := cs) (w := W) (rest := l ++ rest) ho hw
          rw [Oper.semAt_eq _ _ _ hnd] at hgo
          have hfin : ∀ v, (b.atR a (.inRegion ops (i :: (l ++ rest)) :: K)).finish v = b.atR (a.put o.dst v) (.inRegion ops (l ++ rest) :: K) := by
            intro v; rw [Frame.finish_atR, ho]; rfl
          have value : ∀ {v : Value} {W1 : World}, (execOp a.eval o).run P W = .ok (.value v) W1 → Steps P (lone (b.atR a (.inRegion ops (i :: (l ++ rest)) :: K)) cs W) (lone (b.atR (a.put o.dst v) (.inRegion ops (l ++ rest) :: K)) cs W1) := by
            intro v W1 hr
            refine .one (step_lone_go ?_)
            rw [hgo, ← hfin]; simp [stepG.apply, hr]
          have plain : opV P (evalV env) o.op H = some (y, H1) → ∃ a' W' Z' m', Steps P (lone (b.atR a (.inRegion ops (i :: (l ++ rest)) :: K)) cs W) (lone (b.atR a' (.inRegion ops rest :: K)) cs W') ∧ a'.defers = a.defers ∧ a'.tmps.size = a.tmps.size ∧
                ER Z' m' env' a'.tmps ∧ WR Z' m' base W0 H' W' ∧ Ext base Z Z' m m' := by
            intro hop
            obtain ⟨v, W1, Z1, m1, hr, hx, hw1, hv1⟩ := op_sound hW hE hop
            rcases hr with hr | ⟨hr, rfl⟩
            · exact go (value hr) hx hw1 hv1
            · refine go (.one (step_lone_go ?_)) hx hw1 hv1
              rw [hgo, ← hfin]; simp [stepG.apply, hr]
          unfold stepV at hst
          split at hst
          · rename_i c hc
            split at hst
            · rename_i tg args ht
              obtain ⟨dst, op, type, pos, after, guard⟩ := o
              simp only at hc
              subst hc
              obtain ⟨vs, hl, hrun⟩ := target_sound (P := P) (dst := dst) (type := type) (pos := pos) (after := after) (guard := guard) hE ht
              have hcall := hcf tg args H y H1 hst Z m base W0 W vs hl hW
              cases tg with
              | fn g =>
                have hrun := hrun W
                rcases hcall with ⟨v, W1, hr, Z1, m1, hx, hw1, hv1⟩ | ⟨hr, hcalls⟩
                · exact go (value (by rw [hrun, hr])) hx hw1 hv1
                · obtain ⟨e, W1, fr, ⟨v, rfl, Z1, m1, hx, hw1, hv1⟩, hsteps, _, hleave⟩ := hcalls (b.atR a (.inRegion ops (i :: (l ++ rest)) :: K) :: cs)
                  have henter : step P (lone (b.atR a (.inRegion ops (i :: (l ++ rest)) :: K)) cs W) = .next (lone (Frame.enter P g vs.toArray .normal) (b.atR a (.inRegion ops (i :: (l ++ rest)) :: K) :: cs) W) :=
                    step_lone_go (by rw [hgo]; simp [stepG.apply, hrun, hr, Frame.atR])
                  refine go (v := v) (W1 := W1) (.head henter (hsteps.trans (.one ?_))) hx hw1 hv1
                  rw [← hfin]; exact step_leave_returned hleave
              | yld i' =>
                obtain ⟨L, f, tmps, asg, body, hL, hr, hround⟩ := hcall
                have hrun := hrun W L hL
                obtain ⟨v, W1, ⟨Z1, m1, hx, hw1, hv1⟩, hsteps⟩ := hround (b.atR a (.inRegion ops (i :: (l ++ rest)) :: K)) cs
                have henter : step P (lone (b.atR a (.inRegion ops (i :: (l ++ rest)) :: K)) cs W) = .next (lone (Frame.round L.b f tmps asg body .normal) (b.atR a (.inRegion ops (i :: (l ++ rest)) :: K) :: cs) W) :=
                  step_lone_go (by rw [hgo]; simp [stepG.apply, hrun, hr, Frame.atR])
                refine go (v := v) (W1 := W1) (.head henter ?_) hx hw1 hv1
                rw [← hfin]; exact hsteps
            · exact plain hst
          · exact plain hst

/-- The same of a list of a region that draws. -/
theorem listD_sound {rec : RunF} (hcf : CallOk C.P (callV C rec)) {ops : Array Oper} {sl : Option Nat} : ∀ {l : List Nat} {env env' : Env} {H H' : Heap} {Z : FZ} {m : OM} {W : World} {b : Frame} {a : Act} {K : List Item} {cs : List Frame},
    listD C rec ops sl l env H = some (env', H') → opsFit a.tmps.size ops = true → ER Z m env a.tmps → WR Z m base W0 H W →
    ∃ a' W' Z' m', Steps C.P (lone (b.atR a (.inRegion ops l :: K)) cs W) (lone (b.atR a' (.inRegion ops [] :: K)) cs W') ∧ a'.defers = a.defers ∧ a'.tmps.size = a.tmps.size ∧
      ER Z' m' env' a'.tmps ∧ WR Z' m' base W0 H' W' ∧ Ext base Z Z' m m'
  | [], env, env', H, H', Z, m, W, b, a, K, cs, h, hfit, hE, hW => by
    simp [listD] at h; obtain ⟨rfl, rfl⟩ := h
    exact ⟨a, W, Z, m, Steps.refl _ _, rfl, rfl, hE, hW, Ext.refl _ _ _⟩
  | i :: l, env, env', H, H', Z, m, W, b, a, K, cs, h, hfit, hE, hW => by
    unfold listD at h
    split at h
    · cases h
    · rename_i y H1 hact
      have rest : ∀ {a1 : Act} {W1 : World} {Z1 : FZ} {m1 : OM}, Steps C.P (lone (b.atR a (.inRegion ops (i :: l) :: K)) cs W) (lone (b.atR a1 (.inRegion ops l :: K)) cs W1) → a1.defers = a.defers → a1.tmps.size = a.tmps.size →
          ER Z1 m1 (env.put (dstOf ops i) y) a1.tmps → WR Z1 m1 base W0 H1 W1 → Ext base Z Z1 m m1 →
          ∃ a' W' Z' m', Steps C.P (lone (b.atR a (.inRegion ops (i :: l) :: K)) cs W) (lone (b.atR a' (.inRegion ops [] :: K)) cs W') ∧ a'.defers = a.defers ∧ a'.tmps.size = a.tmps.size ∧
            ER Z' m' env' a'.tmps ∧ WR Z' m' base W0 H' W' ∧ Ext base Z Z' m m' := by
        intro a1 W1 Z1 m1 hs hd hsz hE1 hW1 hx
        obtain ⟨a', W', Z', m', h1, h2, h3, h4, h5, h6⟩ := listD_sound hcf (b := b) (a := a1) (K := K) (cs := cs) h (by rw [hsz]; exact hfit) hE1 hW1
        exact ⟨a', W', Z', m', hs.trans h1, by rw [h2, hd], by rw [h3, hsz], h4, h5, hx.trans h6⟩
      cases ho : ops[i]? with
      | none => unfold actD at hact; rw [ho] at hact; simp at hact
      | some o =>
        have hdo : dstOf ops i = o.dst := by simp [dstOf, ho]
        have plain : opsRun C.P (callV C rec) ops [i] env H = some (env.put o.dst y, H1) → ∃ a' W' Z' m', Steps C.P (lone (b.atR a (.inRegion ops (i :: l) :: K)) cs W) (lone (b.atR a' (.inRegion ops [] :: K)) cs W') ∧ a'.defers = a.defers ∧ a'.tmps.size = a.tmps.size ∧
            ER Z' m' env' a'.tmps ∧ WR Z' m' base W0 H' W' ∧ Ext base Z Z' m m' := by
          intro h1
          obtain ⟨a1, W1, Z1, m1, k1, k2, k3, k4, k5, k6⟩ := ops_sound hcf (b := b) (K := K) (cs := cs) (rest := l) h1 hfit hE hW
          exact rest k1 k2 k3 (by rw [hdo]; exact k4) k5 k6
        have hact0 := hact
        unfold actD at hact
        rw [ho] at hact
        simp only at hact
        cases hg : guardV ops env o.guard with
        | none => rw [hg] at hact; simp at hact
        | some w =>
          rw [hg] at hact
          cases w with
          | false =>
            simp only at hact
            cases hact
            refine plain ?_
            rw [opsRun_cons ho, hg]; rfl
          | true =>
            simp only at hact
            split at hact
            · rename_i base' t hop
              split at hact
              · rename_i hh
                cases hz : zeroP C.P t with
                | none => rw [hz] at hact; simp at hact
                | some z =>
                  rw [hz] at hact; simp at hact
                  obtain ⟨rfl, rfl⟩ := hact
                  obtain ⟨v, W1, m1, hr, hx, hw1, hv1⟩ := alloc_fill (P := C.P) hW hh hz
                  have hw := wanted_sound hE hg
                  have hgo := stepGR_op (P := C.P) (b := b) (k := K) (a := a) (cs := cs) (w := W) (rest := l) ho hw
                  rw [Oper.semAt_eq _ _ _ (fun c hc => by rw [hop] at hc; cases hc)] at hgo
                  have hfin : (b.atR a (.inRegion ops (i :: l) :: K)).finish v = b.atR (a.put o.dst v) (.inRegion ops l :: K) := by
                    rw [Frame.finish_atR, ho]; rfl
                  have hrun : (execOp a.eval o).run C.P W = .ok (.value v) W1 := by
                    unfold execOp
                    rw [hop]
                    simp only [Sem.run_bind, hr, Result.andThen_ok, Sem.run_pure]
                  have hsz : (a.put o.dst v).tmps.size = a.tmps.size := by cases o.dst <;> simp [Act.put]
                  refine rest (a1 := a.put o.dst v) (W1 := W1) (Z1 := Z) (m1 := m1) (.one (step_lone_go ?_)) (by cases o.dst <;> rfl) hsz (by rw [hdo]; exact (hE.mono hx.1 hx.2.1).put hv1 (opsFit_get hfit ho)) hw1 hx
                  rw [hgo, ← hfin]; simp [stepG.apply, hrun]
              · cases hact
            · refine plain ?_
              rw [opsRun_cons ho, hg]
              simp only
              rw [hact]; rfl

/-- A result, as the model reads it. -/
def resSem (t : Array Value) : ResultVar → Sem Value
  | .tmp q => pure (t.getD q Go.undef)
  | .cell a ty => do loadVar ty (← asAddr (t.getD a Go.undef))

theorem results_eq (fn : Func) (t : Array Value) : results fn t = (do let vs ← fn.results.mapM (resSem t); pure (if h : vs.size = 1 then vs[0] else Value.tuple vs)) := by
  unfold results
  rfl

theorem res_sound {P : Program} (hW : WR Z m base W0 H W) {env : Env} {t : Array Value} (hE : ER Z m env t) : ∀ {rs : List ResultVar} {xs : List AV}, ressV P env H rs = some xs →
    ∃ vs : List Value, LVR Z m xs vs ∧ (rs.mapM (resSem t)).run P W = .ok vs W
  | [], xs, h => by
    simp [ressV] at h; subst h
    exact ⟨[], ⟨rfl, fun j h => absurd h (by simp)⟩, by simp⟩
  | r :: rs, xs, h => by
    unfold ressV at h
    split at h
    · cases h
    · rename_i x hx
      split at h
      · cases h
      · rename_i ys hy
        cases h
        obtain ⟨vs, hl, hr⟩ := res_sound hW hE hy
        have one : ∃ v, VR Z m x v ∧ (resSem t r).run P W = .ok v W := by
          cases r with
          | tmp q => simp [resV] at hx; subst hx; exact ⟨_, hE q, rfl⟩
          | cell a ty =>
            simp only [resV] at hx
            split at hx
            · rename_i hk
              have hv := hE a
              obtain ⟨w, h1, h2⟩ := load_sound hW hk hx hv
              refine ⟨w, h2, ?_⟩
              have h1' := h1
              unfold Instr.loadAt at h1'
              unfold resSem
              simp only [Sem.run_bind] at h1' ⊢
              cases hq : t.getD a Go.undef with
              | pointer p => cases p with
                | some p => rw [hq] at h1'; simpa [Instr.sureAddr, asAddr] using h1'
                | none => rw [hq] at h1'; simp [Instr.sureAddr] at h1'
              | _ => rw [hq] at h1'; simp [Instr.sureAddr] at h1'
            · cases hx
        obtain ⟨v, hv, hr1⟩ := one
        refine ⟨v :: vs, ⟨by simp [hl.1], fun j a b => ?_⟩, ?_⟩
        · cases j with
          | zero => exact hv
          | succ j => exact hl.2 j (by simpa using a) (by simpa using b)
        · simp only [List.mapM_cons, Sem.run_bind]
          rw [hr1, Result.andThen_ok, hr]; rfl

theorem finish_sound {P : Program} (hW : WR Z m base W0 H W) {env : Env} {fn : Func} {a : Act} (hE : ER Z m env a.tmps) {r : AV} {H' : Heap} (h : finishV P fn env H = some (r, H')) :
    H' = H ∧ ∃ v, (results fn a.tmps).run P W = .ok v W ∧ VR Z m r v := by
  have key : ∀ {xs : List AV}, ressV P env H fn.results.toList = some xs → ∃ vs : List Value, LVR Z m xs vs ∧ (results fn a.tmps).run P W = .ok (if h : vs.toArray.size = 1 then vs.toArray[0] else .tuple vs.toArray) W := by
    intro xs hx
    obtain ⟨vs, hl, hr⟩ := res_sound hW hE hx
    refine ⟨vs, hl, ?_⟩
    rw [results_eq, Sem.run_bind, Array.mapM_eq_mapM_toList, Sem.run_map, hr]
    rfl
  unfold finishV at h
  split at h
  · rename_i v hv
    cases h
    obtain ⟨vs, hl, hr⟩ := key hv
    obtain ⟨w, vs', rfl, hw, hl'⟩ := hl.cons
    have := hl'.nil
    subst this
    exact ⟨rfl, w, by rw [hr]; simp, hw⟩
  · rename_i xs hne hv
    cases h
    obtain ⟨vs, hl, hr⟩ := key hv
    refine ⟨rfl, .tuple vs.toArray, ?_, .tup hl.1 hl.2⟩
    rw [hr]
    have : vs.length ≠ 1 := by
      intro e
      have h1 := hl.1
      rw [e] at h1
      match xs, h1 with
      | [x], _ => exact hne x rfl
    simp [this]
  · cases h

/-- The calls that were put off. -/
def DR (Z : FZ) (m : OM) : DV → Deferred → Prop
  | .del t x k, d => ∃ v kv ts ty cs, d = { target := .builtin .delete ts ty cs, args := #[v, kv] } ∧ ts[0]? = some t ∧ VR Z m x v ∧ VR Z m k kv
  | .coll i, d => ∃ L, m i = some L ∧ d = { target := .collected L.b, args := #[] }

def DRs (Z : FZ) (m : OM) : List DV → List Deferred → Prop
  | [], [] => True
  | x :: xs, d :: ds => DR Z m x d ∧ DRs Z m xs ds
  | _, _ => False

theorem DR.mono {Z' : FZ} {m' : OM} (hz : Z.le Z') (hm : m.le m') {x : DV} {d : Deferred} (h : DR Z m x d) : DR Z' m' x d := by
  cases x with
  | del t x k => obtain ⟨v, kv, ts, ty, cs, h1, h2, h3, h4⟩ := h; exact ⟨v, kv, ts, ty, cs, h1, h2, h3.mono hz hm, h4.mono hz hm⟩
  | coll i => obtain ⟨L, h1, h2⟩ := h; exact ⟨L, hm _ _ h1, h2⟩

theorem DRs.mono {Z' : FZ} {m' : OM} (hz : Z.le Z') (hm : m.le m') : ∀ {xs : List DV} {ds : List Deferred}, DRs Z m xs ds → DRs Z' m' xs ds
  | [], [], _ => trivial
  | x :: xs, d :: ds, h => ⟨h.1.mono hz hm, DRs.mono hz hm h.2⟩
  | [], d :: ds, h => h
  | x :: xs, [], h => h

theorem kill_any (hW : WR Z m base W0 H W) {W' : World} {i : Nat} {ob : Ob} {L : Loc} {o : Obj} (hi : H[i]? = some ob) (ha : ob.alive = true) (hL : m i = some L) (he : W' = W.putObj L.b o) : WR Z m base W0 (H.set i .dead) W' := by
  subst he
  exact hW.change hi ha hL rfl rfl rfl (by simp) (fun k _ hne => World.putObj_heap_other hne) (.inr rfl)

theorem defers_sound {P : Program} {fn : Func} : ∀ {D : List DV} {ds : List Deferred} {H H' : Heap} {W : World} {fr : Frame} {cs : List Frame}, deferV P D H = some H' → DRs Z m D ds → WR Z m base W0 H W → fr.mode = .returning → fr.defers = ds → P.funcs[fr.fn]? = some fn →
    ∃ W', Steps P (lone fr cs W) (lone { fr with defers := [] } cs W') ∧ WR Z m base W0 H' W'
  | [], ds, H, H', W, fr, cs, h, hd, hW, hm, he, hf => by
    match ds, hd with
    | [], _ =>
      simp [deferV] at h; subst h
      refine ⟨W, ?_, hW⟩
      rw [← he]; exact Steps.refl _ _
  | .del t x k :: D, ds, H, H', W, fr, cs, h, hd, hW, hm, he, hf => by
    match ds, hd with
    | d :: ds, hd =>
      obtain ⟨⟨v, kv, ts, ty, cs0, rfl, h2, h3, h4⟩, hd'⟩ := hd
      simp only [deferV] at h
      split at h
      · rename_i H1 hdel
        obtain ⟨W1, hr, hw1⟩ := delete_sound (P := P) (ty := ty) hW h2 hdel h3 h4
        obtain ⟨W2, hs, hw2⟩ := defers_sound (fn := fn) (fr := { fr with defers := ds }) (cs := cs) h hd' hw1 hm rfl hf
        refine ⟨W2, .head (step_lone_go ?_) hs, hw2⟩
        have hi : (invoke (.builtin .delete ts ty cs0) #[v, kv]).run P W = .ok (.value (.tuple #[])) W1 := by
          simp only [invoke, builtin, Sem.run_bind, hr, Result.andThen_ok, Sem.run_pure]
        simp [stepG, unwind, callDeferred, hm, he, hi, Sem.runT_eq]
      · cases h
  | .coll i :: D, ds, H, H', W, fr, cs, h, hd, hW, hm, he, hf => by
    match ds, hd with
    | d :: ds, hd =>
      obtain ⟨⟨L, hL, rfl⟩, hd'⟩ := hd
      simp only [deferV] at h
      split at h
      · rename_i hi
        obtain ⟨L', hL', ho⟩ := hW.obs i _ hi (by simp)
        rw [hL] at hL'; cases hL'
        have ho : W.heap[L.b]? = some (.deferred (some [])) := ho
        have hr := run_takeDeferred (P := P) ho
        obtain ⟨W2, hs, hw2⟩ := defers_sound (fn := fn) (fr := { fr with defers := ds }) (cs := cs) h hd' (kill_any (o := .deferred none) hW hi rfl hL rfl) hm rfl hf
        refine ⟨W2, .head (step_lone_go ?_) hs, hw2⟩
        simp [stepG, unwind, hm, he, hr, Sem.runT_eq]
      · cases h

/-- Whose activation a frame is. -/
def FrOk (P : Program) (m : OM) (ro : Option Nat) (b : Frame) (fn : Func) : Prop :=
  b.kind = .normal ∧ match ro with
    | none => b.roundOf = none ∧ P.funcs[b.fn]? = some fn
    | some i => ∃ L, m i = some L ∧ b.roundOf = some L.b

theorem FrOk.mono {P : Program} {m' : OM} (hm : m.le m') {ro : Option Nat} {b : Frame} {fn : Func} (h : FrOk P m ro b fn) : FrOk P m' ro b fn := by
  cases ro with
  | none => exact h
  | some i => obtain ⟨h1, L, h2, h3⟩ := h; exact ⟨h1, L, hm _ _ h2, h3⟩

theorem leave_sound {P : Program} {ro : Option Nat} {fn : Func} {jump : Option Code} {env : Env} {D : List DV} {r : AV} {H' : Heap} {b : Frame} {a : Act} {K : List Item} {cs : List Frame}
    (h : leaveV P ro fn jump env D H = some (r, H')) (hfr : FrOk P m ro b fn) (hd : DRs Z m D a.defers) (hE : ER Z m env a.tmps) (hW : WR Z m base W0 H W)
    (hK : (K = [] ∧ jump = none) ∨ (∃ K', K = .code .ret :: K' ∧ jump = some .ret) ∨ (ro ≠ none ∧ ∃ id K', K = .code (.exit id) :: K' ∧ jump = some (.exit id) ∧ exitTo id K' = none)) : Ends P Z m base W0 r H' b a K cs W := by
  unfold leaveV at h
  cases ro with
  | none =>
    obtain ⟨hk, hro, hf⟩ := hfr
    simp only at h
    split at h
    · rename_i H1 hdf
      have hstep : step P (lone (b.atR a K) cs W) = .next (lone { b.atR a K with mode := .returning } cs W) := by
        rcases hK with ⟨rfl, _⟩ | ⟨K', rfl, _⟩ | ⟨hn, _⟩
        · exact stepR_end hro
        · exact stepR_ret hro
        · exact absurd rfl hn
      obtain ⟨W1, hs, hw1⟩ := defers_sound (fn := fn) (fr := { b.atR a K with mode := .returning }) (cs := cs) hdf hd hW rfl rfl hf
      obtain ⟨rfl, v, hr, hv⟩ := finish_sound (a := a) hw1 hE h
      refine ⟨v, W1, ⟨Z, m, Ext.refl _ _ _, hw1, hv⟩, .inl ⟨hro, _, .head hstep hs, rfl, rfl, rfl, hk, fn, hf, hr⟩⟩
    · cases h
  | some i =>
    obtain ⟨hk, L, hL, hro⟩ := hfr
    simp only at h
    split at h
    · rename_i e ps x y st pe hi
      cases h
      obtain ⟨L', hL', rr, h1, h2, h3, h4, h5, h6, h7, h8, h9, h10, h11⟩ := hW.obs i _ hi (by simp)
      rw [hL] at hL'; cases hL'
      have hlt : L.b < W.heap.size := (Array.getElem?_eq_some_iff.1 h1).1
      refine ⟨.bool jump.isNone, W.putObj L.b (.loop { rr with state := if jump.isNone then .ready else .done, pending := jump }), ⟨Z, m, Ext.refl _ _ _, ?_, .bool⟩, .inr ⟨by rw [hro]; simp, fun c cs' e => ?_⟩⟩
      · refine hW.change hi rfl hL rfl rfl rfl (by simp) (fun k _ hne => World.putObj_heap_other hne) (.inl ⟨rfl, { rr with state := if jump.isNone then .ready else .done, pending := jump }, World.putObj_heap_same hlt, rfl, rfl, h4, h5, h6, h7, h8, h9, ?_, h11⟩)
        intro c hc
        rcases hK with ⟨_, rfl⟩ | ⟨K', _, rfl⟩ | ⟨_, id, K', _, rfl, _⟩
        · cases hc
        · cases hc; exact .inl rfl
        · cases hc; exact .inr ⟨id, rfl⟩
      · subst e
        refine .one ?_
        rcases hK with ⟨rfl, rfl⟩ | ⟨K', rfl, rfl⟩ | ⟨_, id, K', rfl, rfl, hx⟩
        · exact stepR_round_end hro hk (run_endRound none h1)
        · exact stepR_round_ret hro hk (run_endRound (some .ret) h1)
        · exact stepR_round_exit hro hk hx (run_endRound (some (.exit id)) h1)
    · cases h

theorem fits_exit {n id : Nat} : ∀ {K K' : List Item}, exitTo id K = some K' → K.all (itemFits n) = true → K'.all (itemFits n) = true
  | [], K', h, _ => by simp [exitTo] at h
  | it :: K, K', h, hf => by
    simp only [List.all_cons, Bool.and_eq_true] at hf
    cases it <;> simp only [exitTo] at h <;> first
      | exact fits_exit h hf.2
      | (split at h
         · cases h; exact hf.2
         · exact fits_exit h hf.2)

mutual
theorem scalar_VR : ∀ {x : AV} {v : Value} {Z Z' : FZ} {m m' : OM}, x.scalar = true → VR Z m x v → VR Z' m' x v
  | .bool b, v, Z, Z', m, m', hs, h => by cases h; exact .bool
  | .int k n, v, Z, Z', m, m', hs, h => by cases h; exact .int
  | .str s, v, Z, Z', m, m', hs, h => by cases h; exact .str
  | .nilp, v, Z, Z', m, m', hs, h => by cases h; exact .nilp
  | .nils, v, Z, Z', m, m', hs, h => by cases h; exact .nils
  | .nilm, v, Z, Z', m, m', hs, h => by cases h; exact .nilm
  | .nilf, v, Z, Z', m, m', hs, h => by cases h; exact .nilf
  | .nili, v, Z, Z', m, m', hs, h => by cases h; exact .nili
  | .agg cs, v, Z, Z', m, m', hs, h => by
    cases h with
    | agg hl hr =>
      obtain ⟨h1, h2⟩ := scalars_VR (Z' := Z') (m' := m') (by simpa [AV.scalar] using hs) (show LVR Z m cs _ from ⟨hl, hr⟩)
      exact .agg h1 h2
  | .tup cs, v, Z, Z', m, m', hs, h => by
    cases h with
    | tup hl hr =>
      obtain ⟨h1, h2⟩ := scalars_VR (Z' := Z') (m' := m') (by simpa [AV.scalar] using hs) (show LVR Z m cs _ from ⟨hl, hr⟩)
      exact .tup h1 h2
  | .undef, v, Z, Z', m, m', hs, h => by simp [AV.scalar] at hs
  | .sl _, v, Z, Z', m, m', hs, h => by simp [AV.scalar] at hs
  | .ref .., v, Z, Z', m, m', hs, h => by simp [AV.scalar] at hs
  | .ptr .., v, Z, Z', m, m', hs, h => by simp [AV.scalar] at hs
  | .eptr .., v, Z, Z', m, m', hs, h => by simp [AV.scalar] at hs
  | .raddr _, v, Z, Z', m, m', hs, h => by simp [AV.scalar] at hs
  | .map _, v, Z, Z', m, m', hs, h => by simp [AV.scalar] at hs
  | .yld _, v, Z, Z', m, m', hs, h => by simp [AV.scalar] at hs
  | .fn .., v, Z, Z', m, m', hs, h => by simp [AV.scalar] at hs
theorem scalars_VR : ∀ {xs : List AV} {vs : List Value} {Z Z' : FZ} {m m' : OM}, scalars xs = true → LVR Z m xs vs → LVR Z' m' xs vs
  | [], vs, Z, Z', m, m', hs, h => by rw [h.nil]; exact ⟨rfl, fun j h => absurd h (by simp)⟩
  | x :: xs, vs, Z, Z', m, m', hs, h => by
    obtain ⟨v, vs', rfl, hx, hxs⟩ := h.cons
    simp only [scalars, Bool.and_eq_true] at hs
    have h1 := scalar_VR (Z' := Z') (m' := m') hs.1 hx
    obtain ⟨h2, h3⟩ := scalars_VR (Z' := Z') (m' := m') hs.2 hxs
    refine ⟨by simp [h2], fun j a b => ?_⟩
    cases j with
    | zero => exact h1
    | succ j => exact h3 j (by simpa using a) (by simpa using b)
end

/-- A heap of its own. -/
theorem fresh (hW : WR Z m base W0 H W) : WR Z OM.none W.heap.size W [] W :=
  ⟨Nat.le_refl _, Below.refl _ _, hW.zok, fun i L h => by simp [OM.none] at h, fun i ob h => by simp at h, fun i j ob ob' L L' h => by simp at h, fun i ob L h => by simp at h, fun i h => by simp at h⟩

/-- Behind a call by value: what the caller had is as it was; what is frozen since lies in new memory. -/
theorem back (hW : WR Z m base W0 H W) {Z' : FZ} {m' : OM} {H1 : Heap} {W' : World} (hx : Ext W.heap.size Z Z' OM.none m') (hW1 : WR Z' m' W.heap.size W H1 W') :
    WR Z' m base W0 H W' ∧ Ext base Z Z' m m := by
  have hg := hW.grow hW1.below
  have hle : base ≤ W.heap.size := Nat.le_trans hW.hb hW.below.size
  refine ⟨⟨hg.hb, hg.below, hW1.zok, hg.lim, ?_, hg.inj, ?_, hg.hole⟩, hx.1, OM.le.refl _, fun b o v e => (hx.2.2 b o v e).imp id fun h => Nat.le_trans hle h⟩
  · intro i ob hi hd
    obtain ⟨L, hL, ho⟩ := hg.obs i ob hi hd
    exact ⟨L, hL, ho.keep hx.1 (OM.le.refl _) fun _ => rfl⟩
  · intro i ob L hi ha hL
    refine ⟨(hg.sep i ob L hi ha hL).1, fun o => ?_⟩
    obtain ⟨L', hL', ho⟩ := hW.obs i ob hi (Ob.alive_ne ha)
    rw [hL] at hL'; cases hL'
    have hlt := ho.block_lt ha
    cases e : Z' L.b o with
    | none => rfl
    | some v => rcases hx.2.2 _ _ _ e with h | h
                · rw [(hW.sep i ob L hi ha hL).2] at h; cases h
                · omega

theorem enter_run {P : Program} {g : FuncId} {fn : Func} {c : Code} (hf : P.funcs[g]? = some fn) (hb : fn.body = some c) (hn : (fn.name == "runtime.NumGoroutine") = false) (vs : Array Value) :
    (callFunc g vs).run P W = .ok (.enter g vs) W := by
  unfold callFunc
  simp only [Sem.run_bind, run_program, Result.andThen_ok, hf, hn, hb, Option.isNone_some, Bool.false_eq_true, if_false, Sem.run_pure]

theorem initEnv_ER {args : List AV} {vs : List Value} (h : LVR Z m args vs) (n : Nat) : ER Z m (initEnv args) (vs.toArray ++ Array.replicate n Go.undef) := by
  intro i
  unfold initEnv
  by_cases hi : i < args.length
  · have hi' : i < vs.length := by rw [← h.1]; exact hi
    have e1 : args.getD i (.tup []) = args[i] := by simp [List.getD, hi]
    have e2 : (vs.toArray ++ Array.replicate n Go.undef).getD i Go.undef = vs[i] := by
      rw [Array.getD_eq_getD_getElem?, Array.getElem?_append_left (by simpa using hi')]
      simp [hi']
    rw [e1, e2]; exact h.2 i hi hi'
  · have hi' : ¬ i < vs.length := by rw [← h.1]; exact hi
    have e1 : args.getD i (.tup []) = .tup [] := by simp [List.getD, List.getElem?_eq_none (show args.length ≤ i by omega)]
    have e2 : (vs.toArray ++ Array.replicate n Go.undef).getD i Go.undef = Go.undef := by
      rw [Array.getD_eq_getD_getElem?, Array.getElem?_append_right (by simp; omega)]
      simp only [Array.getElem?_replicate]
      split <;> rfl
    rw [e1, e2]; exact tup_undef

/-- What a number of rounds tells of all frames. -/
def RunOk (C : Cfg) (rec : RunF) : Prop := ∀ ro fn K env D H r H', rec ro fn K env D H = some (r, H') → ∀ (Z : FZ) (m : OM) (base : Nat) (W0 W : World) (b : Frame) (a : Act) (cs : List Frame),
  FrOk C.P m ro b fn → K.all (itemFits a.tmps.size) = true → DRs Z m D a.defers → ER Z m env a.tmps → WR Z m base W0 H W → Ends C.P Z m base W0 r H' b a K cs W

theorem good_func (hG : Good C) {g : FuncId} {fn : Func} (hf : C.P.funcs[g]? = some fn) : funcOk fn = true := by
  have := hG.funcs
  rw [Array.all_eq_true_iff_forall_mem] at this
  exact this fn (Array.mem_of_getElem? hf)

theorem codeFits_mono {n n' : Nat} (hn : n ≤ n') : ∀ (c : Code), codeFits n c = true → codeFits n' c = true := by
  intro c
  induction c with
  | region id ops d =>
    intro h
    simp only [codeFits, opsFit] at h ⊢
    rw [Array.all_eq_true_iff_forall_mem] at h ⊢
    intro o ho
    have := h o ho
    cases hd : o.dst with
    | none => rfl
    | some d => simp [hd] at this ⊢; omega
  | seq x y ih1 ih2 => intro h; simp only [codeFits, Bool.and_eq_true] at h ⊢; exact ⟨ih1 h.1, ih2 h.2⟩
  | cond q x y ih1 ih2 => intro h; simp only [codeFits, Bool.and_eq_true] at h ⊢; exact ⟨ih1 h.1, ih2 h.2⟩
  | block id x ih => intro h; simp only [codeFits] at h ⊢; exact ih h
  | loop x ih => intro h; simp only [codeFits] at h ⊢; exact ih h
  | rangeFunc f ps x y ih1 ih2 =>
    intro h
    simp only [codeFits, Bool.and_eq_true] at h ⊢
    refine ⟨⟨?_, ih1 h.1.2⟩, ih2 h.2⟩
    have h1 := h.1.1
    rw [Array.all_eq_true_iff_forall_mem] at h1 ⊢
    intro d hd
    have := h1 d hd
    simp at this ⊢; exact Nat.lt_of_lt_of_le this hn
  | _ => intro _; rfl

theorem calls_of_run (hG : Good C) {rec : RunF} (hrec : RunOk C rec) {g : FuncId} {fn : Func} {c : Code} (hf : C.P.funcs[g]? = some fn) (hb : fn.body = some c) {args : List AV} {r : AV} {H' : Heap}
    (h : rec none fn [.code c] (initEnv args) [] H = some (r, H')) {vs : List Value} (hl : LVR Z m args vs) (hW : WR Z m base W0 H W) :
    Calls C.P g vs.toArray W fun e W' => ∃ v, e = .returned v ∧ Post Z m base W0 r H' v W' := by
  intro cs
  have hok := good_func hG hf
  unfold funcOk at hok
  rw [hb] at hok
  simp only [Bool.and_eq_true] at hok
  let b : Frame := { (default : Frame) with fn := g, kind := .normal, roundOf := none }
  let a : Act := { tmps := vs.toArray ++ Array.replicate (fn.ntmps - vs.toArray.size) Go.undef, defers := [] }
  have henter : Frame.enter C.P g vs.toArray .normal = b.atR a [.code c] := by
    simp [Frame.enter, Frame.atR, hf, hb, b, a]
  have hsz : fn.ntmps ≤ a.tmps.size := by simp [a]; omega
  have hfits : codeFits a.tmps.size c = true := codeFits_mono hsz c hok.1
  obtain ⟨v, W', h4, hor⟩ := hrec none fn _ _ _ _ _ _ h Z m base W0 W b a cs ⟨rfl, rfl, hf⟩ (by simp [itemFits, hfits]) trivial (initEnv_ER hl _) hW
  rcases hor with ⟨_, fr, h1, h2, h3⟩ | ⟨h0, _⟩
  · rw [← henter] at h1
    exact ⟨.returned v, W', fr, ⟨v, rfl, h4⟩, h1, h2, h3⟩
  · exact absurd rfl h0

theorem putAll_ER : ∀ {ps : List Tmp} {args : List AV} {vs : List Value} {env : Env} {t : Array Value}, ps.all (fun d => d < t.size) = true → args.length = ps.length → LVR Z m args vs → ER Z m env t →
    ER Z m (putAll env ps args) ((ps.zip vs).foldl (fun t (p, v) => t.setIfInBounds p v) t) ∧ ((ps.zip vs).foldl (fun t (p, v) => t.setIfInBounds p v) t).size = t.size
  | [], args, vs, env, t, hp, hl, hv, hE => by
    have : args = [] := List.length_eq_zero_iff.1 hl
    subst this
    simp [putAll, hE]
  | p :: ps, args, vs, env, t, hp, hl, hv, hE => by
    match args, hl with
    | x :: args, hl =>
      obtain ⟨v, vs', rfl, hx, hxs⟩ := hv.cons
      simp only [List.all_cons, Bool.and_eq_true, decide_eq_true_eq] at hp
      have h1 : ER Z m (env.upd p x) (t.setIfInBounds p v) := by
        have := hE.put (a := { tmps := t, defers := [] }) (d := some p) hx (fun d' e => by cases e; exact hp.1)
        exact this
      have h2 := putAll_ER (ps := ps) (args := args) (vs := vs') (env := env.upd p x) (t := t.setIfInBounds p v) (by simpa using hp.2) (by simpa using hl) hxs h1
      simp only [List.zip_cons_cons, List.foldl_cons, putAll]
      exact ⟨h2.1, by rw [h2.2]; simp⟩

theorem call_sound (hG : Good C) {rec : RunF} (hrec : RunOk C rec) : CallOk C.P (callV C rec) := by
  intro tg args H r H' h Z m base W0 W vs hl hW
  cases tg with
  | yld i =>
    simp only [callV] at h
    split at h
    · rename_i env ps asg body st pe hi
      split at h
      · rename_i hlen
        obtain ⟨L, hL, rr, h1, h2, h3, h4, h5, h6, h7, h8, h9, h10, h11⟩ := hW.obs i _ hi (by simp)
        have hsz : vs.toArray.size = rr.params.size := by rw [h4, ← hlen]; simp [hl.1]
        refine ⟨L, rr.fn, _, rr.assign, rr.body, hL, run_yield h1 hsz, fun c cs => ?_⟩
        have efold : (rr.params.zip vs.toArray).foldl (fun tmps (x : Tmp × Value) => tmps.setIfInBounds x.1 x.2) rr.tmps = (ps.toList.zip vs).foldl (fun t (x : Tmp × Value) => t.setIfInBounds x.1 x.2) rr.tmps := by
          rw [← Array.foldl_toList, Array.toList_zip, h4]
        obtain ⟨hE, hts⟩ := putAll_ER (ps := ps.toList) (args := args) (vs := vs) (env := env) (t := rr.tmps) (by simpa using h7) (by simpa using hlen) hl h11
        let b : Frame := { (default : Frame) with fn := rr.fn, kind := .normal, roundOf := some L.b }
        let a : Act := { tmps := (ps.toList.zip vs).foldl (fun t (x : Tmp × Value) => t.setIfInBounds x.1 x.2) rr.tmps, defers := [] }
        have hb0 : Frame.round L.b rr.fn ((rr.params.zip vs.toArray).foldl (fun tmps (x : Tmp × Value) => tmps.setIfInBounds x.1 x.2) rr.tmps) rr.assign rr.body .normal = b.atR a [.code asg, .beginRound, .code body] := by
          rw [efold, h5, h6]; simp [Frame.round, Frame.atR, b, a]
        have hsz' : a.tmps.size = rr.tmps.size := hts
        obtain ⟨v, W', hp, hor⟩ := hrec (some i) default _ _ _ _ _ _ h Z m base W0 W b a (c :: cs) ⟨rfl, L, hL, rfl⟩ (by simp [itemFits, hsz', h8, h9]) trivial hE hW
        rcases hor with ⟨h0, _⟩ | ⟨_, hs⟩
        · exact absurd h0 (by simp [b])
        · refine ⟨v, W', hp, ?_⟩
          have := hs c cs rfl
          rw [← hb0] at this
          exact this
      · cases h
    · cases h
  | fn g =>
  simp only [callV] at h
  split at h
  · rename_i e he
    split at h
    · cases h
    · rename_i args' H1 hfz
      split at h
      · cases h
      · rename_i r' hr
        split at h
        · rename_i hs
          cases h
          obtain ⟨Z1, hx, hW1, hl1⟩ := freezes_sound hfz hW hl
          rcases hG.ext g e he args' r hr hs Z1 W vs hW1.zok hl1 with ⟨v, W', h1, h2, h3⟩ | ⟨h1, h2⟩
          · exact .inl ⟨v, W', h1, Z, m, Ext.refl _ _ _, hW.grow h2, scalar_VR hs h3⟩
          · refine .inr ⟨h1, h2.mono fun e W' hh => ?_⟩
            obtain ⟨v, rfl, h3, h4⟩ := hh
            exact ⟨v, rfl, Z, m, Ext.refl _ _ _, hW.grow h3, scalar_VR hs h4⟩
        · cases h
  · split at h
    · cases h
    · rename_i fn hf
      split at h
      · cases h
      · rename_i c hb
        have hok := good_func hG hf
        unfold funcOk at hok
        rw [hb] at hok
        simp only [Bool.and_eq_true, Bool.not_eq_true'] at hok
        refine .inr ⟨enter_run hf hb hok.2 _, ?_⟩
        split at h
        · exact calls_of_run hG hrec hf hb h hl hW
        · unfold valCall at h
          split at h
          · cases h
          · rename_i args' H1 hfz
            split at h
            · cases h
            · rename_i r1 H2 hr
              split at h
              · cases h
              · rename_i r' H3 hfr
                obtain ⟨Z1, hx, hW1, hl1⟩ := freezes_sound hfz hW hl
                refine (calls_of_run hG hrec hf hb hr hl1 (fresh hW1)).mono fun e W' hh => ?_
                obtain ⟨v, rfl, Z2, m2, hx2, hW2, hv2⟩ := hh
                obtain ⟨Z3, hx3, hW3, hv3⟩ := freeze_sound hfr hW2 hv2
                refine ⟨v, rfl, ?_⟩
                split at h
                · split at h
                  · rename_i hs
                    cases h
                    exact ⟨Z, m, Ext.refl _ _ _, hW.grow hW2.below, scalar_VR hs hv3⟩
                  · cases h
                · cases h
                  obtain ⟨hb1, hb2⟩ := back hW1 (hx2.trans hx3) hW3
                  exact ⟨Z3, m, hx.trans hb2, hb1, hv3.mono (FZ.le.refl _) (OM.none_le m)⟩

/-- A region's operations, in whatever order they may be drawn, come to the same. -/
theorem region_sched (hG : Good C) {rec : RunF} {ops : Array Oper} {env env' : Env} {H1 : Heap} {draw : Bool} {id : Nat} {b : Frame} {a : Act} {K : List Item} {cs : List Frame}
    (hd : (!draw || drawOk C ops) = true) (h : opsRun C.P (callV C rec) ops (List.range ops.size) env H = some (env', H1)) (hW : WR Z m base W0 H W) :
    ∃ W' l, step C.P (lone (b.atR a (.code (.region id ops draw) :: K)) cs W) = .next (lone (b.atR a (.inRegion ops l :: K)) cs W') ∧
      opsRun C.P (callV C rec) ops l env H = some (env', H1) ∧ WR Z m base W0 H W' := by
  cases draw with
  | false => exact ⟨W, List.range ops.size, stepR_region, h, hW⟩
  | true =>
    refine ⟨_, _, stepR_region_draw, ?_, hW.drewN 1⟩
    simp only [Region.schedule, hG.mixed, Bool.true_or, if_true]
    exact draw_any (by simpa using hd) h _

theorem lastDefer_spec {ops : Array Oper} {draw : Bool} {t : TypeId} {x y : Operand} (h : lastDefer ops draw = some (t, x, y)) :
    draw = false ∧ 0 < ops.size ∧ ∃ o c, ops[ops.size - 1]? = some o ∧ o.dst = none ∧ o.guard = none ∧ o.op = .defer c ∧ c.callee = .builtin .delete ∧ c.args = #[x, y] ∧ c.argTypes[0]? = some t := by
  unfold lastDefer at h
  split at h
  · rename_i o hb
    split at h
    · rename_i c h1 h2 h3
      split at h
      · rename_i m k t' h4 h5 h6
        cases h
        have hb' : ops[ops.size - 1]? = some o := by rw [← Array.back?_eq_getElem?]; exact hb
        have : ops.size - 1 < ops.size := (Array.getElem?_eq_some_iff.1 hb').1
        refine ⟨rfl, by omega, o, c, hb', h1, h2, h3, h4, ?_, h6⟩
        apply Array.ext'
        exact h5
      · cases h
    · cases h
  · cases h

theorem E_VR {Z : FZ} {m : OM} {env : Env} {t : Array Value} (h : ER Z m env t) : ∀ (l : List Nat) (i : Nat), VR Z m (E (l.map fun t => (t, env t)) i) (t.getD i Go.undef)
  | [], i => .undef
  | d :: l, i => by
    simp only [List.map_cons, E]
    split
    · rename_i e; subst e; exact h _
    · exact E_VR h l i

theorem ER.restr {Z : FZ} {m : OM} {env : Env} {t : Array Value} (h : ER Z m env t) (o : Option (List Nat)) : ER Z m (V.restr o env) t := by
  cases o with
  | none => exact h
  | some l => exact fun i => E_VR h l i

theorem run_sound (hG : Good C) : ∀ k, RunOk C (run C k)
  | 0 => fun ro fn K env D H r H' h => by simp [run] at h
  | k + 1 => by
    have ih := run_sound hG k
    intro ro fn K env D H r H' h Z m base W0 W b a cs hfr hfits hd hE hW
    unfold run at h
    split at h
    · exact leave_sound h hfr hd hE hW (.inl ⟨rfl, rfl⟩)
    · exact leave_sound h hfr hd hE hW (.inr (.inl ⟨_, rfl, rfl⟩))
    · simp only [List.all_cons, Bool.and_eq_true] at hfits
      exact (ih ro fn _ _ _ _ _ _ h Z m base W0 W b a cs hfr hfits.2 hd (hE.restr _) hW).steps (.one stepR_skip)
    · simp only [List.all_cons, Bool.and_eq_true] at hfits
      exact (ih ro fn _ _ _ _ _ _ h Z m base W0 W b a cs hfr hfits.2 hd hE hW).steps (.one stepR_inBlock)
    · simp only [List.all_cons, Bool.and_eq_true, itemFits, codeFits] at hfits
      exact (ih ro fn _ _ _ _ _ _ h Z m base W0 W b a cs hfr (by simp [itemFits, hfits.1.1, hfits.1.2, hfits.2]) hd hE hW).steps (.one stepR_seq)
    · rename_i q x y K
      simp only [List.all_cons, Bool.and_eq_true, itemFits, codeFits] at hfits
      split at h
      · rename_i t ht
        have hv := evalV_VR hE q
        rw [ht] at hv
        generalize hw : a.eval q = w at hv
        cases hv
        refine (ih ro fn _ _ _ _ _ _ h Z m base W0 W b a cs hfr ?_ hd hE hW).steps (.one (stepR_cond hw))
        cases t <;> simp [itemFits, hfits.1.1, hfits.1.2, hfits.2]
      · cases h
    · simp only [List.all_cons, Bool.and_eq_true, itemFits, codeFits] at hfits
      exact (ih ro fn _ _ _ _ _ _ h Z m base W0 W b a cs hfr (by simp [itemFits, hfits.1, hfits.2]) hd hE hW).steps (.one stepR_block)
    · simp only [List.all_cons, Bool.and_eq_true, itemFits, codeFits] at hfits
      exact (ih ro fn _ _ _ _ _ _ h Z m base W0 W b a cs hfr (by simp [itemFits, hfits.1, hfits.2]) hd (hE.restr _) hW).steps (.one stepR_loop)
    · simp only [List.all_cons, Bool.and_eq_true, itemFits, codeFits] at hfits
      exact (ih ro fn _ _ _ _ _ _ h Z m base W0 W b a cs hfr (by simp [itemFits, hfits.1, hfits.2]) hd (hE.restr _) hW).steps (.one stepR_inLoop)
    · rename_i id K
      simp only [List.all_cons, Bool.and_eq_true] at hfits
      split at h
      · rename_i K' hk
        exact (ih ro fn _ _ _ _ _ _ h Z m base W0 W b a cs hfr (fits_exit hk hfits.2) hd (hE.restr _) hW).steps (.one (stepR_exit hk))
      · rename_i hk
        split at h
        · rename_i i
          exact leave_sound h hfr hd hE hW (.inr (.inr ⟨by simp, id, K, rfl, rfl, hk⟩))
        · cases h
    · rename_i id ops draw K
      simp only [List.all_cons, Bool.and_eq_true, itemFits, codeFits] at hfits
      split at h
      · rename_i t x y hld
        split at h
        · rename_i env' H1 hops
          obtain ⟨rfl, hpos, o, c, ho, ho1, ho2, ho3, ho4, ho5, ho6⟩ := lastDefer_spec hld
          have hro : b.roundOf = none := hfr.2.1
          have hstep : step C.P (lone (b.atR a (.code (.region id ops false) :: K)) cs W) = .next (lone (b.atR a (.inRegion ops (List.range (ops.size - 1) ++ [ops.size - 1]) :: K)) cs W) := by
            have e : List.range ops.size = List.range (ops.size - 1) ++ [ops.size - 1] := by
              rw [← List.range_succ]; congr 1; omega
            rw [← e]; exact stepR_region
          obtain ⟨a', W', Z', m', h1, h2, h3, h4, h5, h6⟩ := ops_sound (call_sound hG ih) (b := b) (K := K) (cs := cs) (rest := [ops.size - 1]) hops hfits.1 hE hW
          obtain ⟨od, oo, ot, op, oa, og⟩ := o
          simp only at ho1 ho2 ho3
          subst ho1 ho2 ho3
          have hw : Region.wanted ⟨none, .defer c, ot, op, oa, none⟩ (yielded ops a'.tmps) = true := rfl
          have hgo := stepGR_op (P := C.P) (b := b) (k := K) (a := a') (cs := cs) (w := W') (rest := []) ho hw
          rw [hro, Oper.semAt_none] at hgo
          let d : Deferred := { target := .builtin .delete c.argTypes ot (c.args.map fun | .const _ => true | _ => false), args := c.args.map a'.eval }
          have hd0 : d = { target := .builtin .delete c.argTypes ot (c.args.map fun | .const _ => true | _ => false), args := #[a'.eval x, a'.eval y] } := by
            simp only [d, Deferred.mk.injEq, true_and]; rw [ho5]; simp
          have hrun : (execOp a'.eval ⟨none, .defer c, ot, op, oa, none⟩).run C.P W' = .ok (.defer d) W' := by
            simp only [execOp, resolve, ho4, Sem.run_bind, Sem.run_pure, Result.andThen_ok]; rfl
          have hdef : step C.P (lone (b.atR a' (.inRegion ops [ops.size - 1] :: K)) cs W') = .next (lone (b.atR { a' with defers := d :: a'.defers } (.inRegion ops [] :: K)) cs W') := by
            refine step_lone_go ?_
            rw [hgo]
            simp [stepG.apply, hrun, Frame.atR, Frame.finish, ho]
          have hrest := ih none fn _ _ _ _ _ _ h Z' m' base W0 W' b { a' with defers := d :: a'.defers } cs (hfr.mono h6.2.1) (by rw [h3]; exact hfits.2)
            ⟨⟨_, _, _, _, _, hd0, ho6, evalV_VR h4 x, evalV_VR h4 y⟩, by rw [h2]; exact hd.mono h6.1 h6.2.1⟩ h4 h5
          exact (hrest.weaken h6 |>.steps (.head hdef (.one stepR_region_end))).steps ((Steps.one hstep).trans h1)
        · cases h
      · split at h
        · rename_i hdraw
          split at h
          · rename_i env' H1 hops
            obtain ⟨W1, l, hstep, hops', hw1⟩ := region_sched hG (b := b) (a := a) (K := K) (cs := cs) (id := id) hdraw hops hW
            obtain ⟨a', W', Z', m', h1, h2, h3, h4, h5, h6⟩ := ops_sound (call_sound hG ih) (b := b) (K := K) (cs := cs) (rest := []) hops' hfits.1 hE hw1
            rw [List.append_nil] at h1
            have hrest := ih ro fn _ _ _ _ _ _ h Z' m' base W0 W' b a' cs (hfr.mono h6.2.1) (by rw [h3]; exact hfits.2) (by rw [h2]; exact hd.mono h6.1 h6.2.1) (h4.restr _) h5
            exact (hrest.weaken h6 |>.steps (.one stepR_region_end)).steps ((Steps.one hstep).trans h1)
          · cases h
        · rename_i hnd
          split at h
          · rename_i env' H1 hdr
            have hdraw : draw = true := by
              cases draw with
              | true => rfl
              | false => simp at hnd
            subst hdraw
            unfold drawRun at hdr
            simp only at hdr
            have hw1 := (show WR Z m base W0 (if 2 ≤ (ops.toList.filter isAlloc).length then H ++ List.replicate (ops.toList.filter isAlloc).length .hole else H) W from by
              split
              · exact hW.room _
              · exact hW)
            generalize (if 2 ≤ (ops.toList.filter isAlloc).length then H ++ List.replicate (ops.toList.filter isAlloc).length Ob.hole else H) = Hs at hdr hw1
            generalize (if 2 ≤ (ops.toList.filter isAlloc).length then some H.length else none) = sl at hdr
            split at hdr
            · cases hdr
            · rename_i as fin htr
              split at hdr
              · rename_i hck
                cases hdr
                have hany := drawA_any htr hck (W.tape W.drawn (.order b.fn id))
                have hstep := stepR_region_draw (P := C.P) (b := b) (a := a) (k := K) (cs := cs) (w := W) (ops := ops) (id := id)
                simp only [Region.schedule, hG.mixed, Bool.true_or, if_true] at hstep
                obtain ⟨a', W', Z', m', h1, h2, h3, h4, h5, h6⟩ := listD_sound (call_sound hG ih) (b := b) (K := K) (cs := cs) hany hfits.1 hE (hw1.drewN 1)
                have hrest := ih ro fn _ _ _ _ _ _ h Z' m' base W0 W' b a' cs (hfr.mono h6.2.1) (by rw [h3]; exact hfits.2) (by rw [h2]; exact hd.mono h6.1 h6.2.1) (h4.restr _) h5
                exact (hrest.weaken h6 |>.steps (.one stepR_region_end)).steps ((Steps.one hstep).trans h1)
              · cases hdr
          · cases h
    · rename_i f ps asg body K
      simp only [List.all_cons, Bool.and_eq_true, itemFits, codeFits] at hfits
      split at h
      · rename_i g first caps hf
        split at h
        · cases h
        · rename_i gf hgf
          split at h
          · cases h
          · rename_i gc hgc
            split at h
            · cases h
            · rename_i r1 H1 hrun
              obtain ⟨hk, hro, hfn⟩ := hfr
              -- the record, and the block of its deferred calls
              let Ld : Loc := ⟨W.heap.size, 0, 0, 0⟩
              let Ll : Loc := ⟨W.heap.size + 1, 0, 0, 0⟩
              let rec0 : Loop := { state := .ready, pending := none, fn := b.fn, tmps := a.tmps, params := ps, assign := asg, body := body, defers := W.heap.size }
              let W1 : World := W.alloc (.deferred (some []))
              let W2 : World := W1.alloc (.loop rec0)
              let m1 : OM := m.ext H.length Ld
              have hw1 : WR Z m1 base W0 (H ++ [.defs]) W1 := hW.alloc _ _ Ld rfl (World.alloc_heap_new W _)
              have hlen1 : (H ++ [Ob.defs]).length = H.length + 1 := by simp
              let m2 : OM := m1.ext (H ++ [Ob.defs]).length Ll
              have hle1 : m.le m1 := OM.le_ext hW.m_none
              have hle2 : m1.le m2 := OM.le_ext hw1.m_none
              have hs1 : W1.heap.size = W.heap.size + 1 := by simp [W1]
              have hnew : W2.heap[W.heap.size + 1]? = some (.loop rec0) := by
                have := World.alloc_heap_new W1 (.loop rec0); rwa [hs1] at this
              have hw2 : WR Z m2 base W0 ((H ++ [.defs]) ++ [.loop env ps asg body .ready none]) W2 := by
                refine hw1.alloc _ _ Ll hs1.symm ⟨rec0, hnew, rfl, rfl, rfl, rfl, rfl, hfits.1.1.1, hfits.1.1.2, hfits.1.2, (fun c hc => by cases hc), hE.mono (FZ.le.refl _) (hle1.trans hle2)⟩
              have hmd : m2 H.length = some Ld := hle2 _ _ (OM.ext_at _ _ _)
              have hml : m2 (H.length + 1) = some Ll := by rw [← hlen1]; exact OM.ext_at _ _ _
              have hv := evalV_VR hE f
              rw [hf] at hv
              generalize hwv : a.eval f = w at hv
              cases hv with
              | fn ha hc' hva hvc =>
                rename_i as' cs'
                have hl : LVR Z m2 (first ++ [.yld (H.length + 1)] ++ caps) (as' ++ [Value.func (.yield Ll.b) #[] #[]] ++ cs') := by
                  refine LVR.append (LVR.append (LVR.mono ⟨ha, hva⟩ (FZ.le.refl _) (hle1.trans hle2)) ⟨rfl, fun j a b => ?_⟩) (LVR.mono ⟨hc', hvc⟩ (FZ.le.refl _) (hle1.trans hle2))
                  have : j = 0 := by simp at a; omega
                  subst this
                  exact VR.yld hml
                have happ : H ++ [Ob.defs, Ob.loop env ps asg body .ready none] = (H ++ [Ob.defs]) ++ [Ob.loop env ps asg body .ready none] := by simp
                rw [happ] at hrun
                have hcall := calls_of_run hG ih hgf hgc hrun hl hw2 (b.atR { a with defers := [{ target := .collected W.heap.size, args := #[] }] ++ a.defers } (.inRangeFunc (W.heap.size + 1) :: K) :: cs)
                obtain ⟨e, W3, fr, ⟨v, rfl, Z3, m3, hx3, hw3, _⟩, hsteps, _, hleave⟩ := hcall
                have hok := good_func hG hgf
                unfold funcOk at hok
                rw [hgc] at hok
                simp only [Bool.and_eq_true, Bool.not_eq_true'] at hok
                have henter := stepR_rangeFunc (P := C.P) (b := b) (a := a) (k := K) (cs := cs) (w := W) (g := f) (ps := ps) (assign := asg) (body := body) (l := W.heap.size + 1) (mark := [{ target := .collected W.heap.size, args := #[] }])
                  (w₁ := W2) (w₁' := W2) (w₂ := W2) (d := { target := .fn (.func g) cs'.toArray, args := as'.toArray ++ #[Value.func (.yield (W.heap.size + 1)) #[] #[]] }) (f := g) (args := (as' ++ [Value.func (.yield Ll.b) #[] #[]] ++ cs').toArray)
                  (by rw [hro]; exact run_enterLoop_outer _ _ _ _ _) (by
                    simp only [resolve, hwv, Deferred.ofValue, Sem.run_pure]
                    simp only [Result.ok.injEq, Deferred.mk.injEq, and_true, true_and]
                    apply Array.ext'
                    simp [Act.eval])
                  (by
                    have := enter_run (P := C.P) (W := W2) hgf hgc hok.2 ((as' ++ [Value.func (.yield Ll.b) #[] #[]] ++ cs').toArray)
                    rw [← this]
                    simp only [invoke]
                    congr 2
                    apply Array.ext'
                    simp [Ll])
                have hback := step_leave_returned (c := b.atR { a with defers := [{ target := .collected W.heap.size, args := #[] }] ++ a.defers } (.inRangeFunc (W.heap.size + 1) :: K)) (cs := cs) hleave
                rw [finish_atR_inRangeFunc] at hback
                have hend : ∀ (e : Nat → AV) (ps' : Array Tmp) (x y : Code) (st : LoopState) (pend : Option Code), H1[H.length + 1]? = some (.loop e ps' x y st pend) → st ≠ .busy →
                    run C k none fn ((pend.map Item.code).toList ++ K) env (.coll H.length :: D) (H1.set (H.length + 1) .dead) = some (r, H') → Ends C.P Z m base W0 r H' b a (.code (.rangeFunc f ps asg body) :: K) cs W := by
                  intro e ps' x y st pend hob hst hrun2
                  obtain ⟨L', hL', rr, k1, k2, k3, k4, k5, k6, k7, k8, k9, k10, k11⟩ := hw3.obs _ _ hob (by simp)
                  have hml3 : m3 (H.length + 1) = some Ll := hx3.2.1 _ _ hml
                  rw [hml3] at hL'; cases hL'
                  subst k3
                  have hrl := run_endLoop (P := C.P) k1 (by rw [k2]; exact hst)
                  have hse := stepR_endRangeFunc (b := b) (a := { a with defers := [{ target := .collected W.heap.size, args := #[] }] ++ a.defers }) (k := K) (cs := cs) hrl
                  have hw4 := kill_any (o := .loop { rr with state := .exhausted }) hw3 hob rfl hml3 rfl
                  have hxx : Ext base Z Z3 m m3 := (Ext.of_m (hle1.trans hle2)).trans hx3
                  have hrest := ih none fn _ _ _ _ _ _ hrun2 Z3 m3 base W0 _ b { a with defers := [{ target := .collected W.heap.size, args := #[] }] ++ a.defers } cs ⟨hk, hro, hfn⟩
                    (by
                      rw [List.all_append, Bool.and_eq_true]
                      refine ⟨?_, hfits.2⟩
                      cases hp : rr.pending with
                      | none => rfl
                      | some c => rcases k10 c hp with rfl | ⟨id, rfl⟩ <;> rfl)
                    ⟨⟨Ld, hx3.2.1 _ _ hmd, rfl⟩, hd.mono hxx.1 hxx.2.1⟩ (hE.mono hxx.1 hxx.2.1) hw4
                  exact (hrest.weaken hxx).steps (.head henter (hsteps.trans (.head hback (.one hse))))
                split at h
                · cases h
                · rename_i e ps' x y st pend hnb hob
                  exact hend e ps' x y st pend hob (fun e => hnb (by rw [e])) h
                · cases h
      · cases h
    · rename_i K
      simp only [List.all_cons, Bool.and_eq_true] at hfits
      split at h
      · rename_i i
        split at h
        · rename_i e ps x y pend hi
          obtain ⟨hk, L, hL, hro⟩ := hfr
          obtain ⟨L', hL', rr, k1, k2, k3, k4, k5, k6, k7, k8, k9, k10, k11⟩ := hW.obs _ _ hi (by simp)
          rw [hL] at hL'; cases hL'
          have hlt : L.b < W.heap.size := (Array.getElem?_eq_some_iff.1 k1).1
          have hw1 : WR Z m base W0 (H.set i (.loop e ps x y .busy pend)) (W.putObj L.b (.loop { rr with state := .busy })) :=
            hW.change hi rfl hL rfl rfl rfl (by simp) (fun k _ hne => World.putObj_heap_other hne) (.inl ⟨rfl, { rr with state := .busy }, World.putObj_heap_same hlt, rfl, k3, k4, k5, k6, k7, k8, k9, k10, k11⟩)
          exact (ih _ fn _ _ _ _ _ _ h Z m base W0 _ b a cs ⟨hk, L, hL, hro⟩ hfits.2 hd hE hw1).steps (.one (stepR_beginRound hro (run_beginRound k1 k2)))
        · cases h
      · cases h
    · cases h

end Go.V
