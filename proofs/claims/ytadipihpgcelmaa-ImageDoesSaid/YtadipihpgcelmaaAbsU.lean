/- The interpreter is sound. -/
import Derived.Test.YtadipihpgcelmaaAbsT
namespace Go.Proofs.Ytadipihpgcelmaa.Ab
open Go
set_option linter.unusedVariables false
set_option linter.unusedSimpArgs false

section
variable {P : Program}
theorem After.trans {C C1 : Ctx} {w w1 : World} {st' : St} {s0 : Nat} {ro : Option Nat} {Q : Act → World → Prop} (hs : Step C w C1 w1) (h : After C w st' s0 ro Q) : After C1 w1 st' s0 ro Q :=
  fun C' a' w' h1 h2 h3 h4 => h C' a' w' (hs.trans h1) h2 h3 h4

theorem sound_here {c : Code} {e : AX} {st : St} (h : ∀ (F : Fence) (n : Nat) (Q : Exit → Act → World → Prop) (a : Act) (w : World), F.fn = (fun _ => True) → Q (toExit e) a w → c.wpIn F n P Q a w) : SoundAt P c st e st :=
  ⟨rfl, Nat.le_refl _, fun C a w s0 ro n Q hq hs0 hsr hm hd hQ => h (fen ro) n Q a w rfl (hQ C a w (Step.refl C w) hsr hm hd)⟩

theorem sound_seq {x y : Code} {st st1 st2 : St} {e : AX} (h1 : SoundAt P x st .normal st1) (h2 : SoundAt P y st1 e st2) : SoundAt P (.seq x y) st e st2 := by
  obtain ⟨a1, b1, c1⟩ := h1
  obtain ⟨a2, b2, c2⟩ := h2
  refine ⟨a2.trans a1, Nat.le_trans b1 b2, fun C a w s0 ro n Q hq hs0 hsr hm hd hQ => wpIn_seq (c1 C a w s0 ro n _ hq hs0 hsr hm hd ?_)⟩
  intro C' a' w' g1 g2 g3 g4
  exact c2 C' a' w' s0 ro n Q (a1.trans hq) (Nat.le_trans hs0 g1.size) g2 g3 g4 (hQ.trans g1)
theorem then_exit {e : AX} (he : e ≠ .normal) {K : Act → World → Prop} {Q : Exit → Act → World → Prop} {a : Act} {w : World} (h : Q (toExit e) a w) : Exit.then K Q (toExit e) a w := by
  cases e <;> first | exact absurd rfl he | exact h
theorem sound_seq' {x y : Code} {st st1 : St} {e : AX} (he : e ≠ .normal) (h1 : SoundAt P x st e st1) : SoundAt P (.seq x y) st e st1 := by
  obtain ⟨a1, b1, c1⟩ := h1
  refine ⟨a1, b1, fun C a w s0 ro n Q hq hs0 hsr hm hd hQ => wpIn_seq (c1 C a w s0 ro n _ hq hs0 hsr hm hd ?_)⟩
  exact fun C' a' w' g1 g2 g3 g4 => then_exit he (hQ C' a' w' g1 g2 g3 g4)
theorem sound_cond {c : Operand} {x y : Code} {st st1 : St} {e : AX} {t : Bool} (hc : ev st.T c = .b t) (h : SoundAt P (bif t then x else y) st e st1) : SoundAt P (.cond c x y) st e st1 := by
  obtain ⟨a1, b1, c1⟩ := h
  refine ⟨a1, b1, fun C a w s0 ro n Q hq hs0 hsr hm hd hQ => ?_⟩
  have hv : VRel C w (ev st.T c) (a.eval c) := ev_rel fun t _ => hsr.tm t
  rw [hc] at hv
  simp only [VRel] at hv
  refine wpIn_cond hv ?_
  have := c1 C a w s0 ro n Q hq hs0 hsr hm hd hQ
  cases t <;> exact this
theorem sound_block {id : Nat} {c : Code} {st st1 : St} {e : AX} (h : SoundAt P c st e st1) : SoundAt P (.block id c) st (blockX id e) st1 := by
  obtain ⟨a1, b1, c1⟩ := h
  refine ⟨a1, b1, fun C a w s0 ro n Q hq hs0 hsr hm hd hQ => wpIn_block (c1 C a w s0 ro n _ hq hs0 hsr hm hd ?_)⟩
  intro C' a' w' g1 g2 g3 g4
  have := hQ C' a' w' g1 g2 g3 g4
  cases e with
  | exit j =>
    simp only [blockX] at this
    simp only [toExit, Exit.inBlock]
    split at this
    · rename_i hj; rw [if_pos hj]; exact this
    · rename_i hj; rw [if_neg hj]; exact this
  | _ => exact this

/-! ### Loops -/
theorem loopA_rel {rec : Rec} (hrec : Sound P rec) {body : Code} : ∀ {k : Nat} {st st' : St} {e : AX}, loopA rec body k st = some (e, st') →
    st'.q = st.q ∧ st.H.nx ≤ st'.H.nx ∧ ∀ (C : Ctx) (a : Act) (w : World) (s0 : Nat) (ro : Option Nat) (n : Nat) (Q : Exit → Act → World → Prop), st.q = ro.isSome → s0 ≤ w.heap.size → SRel C st a w → MarksOk C w s0 a.defers → (ro.isSome = true → a.defers = []) →
      After C w st' s0 ro (Q (toExit e)) → Code.roundsIn (fen ro) n P body Q k a w
  | 0, st, st', e, h => by cases h
  | k + 1, st, st', e, h => by
    simp only [loopA] at h
    split at h
    · rename_i st1 h1
      obtain ⟨a1, b1, c1⟩ := hrec _ _ _ _ h1
      obtain ⟨a2, b2, c2⟩ := loopA_rel hrec h
      refine ⟨a2.trans a1, Nat.le_trans b1 b2, fun C a w s0 ro n Q hq hs0 hsr hm hd hQ => ?_⟩
      rw [roundsIn_succ]
      refine c1 C a w s0 ro n _ hq hs0 hsr hm hd fun C' a' w' g1 g2 g3 g4 => ?_
      exact c2 C' a' w' s0 ro n Q (a1.trans hq) (Nat.le_trans hs0 g1.size) g2 g3 g4 (hQ.trans g1)
    · rename_i hno
      obtain ⟨a1, b1, c1⟩ := hrec _ _ _ _ h
      have hne : e ≠ .normal := fun e' => by subst e'; exact hno _ h
      refine ⟨a1, b1, fun C a w s0 ro n Q hq hs0 hsr hm hd hQ => ?_⟩
      rw [roundsIn_succ]
      exact c1 C a w s0 ro n _ hq hs0 hsr hm hd fun C' a' w' g1 g2 g3 g4 => then_exit hne (hQ C' a' w' g1 g2 g3 g4)

/-! ### Scopes -/
def scopeQ (body : Code) (K : Code → Act → World → Prop) (Q : Exit → Act → World → Prop) : Exit → Act → World → Prop
  | .goto l, a, w => match findLabel body l with | some rest => K rest a w | none => Q (.goto l) a w
  | e, a, w => Q e a w
def scopeIn (F : Fence) (n : Nat) (P : Program) (body : Code) (Q : Exit → Act → World → Prop) : Nat → Code → Act → World → Prop
  | 0, _, _, _ => False
  | m + 1, c, a, w => c.wpIn F n P (scopeQ body (scopeIn F n P body Q m) Q) a w
section
variable {b : Frame} {a : Act} {k : List Item} {cs : List Frame} {w : World}
theorem stepR_scope {c : Code} : step P (lone (b.atR a (.code (.scope c) :: k)) cs w) = .next (lone (b.atR a (.code c :: .inScope c :: k)) cs w) :=
  step_lone_go (by simp [stepG, stepG.exec, Frame.atR])
theorem stepR_inScope {c : Code} : step P (lone (b.atR a (.inScope c :: k)) cs w) = .next (lone (b.atR a k) cs w) :=
  step_lone_go (by simp [stepG, stepG.exec, Frame.atR])
end
theorem wpIn_scope {F : Fence} {n : Nat} {Q : Exit → Act → World → Prop} {a : Act} {w : World} {body : Code} (m : Nat) (h : scopeIn F n P body Q m body a w) : (Code.scope body).wpIn F n P Q a w := by
  intro b k cs hro hb hr
  have key : ∀ m c a w, scopeIn F n P body Q m c a w → ∃ e a' w', Q e a' w' ∧ ArrivesIn (Machine.fenced P F) P (lone (b.atR a (.code c :: .inScope body :: k)) cs w) b k cs e a' w' := by
    intro m
    induction m with
    | zero => intro c a w h; exact h.elim
    | succ m ih =>
      intro c a w h
      obtain ⟨e, a₁, w₁, hq, harr⟩ := h b (.inScope body :: k) cs hro hb hr
      cases e with
      | normal => exact ⟨.normal, a₁, w₁, hq, StepsIn.trans harr (.one (fenced_calm hb hr rfl) stepR_inScope)⟩
      | exit id =>
        have hx : exitTo id (.inScope body :: k) = exitTo id k := by simp [exitTo]
        exact ⟨.exit id, a₁, w₁, hq, fun k' hk => harr.1 k' (by rw [hx]; exact hk), fun hr' hk => harr.2 hr' (by rw [hx]; exact hk)⟩
      | goto l =>
        simp only [scopeQ] at hq
        split at hq
        · rename_i rest hf
          obtain ⟨e₂, a₂, w₂, hq₂, harr₂⟩ := ih rest a₁ w₁ hq
          exact ⟨e₂, a₂, w₂, hq₂, .of_steps (harr.1 _ (by simp [gotoIn, hf])) harr₂⟩
        · rename_i hf
          have hx : gotoIn l (.inScope body :: k) = gotoIn l k := by simp [gotoIn, hf]
          exact ⟨.goto l, a₁, w₁, hq, fun k' hk => harr.1 k' (by rw [hx]; exact hk), fun hr' hk => harr.2 hr' (by rw [hx]; exact hk)⟩
      | ret => exact ⟨_, a₁, w₁, hq, harr⟩
      | panic ch => exact ⟨_, a₁, w₁, hq, harr⟩
      | outgrown => exact ⟨_, a₁, w₁, hq, harr⟩
  obtain ⟨e, a', w', hq, harr⟩ := key m body a w h
  exact ⟨e, a', w', hq, .of_steps (.one (fenced_calm hb hr rfl) stepR_scope) harr⟩

theorem scopeA_rel {rec : Rec} (hrec : Sound P rec) {body : Code} : ∀ {k : Nat} {c : Code} {st st' : St} {e : AX}, scopeA rec body k c st = some (e, st') →
    st'.q = st.q ∧ st.H.nx ≤ st'.H.nx ∧ ∀ (C : Ctx) (a : Act) (w : World) (s0 : Nat) (ro : Option Nat) (n : Nat) (Q : Exit → Act → World → Prop), st.q = ro.isSome → s0 ≤ w.heap.size → SRel C st a w → MarksOk C w s0 a.defers → (ro.isSome = true → a.defers = []) →
      After C w st' s0 ro (Q (toExit e)) → scopeIn (fen ro) n P body Q k c a w
  | 0, c, st, st', e, h => by cases h
  | k + 1, c, st, st', e, h => by
    simp only [scopeA] at h
    split at h
    · rename_i l st1 h1
      obtain ⟨a1, b1, c1⟩ := hrec _ _ _ _ h1
      split at h
      · rename_i rest hf
        obtain ⟨a2, b2, c2⟩ := scopeA_rel hrec h
        refine ⟨a2.trans a1, Nat.le_trans b1 b2, fun C a w s0 ro n Q hq hs0 hsr hm hd hQ => ?_⟩
        refine c1 C a w s0 ro n _ hq hs0 hsr hm hd fun C' a' w' g1 g2 g3 g4 => ?_
        simp only [toExit, scopeQ, hf]
        exact c2 C' a' w' s0 ro n Q (a1.trans hq) (Nat.le_trans hs0 g1.size) g2 g3 g4 (hQ.trans g1)
      · rename_i hf
        simp only [Option.some.injEq, Prod.mk.injEq] at h; obtain ⟨rfl, rfl⟩ := h
        refine ⟨a1, b1, fun C a w s0 ro n Q hq hs0 hsr hm hd hQ => ?_⟩
        refine c1 C a w s0 ro n _ hq hs0 hsr hm hd fun C' a' w' g1 g2 g3 g4 => ?_
        simp only [toExit, scopeQ, hf]
        exact hQ C' a' w' g1 g2 g3 g4
    · rename_i hno
      obtain ⟨a1, b1, c1⟩ := hrec _ _ _ _ h
      refine ⟨a1, b1, fun C a w s0 ro n Q hq hs0 hsr hm hd hQ => ?_⟩
      refine c1 C a w s0 ro n _ hq hs0 hsr hm hd fun C' a' w' g1 g2 g3 g4 => ?_
      have := hQ C' a' w' g1 g2 g3 g4
      cases e with
      | goto l => exact (hno _ _ h).elim
      | _ => exact this

/-! ### A range over a function -/
def jumpA (rec : Rec) (st : St) : Option Code → Option (AX × St)
  | none => some (.normal, st)
  | some c => rec c st
def jumpWp (P : Program) (n : Nat) (Q : Exit → Act → World → Prop) (a : Act) (w : World) : Option Code → Prop
  | none => Q .normal a w
  | some c => c.wpIn (fen none) n P Q a w
theorem rangeA_rel {cf : Cfg} {rec : Rec} (hrec : Sound P rec) {g : Operand} {ps : Array Tmp} {asg body : Code} {st st' : St} {e : AX} (h : rangeA P cf rec g ps asg body st = some (e, st')) : SoundAt P (.rangeFunc g ps asg body) st e st' := by
  unfold rangeA at h
  split at h
  · cases h
  · rename_i hq0
    simp only at h
    split at h
    · rename_i f cap hg
      split at h
      · rename_i v2 h2 he
        split at h
        · rename_i s p T n qs a2 b2 hlo
          split at h
          · cases h
          · rename_i hbusy
            obtain ⟨hnx, hfn, hE⟩ := enterA_rel hrec he
            -- behind the statement
            have key : ∃ stE : St, stE = { st with H := h2.put st.H.nx (.loop .exhausted p T n qs a2 b2) } ∧ jumpA rec stE p = some (e, st') := ⟨_, rfl, by cases p <;> exact h⟩
            obtain ⟨stE, hE1, hE2⟩ := key
            have hjump : st'.q = st.q ∧ st.H.nx ≤ st'.H.nx ∧ ∀ (C : Ctx) (a : Act) (w : World) (s0 : Nat) (n : Nat) (Q : Exit → Act → World → Prop), s0 ≤ w.heap.size → SRel C stE a w → MarksOk C w s0 a.defers → After C w st' s0 none (Q (toExit e)) →
                jumpWp P n Q a w p := by
              have hq1 : stE.q = st.q := by rw [hE1]
              have hn1 : st.H.nx ≤ stE.H.nx := by
                rw [hE1]; simp at hnx ⊢; omega
              cases p with
              | none =>
                simp only [jumpA, Option.some.injEq, Prod.mk.injEq] at hE2; obtain ⟨rfl, rfl⟩ := hE2
                exact ⟨hq1, hn1, fun C a w s0 n Q hs0 hsr hm hQ => hQ C a w (Step.refl C w) hsr hm (fun h => by cases h)⟩
              | some c =>
                obtain ⟨a3, b3, c3⟩ := hrec _ _ _ _ hE2
                refine ⟨a3.trans hq1, Nat.le_trans hn1 b3, fun C a w s0 n Q hs0 hsr hm hQ => ?_⟩
                exact c3 C a w s0 none n Q (by rw [hq1]; simpa using hq0) hs0 hsr hm (fun h => by cases h) hQ
            obtain ⟨j1, j2, j3⟩ := hjump
            refine ⟨j1, j2, fun C a w s0 ro n' Q hq hs0 hsr hm hd hQ => ?_⟩
            have hro : ro = none := by
              cases ro with
              | none => rfl
              | some l => rw [hq] at hq0; simp at hq0
            subst hro
            refine wpIn_rangeFunc fun fn _ => ?_
            have hvg : VRel C w (ev st.T g) (a.eval g) := ev_rel fun t _ => hsr.tm t
            rw [hg] at hvg
            simp only [VRel] at hvg
            obtain ⟨caps, hvg, hcaps⟩ := hvg
            -- the two blocks
            have hrun := run_enterLoop_outer (P := P) (w := w) fn a.tmps ps asg body
            have hS0 := sim_waste hsr.sim (.deferred (some []))
            have st0 := step_waste hsr.sim (.deferred (some []))
            have hnone : C.φ st.H.nx = none := hsr.new _ (Nat.le_refl _)
            have hob : ∀ C' w', TmRel C' w' st.T a.tmps → w'.heap[w.heap.size + 1]? = some (Obj.loop { state := .ready, pending := none, fn, tmps := a.tmps, params := ps, assign := asg, body, defers := w.heap.size }) →
                ORel C' w' (w.heap.size + 1) (.loop .ready none st.T st.n ps.toList asg body) := fun C' w' hT hw' => ⟨_, hw', rfl, rfl, rfl, rfl, rfl, hsr.n, hT⟩
            have hsz : (wnew w (.deferred (some []))).heap.size = w.heap.size + 1 := wnew_size _ _
            have st1 := step_new hS0 hnone (Obj.loop { state := .ready, pending := none, fn, tmps := a.tmps, params := ps, assign := asg, body, defers := w.heap.size })
            have hS1 := sim_new hS0 hnone (ob := Obj.loop { state := .ready, pending := none, fn, tmps := a.tmps, params := ps, assign := asg, body, defers := w.heap.size }) (o := .loop .ready none st.T st.n ps.toList asg body) rfl (by
              rw [hsz]
              exact hob _ _ ((hsr.tm.step st0).step (by rw [hsz] at st1; exact st1)) (by have := wnew_at (wnew w (.deferred (some []))) (Obj.loop { state := .ready, pending := none, fn, tmps := a.tmps, params := ps, assign := asg, body, defers := w.heap.size }); rw [hsz] at this; exact this))
            rw [hsz] at st1 hS1
            generalize hw1 : wnew (wnew w (.deferred (some []))) (Obj.loop { state := .ready, pending := none, fn, tmps := a.tmps, params := ps, assign := asg, body, defers := w.heap.size }) = w1 at st1 hS1
            have hst01 : Step C w (C.with st.H.nx (w.heap.size + 1)) w1 := st0.trans st1
            have hm1 : MarksOk (C.with st.H.nx (w.heap.size + 1)) w1 s0 ([({ target := .collected w.heap.size, args := #[] } : Deferred)] ++ a.defers) := by
              obtain ⟨rs, e1, e2, e3⟩ := hm.step hst01
              have hold := hm
              obtain ⟨rs', e1', e2', e3'⟩ := hold
              refine ⟨w.heap.size :: rs', by rw [e1']; rfl, List.nodup_cons.2 ⟨fun hr => ?_, e2'⟩, fun r hr => ?_⟩
              · have := lt_of_some w (e3' _ hr).2.1; omega
              · rcases List.mem_cons.1 hr with rfl | hr
                · refine ⟨hs0, ?_, fun i e => ?_, fun e => ?_⟩
                  · rw [← hw1, wnew_old _ _ _ (by rw [hsz]; omega)]; exact wnew_at _ _
                  · simp only [Ctx.with] at e
                    split at e
                    · injection e with e; omega
                    · have := hsr.sim.φlt i _ e; omega
                  · have := hsr.sim.immlt _ e; omega
                · have hr' : r ∈ rs := by
                    have : rs.map (fun r => ({ target := .collected r, args := #[] } : Deferred)) = rs'.map (fun r => ({ target := .collected r, args := #[] } : Deferred)) := by rw [← e1, ← e1']
                    have hinj : ∀ (l l' : List Nat), l.map (fun r => ({ target := .collected r, args := #[] } : Deferred)) = l'.map (fun r => ({ target := .collected r, args := #[] } : Deferred)) → l = l' := by
                      intro l
                      induction l with
                      | nil => intro l' h; cases l' with | nil => rfl | cons _ _ => cases h
                      | cons x l ih =>
                        intro l' h
                        cases l' with
                        | nil => cases h
                        | cons y l' =>
                          simp only [List.map_cons, List.cons.injEq] at h
                          obtain ⟨h1, h2⟩ := h
                          injection h1 with h1 _
                          injection h1 with h1
                          rw [h1, ih l' h2]
                    rw [hinj _ _ this]; exact hr
                  exact e3 r hr'
            refine ⟨w.heap.size + 1, [{ target := .collected w.heap.size, args := #[] }], w1, { target := .fn (.func f) caps.toArray, args := #[] ++ #[.func (.yield (w.heap.size + 1)) #[] #[]] }, w1, f, (#[] ++ #[.func (.yield (w.heap.size + 1)) #[] #[]]) ++ caps.toArray, w1, ?_, ?_, fun _ _ => trivial, ?_, fen_depth none n', callsIn_fen ?_⟩
            · rw [← hw1]; exact hrun
            · simp only [resolve, hvg, Deferred.ofValue]
              simp [Act.eval]
            · simp only [invoke]
              exact run_callFunc hfn
            · have hl1 : LRel (C.with st.H.nx (w.heap.size + 1)) w1 false (.yl st.H.nx :: cap) (.func (.yield (w.heap.size + 1)) #[] #[] :: caps) := LRel.cons' (by simp only [VRel]; exact ⟨_, Ctx.with_at C _ _, rfl⟩) (hcaps.step hst01)
              have hcall := hE (C.with st.H.nx (w.heap.size + 1)) w1 _ (n' - 1) (rangePost (fen none) n' P (w.heap.size + 1) Q { a with defers := [({ target := .collected w.heap.size, args := #[] } : Deferred)] ++ a.defers })
                (hS1.congr fun b => by rw [AH.get_new]; unfold updK; by_cases e : b = st.H.nx; { subst e; simp [live] }; { rw [if_neg e, if_neg (Ne.symm e)] }) (fun b hb => by
                  simp only [AH.nx_new] at hb
                  simp only [Ctx.with]; rw [if_neg (by omega)]; exact hsr.new b (by omega)) hl1 ?_
              · rwa [show ((Value.func (.yield (w.heap.size + 1)) #[] #[]) :: caps).toArray = (#[] ++ #[.func (.yield (w.heap.size + 1)) #[] #[]]) ++ caps.toArray from by apply Array.ext'; simp] at hcall
              · intro C2 w2 x hst2 hS2 hnew2 hv2
                have hφ2 := hst2.φ _ _ (Ctx.with_at C st.H.nx (w.heap.size + 1))
                obtain ⟨r2, i1, i2, i3, i4, i5, i6, i7, i8⟩ := loop_at hS2 hlo hφ2
                obtain ⟨u1, u2⟩ := loop_put hS2 hlo hφ2 i1 .exhausted p i4 i5 i6 i7 i8
                have hend := run_endLoop (P := P) i1 (by rw [i2]; exact hbusy)
                have hpend : ({ r2 with state := .exhausted } : Loop) = { r2 with state := .exhausted, pending := p } := by rw [← i3]
                rw [hpend, i3] at hend
                refine ⟨p, _, hend, ?_⟩
                have hall := (hst01.trans hst2).trans u1
                have := j3 C2 { a with defers := [({ target := .collected w.heap.size, args := #[] } : Deferred)] ++ a.defers } _ s0 n' Q (Nat.le_trans hs0 hall.size) (by
                  rw [hE1]
                  exact ⟨hsr.tm.step hall, hsr.n, u2, fun b hb => hnew2 b (by simpa using hb)⟩) (hm1.step (hst2.trans u1)) (hQ.trans hall)
                cases p with
                | none => exact this
                | some c => exact this
        · cases h
      · cases h
    · cases h

/-! ### All code -/
theorem aCode_sound (hm : P.follows .mixedOrders = true) {cf : Cfg} (hcl : CloneOk P cf.clone) : ∀ k, Sound P (aCode P cf k)
  | 0 => fun c st e st' h => by cases h
  | k + 1 => by
    have ih := aCode_sound hm hcl k
    intro c st e st' h
    cases c with
    | skip => simp only [aCode, Option.some.injEq, Prod.mk.injEq] at h; obtain ⟨rfl, rfl⟩ := h; exact sound_here fun F n Q a w hF hQ => wpIn_skip hQ
    | label l => simp only [aCode, Option.some.injEq, Prod.mk.injEq] at h; obtain ⟨rfl, rfl⟩ := h; exact sound_here fun F n Q a w hF hQ => wpIn_label hQ
    | ret => simp only [aCode, Option.some.injEq, Prod.mk.injEq] at h; obtain ⟨rfl, rfl⟩ := h; exact sound_here fun F n Q a w hF hQ => wpIn_ret hQ
    | exit id => simp only [aCode, Option.some.injEq, Prod.mk.injEq] at h; obtain ⟨rfl, rfl⟩ := h; exact sound_here fun F n Q a w hF hQ => wpIn_exit hQ
    | goto l => simp only [aCode, Option.some.injEq, Prod.mk.injEq] at h; obtain ⟨rfl, rfl⟩ := h; exact sound_here fun F n Q a w hF hQ => wpIn_goto hQ
    | seq x y =>
      simp only [aCode] at h
      split at h
      · rename_i st1 h1; exact sound_seq (ih _ _ _ _ h1) (ih _ _ _ _ h)
      · rename_i hno; exact sound_seq' (fun e' => by subst e'; exact hno _ h) (ih _ _ _ _ h)
    | cond c x y =>
      simp only [aCode] at h
      split at h
      · rename_i t ht; exact sound_cond ht (ih _ _ _ _ h)
      · cases h
    | block id c =>
      simp only [aCode] at h
      cases hq : aCode P cf k c st with
      | none => rw [hq] at h; cases h
      | some q =>
        obtain ⟨e1, st1⟩ := q
        rw [hq] at h
        simp only [Option.map_some, Option.some.injEq, Prod.mk.injEq] at h; obtain ⟨rfl, rfl⟩ := h
        exact sound_block (ih _ _ _ _ hq)
    | loop c =>
      simp only [aCode] at h
      obtain ⟨a1, b1, c1⟩ := loopA_rel ih h
      exact ⟨a1, b1, fun C a w s0 ro n Q hq hs0 hsr hm' hd hQ => wpIn_loop_rounds k (c1 C a w s0 ro n Q hq hs0 hsr hm' hd hQ)⟩
    | scope c =>
      simp only [aCode] at h
      obtain ⟨a1, b1, c1⟩ := scopeA_rel ih h
      exact ⟨a1, b1, fun C a w s0 ro n Q hq hs0 hsr hm' hd hQ => wpIn_scope k (c1 C a w s0 ro n Q hq hs0 hsr hm' hd hQ)⟩
    | region id ops draw => simp only [aCode] at h; exact regA_rel hm ih hcl h
    | rangeFunc g ps asg body => simp only [aCode] at h; exact rangeA_rel ih h
    | refuse x => simp only [aCode] at h; cases h

/-- A whole call. -/
theorem aCall_calls (hm : P.follows .mixedOrders = true) {cf : Cfg} (hcl : CloneOk P cf.clone) {k : Nat} {f : FuncId} {args : List AV} {r : AV} (h : aCall P cf k f args = some r) {C : Ctx} {w : World} {vs : List Value} {R : Ending → World → Prop}
    (hS : Sim C AH.empty.get w) (hφ : ∀ b, C.φ b = none) (hl : LRel C w false args vs) (hR : ∀ C' w' x, Step C w C' w' → (∀ b, C'.φ b = none) → VRel C' w' r x → R (.returned x) w') : Calls P f vs.toArray w R := by
  unfold aCall at h
  split at h
  · rename_i v h1 he
    cases hp : purV h1 false depthA v with
    | none => rw [hp] at h; cases h
    | some q =>
      obtain ⟨r', bs⟩ := q
      rw [hp] at h
      simp only [Option.map_some, Option.some.injEq] at h
      subst h
      obtain ⟨_, hfn, hE⟩ := enterA_rel (aCode_sound hm hcl k) he
      refine callsIn_wide.1 (hE C w vs 0 R hS (fun b _ => hφ b) hl fun C' w' x g1 g2 g3 g4 => ?_)
      have hv := purV_rel g2 false depthA v r' bs x hp (fun _ _ => rfl) g4
      refine hR (PC C' false bs) w' x ⟨fun b rb e => ?_, fun b rb e => (by cases e), fun b e => .inl ⟨rfl, g1.imm b e⟩, fun b e => ?_, g1.size, g1.keep, g1.immkeep, g1.sizes, g1.env⟩ (fun _ => rfl) hv
      · rw [hφ] at e; cases e
      · rcases e with ⟨_, e⟩ | ⟨i, _, e⟩
        · rcases g1.immnew b e with g | g | ⟨i, g⟩
          · exact .inl g
          · exact .inr (.inl g)
          · exact .inr (.inr ⟨i, g⟩)
        · rcases g1.φnew i b e with g | g | ⟨j, g⟩
          · exact .inr (.inr ⟨i, g⟩)
          · exact .inr (.inl g)
          · exact .inr (.inr ⟨j, g⟩)
  · cases h
end
end Go.Proofs.Ytadipihpgcelmaa.Ab
