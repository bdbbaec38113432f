/- Calls: of functions, of a range's yield. -/
import Derived.Test.YtadipihpgcelmaaAbsQ
namespace Go.Proofs.Ytadipihpgcelmaa.Ab
open Go
set_option linter.unusedVariables false
set_option linter.unusedSimpArgs false

def wrK (wr : Option (List Nat)) (h' : AH) (K : Nat → Option AObj) : Nat → Option AObj :=
  match wr with
  | none => h'.get
  | some l => fun b => if b ∈ l then h'.get b else K b
/-- An operation's outcome in the machine, for whoever goes on. -/
def OpSound (P : Program) (o : Oper) (st : St) (r : CR) : Prop :=
  Frm st.H r.h r.wr ∧
  ∀ (C : Ctx) (K : Nat → Option AObj) (a : Act) (w : World) (ro : Option Nat) (n : Nat) (Q : Exit → Act → World → Prop) (next : Act → World → Prop),
    Sim C K w → (∀ b, inF r.rd b → K b = st.H.get b) → (∀ b, inF r.wr b → st.H.nx ≤ b → C.φ b = none) → (∀ x ∈ o.op.operands, TRel1 C w st.T a x) →
    (∀ v C' w', VRel C' w' r.v v → Step C w C' w' → Sim C' (wrK r.wr r.h K) w' → (∀ b, C.φ b = none → (¬ inF r.wr b ∨ r.h.nx ≤ b) → C'.φ b = none) → next (a.put o.dst v) w') →
    o.uponIn (fen ro) n P a next Q ((o.semAt ro a.eval).run P w)

/-! ### Temporaries -/
theorem TmRel.set {C : Ctx} {w : World} {T : Tm} {tmps : Array Value} {i : Nat} {x : AV} {v : Value} (h : TmRel C w T tmps) (hi : i < tmps.size) (hv : VRel C w x v) : TmRel C w (T.set i x) (tmps.setIfInBounds i v) := by
  intro j
  rw [Tm.get_set]
  by_cases e : i = j
  · subst e
    rw [if_pos rfl]
    have : (tmps.setIfInBounds i v).getD i undef = v := by simp [Array.getD_eq_getD_getElem?, hi]
    rw [this]; exact hv
  · rw [if_neg e]
    have : (tmps.setIfInBounds i v).getD j undef = tmps.getD j undef := by
      rw [Array.getD_eq_getD_getElem?, Array.getD_eq_getD_getElem?, Array.getElem?_setIfInBounds_ne e]
    rw [this]; exact h j
theorem setAll_rel {C : Ctx} {w : World} : ∀ (ps : List Nat) (args : List AV) (vs : List Value) (T : Tm) (tmps : Array Value), (∀ p ∈ ps, p < tmps.size) → TmRel C w T tmps → LRel C w false args vs → args.length = ps.length →
    TmRel C w (setAll T ps args) ((ps.zip vs).foldl (fun t x => t.setIfInBounds x.1 x.2) tmps) ∧ ((ps.zip vs).foldl (fun t x => t.setIfInBounds x.1 x.2) tmps).size = tmps.size
  | [], args, vs, T, tmps, hp, hT, hl, hlen => by simpa [setAll] using hT
  | p :: ps, [], vs, T, tmps, hp, hT, hl, hlen => by simp at hlen
  | p :: ps, x :: args, vs, T, tmps, hp, hT, hl, hlen => by
    simp only [LRel] at hl
    obtain ⟨v, r, rfl, _, hv, hl⟩ := hl
    have := setAll_rel ps args r (T.set p x) (tmps.setIfInBounds p v) (fun q hq => by simpa using hp q (by simp [hq])) (hT.set (hp p (by simp)) hv) hl (by simpa using hlen)
    simpa [setAll] using this

/-! ### A round -/
theorem loopOf_spec {h : AH} {b : Nat} {s : LoopState} {p : Option Code} {T : Tm} {n : Nat} {ps : List Nat} {a c : Code} (e : loopOf h b = some (s, p, T, n, ps, a, c)) : h.get b = some (.loop s p T n ps a c) := by
  unfold loopOf at e
  split at e
  · rename_i g; simp only [Option.some.injEq, Prod.mk.injEq] at e; obtain ⟨rfl, rfl, rfl, rfl, rfl, rfl, rfl⟩ := e; exact g
  · cases e
theorem loop_at {C : Ctx} {h : AH} {w : World} {b rb : Nat} {s : LoopState} {p : Option Code} {T : Tm} {n : Nat} {ps : List Nat} {a c : Code} (hS : Sim C h.get w) (e : loopOf h b = some (s, p, T, n, ps, a, c)) (hφ : C.φ b = some rb) :
    ∃ l : Loop, w.heap[rb]? = some (Obj.loop l) ∧ l.state = s ∧ l.pending = p ∧ l.params.toList = ps ∧ l.assign = a ∧ l.body = c ∧ l.tmps.size = n ∧ TmRel C w T l.tmps := by
  rcases hS.at_ b _ (loopOf_spec e) with ⟨g, _⟩ | ⟨rb', g1, g2, _⟩
  · rw [g] at hφ; cases hφ
  · rw [g1] at hφ; injection hφ with hφ; subst hφ; exact g2
theorem putObj_eq (w : World) (r : Nat) (o : Obj) : w.putObj r o = setBlock w r o := rfl
/-- The record put anew. -/
theorem loop_put {C : Ctx} {h : AH} {w : World} {b rb : Nat} {s : LoopState} {p : Option Code} {T : Tm} {n : Nat} {ps : List Nat} {a c : Code} (hS : Sim C h.get w) (e : loopOf h b = some (s, p, T, n, ps, a, c)) (hφ : C.φ b = some rb) {l : Loop}
    (hl : w.heap[rb]? = some (Obj.loop l)) (s' : LoopState) (p' : Option Code) (h1 : l.params.toList = ps) (h2 : l.assign = a) (h3 : l.body = c) (h4 : l.tmps.size = n) (h5 : TmRel C w T l.tmps) :
    Step C w C (w.putObj rb (.loop { l with state := s', pending := p' })) ∧ Sim C (h.put b (.loop s' p' T n ps a c)).get (w.putObj rb (.loop { l with state := s', pending := p' })) := by
  have hnc : ∀ c T f, (Obj.loop l : Obj) ≠ Obj.cells c T f := fun _ _ _ e => by cases e
  rw [putObj_eq]
  have hst := step_setObj hS (loopOf_spec e) rfl hφ hl hnc (.loop { l with state := s', pending := p' })
  refine ⟨hst, (sim_setObj hS (loopOf_spec e) rfl hφ hl hnc (o' := .loop s' p' T n ps a c) rfl ?_).congr fun x => ?_⟩
  · exact ⟨{ l with state := s', pending := p' }, by rw [setBlock_get, if_pos ⟨rfl, lt_of_some w hl⟩], rfl, rfl, h1, h2, h3, h4, h5.step hst⟩
  · rw [AH.get_put]; unfold updK
    by_cases e : x = b
    · subst e; simp [live]
    · rw [if_neg e, if_neg (Ne.symm e)]

theorem roundPost_of {P : Program} {l : Nat} {R : Ending → World → Prop} {e : AX} {a : Act} {w w' : World} {v : Value} (h : (Instr.endRound l (jumpOf e)).run P w = .ok v w') (hR : R (.returned v) w') : roundPost P l R (toExit e) a w := by
  cases e <;> exact ⟨v, w', h, hR⟩
theorem roundA_rel {P : Program} {rec : Rec} (hrec : Sound P rec) {b : Nat} {args : List AV} {h h' : AH} {v : AV} (hr : roundA rec b args h = some (v, h')) :
    h.nx ≤ h'.nx ∧ ∀ (C : Ctx) (w : World) (vs : List Value) (rb n : Nat) (ro : Option Nat) (R : Ending → World → Prop), Sim C h.get w → (∀ x, h.nx ≤ x → C.φ x = none) → LRel C w false args vs → C.φ b = some rb →
      Back C w v h' (fun x w' => R (.returned x) w') → ∃ r : Loop, w.heap[rb]? = some (.loop r) ∧ vs.length = r.params.size ∧
        RoundIn (fen ro) n P rb r.fn ((r.params.zip vs.toArray).foldl (fun tmps (t, a) => tmps.setIfInBounds t a) r.tmps) r.assign r.body w R := by
  unfold roundA at hr
  split at hr
  · rename_i s0 p0 T n ps asg body hlo
    split at hr
    · rename_i hargs
      obtain ⟨hlen, hps⟩ := hargs
      split at hr
      · rename_i st hasg
        split at hr
        · rename_i p2 T2 n2 ps2 a2 c2 hl2
          split at hr
          · rename_i e st' hbody
            split at hr
            · rename_i s3 p3 T3 n3 ps3 a3 c3 hl3
              simp only [Option.some.injEq, Prod.mk.injEq] at hr
              obtain ⟨rfl, rfl⟩ := hr
              obtain ⟨hq1, hn1, hs1⟩ := hrec _ _ _ _ hasg
              obtain ⟨hq2, hn2, hs2⟩ := hrec _ _ _ _ hbody
              refine ⟨Nat.le_trans hn1 hn2, fun C w vs rb n' ro R hS hnew hl hφ hback => ?_⟩
              obtain ⟨r, k1, k2, k3, k4, k5, k6, k7, k8⟩ := loop_at hS hlo hφ
              have hpl : ps.length = r.params.size := by rw [← k4]; simp
              have hvl : vs.length = r.params.size := by rw [← hl.length, hlen, hpl]
              refine ⟨r, k1, hvl, roundIn_of_wpIn trivial ?_⟩
              have hfold : (r.params.zip vs.toArray).foldl (fun tmps (t, a) => tmps.setIfInBounds t a) r.tmps = (ps.zip vs).foldl (fun t x => t.setIfInBounds x.1 x.2) r.tmps := by
                rw [← Array.foldl_toList, Array.toList_zip, k4]
              rw [hfold]
              obtain ⟨t1, t2⟩ := setAll_rel ps args vs T r.tmps (fun p hp => by rw [k7]; simpa using List.all_eq_true.1 hps p hp) k8 hl hlen
              rw [k5, k6]
              refine hs1 C _ w 0 (some rb) n' _ rfl (Nat.zero_le _) ⟨t1, by rw [t2, k7], hS, hnew⟩ MarksOk.nil (fun _ => rfl) ?_
              intro C1 a1 w1 hst1 hsr1 hm1 hd1
              have hφ1 := hst1.φ b rb hφ
              obtain ⟨l1, j1, j2, j3, j4, j5, j6, j7, j8⟩ := loop_at hsr1.sim hl2 hφ1
              obtain ⟨u1, u2⟩ := loop_put hsr1.sim hl2 hφ1 j1 .busy p2 j4 j5 j6 j7 j8
              have hrun := run_beginRound (P := P) j1 j2
              have hpend : ({ l1 with state := .busy } : Loop) = { l1 with state := .busy, pending := p2 } := by rw [← j3]
              rw [hpend] at hrun
              refine ⟨_, hrun, ?_⟩
              refine hs2 C1 a1 _ 0 (some rb) n' _ hq1 (Nat.zero_le _) ⟨hsr1.tm.step u1, hsr1.n, u2, fun x hx => hsr1.new x (by simpa using hx)⟩ (by rw [hd1 rfl]; exact MarksOk.nil) hd1 ?_
              intro C3 a3' w3 hst3 hsr3 hm3 hd3
              have hφ3 := hst3.φ b rb hφ1
              obtain ⟨l3, i1, i2, i3, i4, i5, i6, i7, i8⟩ := loop_at hsr3.sim hl3 hφ3
              obtain ⟨v1, v2⟩ := loop_put hsr3.sim hl3 hφ3 i1 (if (jumpOf e).isNone then .ready else .done) (jumpOf e) i4 i5 i6 i7 i8
              refine roundPost_of (run_endRound (jumpOf e) i1) (hback C3 _ _ ((hst1.trans u1).trans (hst3.trans v1)) v2 (fun x hx => hsr3.new x (by simpa using hx)) ?_)
              simp only [VRel]
            · cases hr
          · cases hr
        · cases hr
      · cases hr
    · cases hr
  · cases hr

/-! ### Functions whose contract is given -/
def CloneOk (P : Program) (cl : List (FuncId × Nat × Nat)) : Prop :=
  ∀ f z wd, cloneOf cl f = some (z, wd) → (∃ fn, P.funcs[f]? = some fn ∧ (fn.name == "runtime.NumGoroutine") = false ∧ fn.body.isNone = false) ∧
    ∀ (C : Ctx) (K : Nat → Option AObj) (h : AH) (w : World) (x : AV) (n : Nat) (cs : List AV) (rd : List Nat) (v : Value) (m : Nat) (R : Ending → World → Prop), Sim C K w → (∀ b ∈ rd, K b = h.get b) → slCells h z x = some (n, cs, rd) →
      n ≤ 4294967296 → wd ≤ 4096 → 0 < z → C.φ h.nx = none → VRel C w x v →
      (∀ C' w' y, VRel C' w' (.rf h.nx z 0 n) y → Step C w C' w' → Sim C' (updK K h.nx (some (.cells cs))) w' → (∀ b, C.φ b = none → b ≠ h.nx → C'.φ b = none) → R (.returned y) w') → CallsIn Fence.wide m P f #[v] w R

/-! ### Calls -/
theorem callsIn_fen {ro : Option Nat} {n : Nat} {P : Program} {f : FuncId} {args : Array Value} {w : World} {R : Ending → World → Prop} (h : CallsIn Fence.wide n P f args w R) : CallsIn (fen ro) n P f args w R := h
theorem run_callFunc {P : Program} {f : FuncId} {args : Array Value} {w : World} (h : ∃ fn, P.funcs[f]? = some fn ∧ (fn.name == "runtime.NumGoroutine") = false ∧ fn.body.isNone = false) : (callFunc f args).run P w = .ok (.enter f args) w := by
  obtain ⟨fn, h1, h2, h3⟩ := h
  have h2' : ¬ fn.name = "runtime.NumGoroutine" := by simpa using h2
  have h3' : ¬ fn.body = none := fun e => by rw [e] at h3; cases h3
  simp [callFunc, h1, h2', h3']
theorem run_call_fn {P : Program} {o : Oper} {c : Call} {x : Operand} {f : FuncId} {caps : Array Value} {a : Act} {w : World} (ho : o.op = .call c) (hc : c.callee = .value x) (hx : a.eval x = .func (.func f) #[] caps)
    (h : ∃ fn, P.funcs[f]? = some fn ∧ (fn.name == "runtime.NumGoroutine") = false ∧ fn.body.isNone = false) : (execOp a.eval o).run P w = .ok (.enter f (c.args.map a.eval ++ caps)) w := by
  simp only [execOp, ho, resolve, hc, hx, Deferred.ofValue, Sem.run_bind, Sem.run_pure, Result.andThen_ok, invoke]
  rw [run_callFunc h]
  simp
theorem run_call_yield {P : Program} {o : Oper} {c : Call} {x : Operand} {l : Nat} {a : Act} {w : World} {r : Loop} (ho : o.op = .call c) (hc : c.callee = .value x) (hx : a.eval x = .func (.yield l) #[] #[]) (hr : w.heap[l]? = some (.loop r)) (hs : c.args.size = r.params.size) :
    (execOp a.eval o).run P w = .ok (.round l r.fn ((r.params.zip (c.args.map a.eval)).foldl (fun tmps (t, a) => tmps.setIfInBounds t a) r.tmps) r.assign r.body) w := by
  simp only [execOp, ho, resolve, hc, hx, Deferred.ofValue, Sem.run_bind, Sem.run_pure, Result.andThen_ok, invoke]
  have := run_yield (P := P) (args := #[] ++ c.args.map a.eval) hr (by simpa using hs)
  simpa using this
theorem LRel.map_args {C : Ctx} {w : World} {T : Tm} {a : Act} {c : Call} (hT : ∀ x ∈ c.args.toList, TRel1 C w T a x) : LRel C w false (c.args.toList.map (ev T)) (c.args.map a.eval).toList := by
  have := evs_rel (C := C) (w := w) hT
  simpa using this

theorem backA_rd {fr : Bool} {th : Option (List (List Nat))} {h h1 : AH} {rd : List Nat} {v : AV} {r : CR} (hr : backA fr th h rd v h1 = some r) : r.rd = some rd := by
  unfold backA at hr
  simp only at hr
  split at hr
  · split at hr
    · split at hr
      · injection hr with hr; subst hr; rfl
      · cases hr
    · cases hr
  · split at hr
    · injection hr with hr; subst hr; rfl
    · cases hr
theorem fixAll_get (h : AH) (rd : List Nat) (b : Nat) (hb : b ∉ rd) : (fixAll h rd).get b = h.get b := by
  rw [get_fixAll]; unfold fixK; rw [if_neg hb]
theorem backA_frm {fr : Bool} {th : Option (List (List Nat))} {h h1 : AH} {rd : List Nat} {v : AV} {r : CR} (hr : backA fr th h rd v h1 = some r) : Frm h r.h r.wr := by
  have hnx : (if (fr || rd.isEmpty) = true then h else fixAll h rd).nx = h.nx := by split <;> first | rfl | exact nx_fixAll _ _
  have hget : ∀ b, b ∉ (if fr = true then [] else rd) → (if (fr || rd.isEmpty) = true then h else fixAll h rd).get b = h.get b := by
    intro b hb
    split
    · rfl
    · rename_i hc
      cases fr with
      | true => simp at hc
      | false => exact fixAll_get h rd b (by simpa using hb)
  unfold backA at hr
  simp only at hr
  generalize (if (fr || rd.isEmpty) = true then h else fixAll h rd) = H at *
  split at hr
  · split at hr
    · split at hr
      · rename_i h'' ht
        injection hr with hr; subst hr
        have hg := thaw_frm ht
        refine ⟨by rw [← hnx]; exact hg.1, fun b h1 h2 => ?_, fun b hb => ?_⟩
        · simp only [inF, List.mem_append, List.mem_map, List.mem_range]
          exact .inr ⟨b - H.nx, by simp at h2; omega, by omega⟩
        · simp only [inF, List.mem_append, List.mem_map, List.mem_range, not_or] at hb
          rw [hg.2 b ?_, hget b hb.1]
          rcases Nat.lt_or_ge b H.nx with g | g
          · exact .inl g
          · rcases Nat.lt_or_ge b h''.nx with g' | g'
            · exact absurd ⟨b - H.nx, by omega, by omega⟩ hb.2
            · exact .inr g'
      · cases hr
    · cases hr
  · split at hr
    · injection hr with hr; subst hr
      exact ⟨by rw [← hnx]; exact Nat.le_refl _, fun b h1 h2 => by simp only at h2; omega, fun b hb => hget b hb⟩
    · cases hr

theorem call_rel {P : Program} {cf : Cfg} {rec : Rec} (hrec : Sound P rec) (hcl : CloneOk P cf.clone) {o : Oper} {c : Call} {x : Operand} {st : St} {r : CR} (ho : o.op = .call c) (hc : c.callee = .value x)
    (hr : callA P cf rec (ev st.T x) (c.args.toList.map (ev st.T)) st.H = some r) : OpSound P o st r := by
  have hsem : ∀ (ro : Option Nat) (a : Act), o.semAt ro a.eval = execOp a.eval o := fun ro a => Oper.semAt_eq ro a.eval o (by rw [ho]; intro c' h; cases h)
  have hop : ∀ (C : Ctx) (w : World) (a : Act), (∀ y ∈ o.op.operands, TRel1 C w st.T a y) → TRel1 C w st.T a x ∧ ∀ y ∈ c.args.toList, TRel1 C w st.T a y := by
    intro C w a h
    rw [ho] at h
    exact ⟨h x (by simp [Op.operands, Call.operands, hc]), fun y hy => h y (by simp [Op.operands, Call.operands, hc]; exact .inr (by simpa using hy))⟩
  generalize hfx : ev st.T x = fx at hr
  unfold callA at hr
  split at hr
  · rename_i f cap
    split at hr
    · -- a clone
      rename_i z wd hclone
      split at hr
      · rename_i y hargs
        split at hr
        · rename_i n cs rd hsl
          split at hr
          · rename_i hb
            injection hr with hr; subst hr
            obtain ⟨hfn, hC⟩ := hcl f z wd hclone
            refine ⟨Frm.new _ _, fun C K a w ro m Q next hS hK hnew hT hnext => ?_⟩
            obtain ⟨hTx, hTa⟩ := hop C w a hT
            have hvx := ev_rel hTx
            rw [hfx] at hvx
            simp only [VRel] at hvx
            obtain ⟨caps, hvx, hcaps⟩ := hvx
            rw [hsem, run_call_fn ho hc hvx hfn, Oper.uponIn_enter]
            refine ⟨fen_depth ro m, callsIn_fen ?_⟩
            have hl := LRel.map_args hTa
            rw [hargs] at hl
            obtain ⟨u, hu, hvu, _⟩ := hl.one1
            have hcap0 : cap = [] := by simpa using hb.2.2.2
            subst hcap0
            simp only [LRel] at hcaps; subst hcaps
            rw [show c.args.map a.eval ++ ([] : List Value).toArray = #[u] from by apply Array.ext'; simpa using hu]
            refine hC C K st.H w y n cs rd u (m - 1) _ hS hK hsl hb.1 hb.2.1 hb.2.2.1 (hnew _ (by simp [inF]) (Nat.le_refl _)) hvu fun C' w' z' k1 k2 k3 k4 => hnext z' C' w' k1 k2 (k3.congr fun b => ?_) fun b e hb' => k4 b e ?_
            · simp only [wrK, List.mem_singleton, updK, AH.get_new]
              by_cases e : b = st.H.nx
              · subst e; simp [live]
              · simp [e]
            · simp only [inF, List.mem_singleton, AH.nx_new] at hb'
              omega
          · cases hr
        · cases hr
      · cases hr
    · split at hr
      · -- in the caller's heap
        split at hr
        · rename_i v h' he
          injection hr with hr; subst hr
          obtain ⟨hnx, hfn, hE⟩ := enterA_rel hrec he
          refine ⟨⟨hnx, fun _ _ _ => trivial, fun b hb => absurd trivial hb⟩, fun C K a w ro m Q next hS hK hnew hT hnext => ?_⟩
          obtain ⟨hTx, hTa⟩ := hop C w a hT
          have hvx := ev_rel hTx
          rw [hfx] at hvx
          simp only [VRel] at hvx
          obtain ⟨caps, hvx, hcaps⟩ := hvx
          rw [hsem, run_call_fn ho hc hvx hfn, Oper.uponIn_enter]
          refine ⟨fen_depth ro m, callsIn_fen ?_⟩
          have hKe : K = st.H.get := funext fun b => hK b trivial
          subst hKe
          have hl := (LRel.map_args hTa).append hcaps
          have := hE C w _ (m - 1) (fun | .returned v, w'' => next (a.put o.dst v) w'' | .panicked chain, w'' => Q (.panic chain) a w'' | .outgrown, _ => LetsOut Q) hS (fun b hb => hnew b trivial hb) hl ?_
          · rwa [show ((c.args.map a.eval).toList ++ caps).toArray = c.args.map a.eval ++ caps.toArray from by apply Array.ext'; simp] at this
          · intro C' w' y hs' hS' hn' hv'
            exact hnext y C' w' hv' hs' hS' fun b _ hb => hn' b (hb.resolve_left (fun h => h trivial))
        · cases hr
      · -- on values that nobody writes
        rename_i hcap
        split at hr
        · rename_i pargs rd hp
          split at hr
          · rename_i v h1 he
            obtain ⟨hnx, hfn, hE⟩ := enterA_rel hrec he
            have hfrm : Frm st.H r.h r.wr := backA_frm hr
            refine ⟨hfrm, fun C K a w ro m Q next hS hK hnew hT hnext => ?_⟩
            obtain ⟨hTx, hTa⟩ := hop C w a hT
            have hvx := ev_rel hTx
            rw [hfx] at hvx
            simp only [VRel] at hvx
            obtain ⟨caps, hvx, hcaps⟩ := hvx
            have hcap0 : cap = [] := by
              cases cap with
              | nil => rfl
              | cons _ _ => simp at hcap
            subst hcap0
            simp only [LRel] at hcaps; subst hcaps
            rw [hsem, run_call_fn ho hc hvx hfn, Oper.uponIn_enter]
            refine ⟨fen_depth ro m, callsIn_fen ?_⟩
            have hrd : r.rd = some rd := backA_rd hr
            have hl := LRel.map_args hTa
            have hK' : ∀ b ∈ rd, K b = st.H.get b := fun b hb => hK b (by rw [hrd]; exact hb)
            have hpl := mapP_rel (K := K) (h := st.H) (fr := false) (fun v v' bs x h hk hv => purV_rel hS false depthA v v' bs x h hk hv) hp hK' hl
            have := hE (PC C false rd) w _ (m - 1) (fun | .returned v, w'' => next (a.put o.dst v) w'' | .panicked chain, w'' => Q (.panic chain) a w'' | .outgrown, _ => LetsOut Q) (sim_enter hS false rd) (fun _ _ => rfl) hpl ?_
            · rwa [show (c.args.map a.eval).toList.toArray = c.args.map a.eval ++ ([] : List Value).toArray from by apply Array.ext'; simp] at this
            · intro C1 w1 y hs' hS' hn' hv'
              obtain ⟨wr, e1, e2, C', k1, k2, k3, k4⟩ := backA_rel hr hS hK' (mapP_cells hp) hs' hS' hv' (fun b h1 h2 => hnew b (hfrm.2.1 b h1 h2) h1)
              refine hnext y C' w1 k3 k1 ?_ ?_
              · rw [e1]; exact k2
              · rw [e1]; exact k4
          · cases hr
        · cases hr
  · -- a round
    rename_i b
    split at hr
    · rename_i v h' he
      injection hr with hr; subst hr
      obtain ⟨hnx, hE⟩ := roundA_rel hrec he
      refine ⟨⟨hnx, fun _ _ _ => trivial, fun b hb => absurd trivial hb⟩, fun C K a w ro m Q next hS hK hnew hT hnext => ?_⟩
      obtain ⟨hTx, hTa⟩ := hop C w a hT
      have hvx := ev_rel hTx
      rw [hfx] at hvx
      simp only [VRel] at hvx
      obtain ⟨rb, hφ, hvx⟩ := hvx
      have hKe : K = st.H.get := funext fun b => hK b trivial
      subst hKe
      obtain ⟨r, k1, k2, k3⟩ := hE C w _ rb (m - 1) ro (fun | .returned v, w'' => next (a.put o.dst v) w'' | .panicked chain, w'' => Q (.panic chain) a w'' | .outgrown, _ => LetsOut Q) hS (fun b hb => hnew b trivial hb) (LRel.map_args hTa) hφ (fun C' w' y hs' hS' hn' hv' =>
        hnext y C' w' hv' hs' hS' fun b _ hb => hn' b (hb.resolve_left (fun h => h trivial)))
      rw [hsem, run_call_yield ho hc hvx k1 (by simpa using k2), Oper.uponIn_round]
      exact ⟨fen_depth ro m, by rwa [show (c.args.map a.eval).toList.toArray = c.args.map a.eval from rfl] at k3⟩
    · cases hr
  · cases hr
end Go.Proofs.Ytadipihpgcelmaa.Ab
