/- What it means that the interpreter is sound on a piece of code; a function's call, out of its body. -/
import Derived.Test.YtadipihpgcelmaaAbsO
namespace Go.Proofs.Ytadipihpgcelmaa.Ab
open Go
set_option linter.unusedVariables false
set_option linter.unusedSimpArgs false

/-- Every machine; within a round, or not. -/
def fen (ro : Option Nat) : Fence := { Fence.wide with round := ro }
theorem fen_room (ro : Option Nat) (n : Nat) : (fen ro).room n := fun d h => by simp [fen, Fence.wide] at h
theorem fen_depth (ro : Option Nat) (n : Nat) : (fen ro).depth.isSome = true → 1 ≤ n := fun h => by simp [fen, Fence.wide] at h

/-- What the interpreter's state says of a running function's. -/
structure SRel (C : Ctx) (st : St) (a : Act) (w : World) : Prop where
  tm : TmRel C w st.T a.tmps
  n : a.tmps.size = st.n
  sim : Sim C st.H.get w
  new : ∀ b, st.H.nx ≤ b → C.φ b = none
/-- The calls that the function has put off: those of its ranges over functions, and these have put off nothing. -/
def MarksOk (C : Ctx) (w : World) (s0 : Nat) (ds : List Deferred) : Prop :=
  ∃ rs : List Nat, ds = rs.map (fun r => ({ target := .collected r, args := #[] } : Deferred)) ∧ rs.Nodup ∧ ∀ r ∈ rs, s0 ≤ r ∧ w.heap[r]? = some (.deferred (some [])) ∧ (∀ i, C.φ i ≠ some r) ∧ ¬ C.imm r

theorem MarksOk.step {C C' : Ctx} {w w' : World} {s0 : Nat} {ds : List Deferred} (h : MarksOk C w s0 ds) (hs : Step C w C' w') : MarksOk C' w' s0 ds := by
  obtain ⟨rs, e, hn, h⟩ := h
  refine ⟨rs, e, hn, fun r hr => ?_⟩
  obtain ⟨h1, h2, h3, h4⟩ := h r hr
  have hlt := lt_of_some w h2
  refine ⟨h1, ?_, fun i e => ?_, fun e => ?_⟩
  · rw [hs.keep r hlt h3]; exact h2
  · rcases hs.φnew i r e with g | g | ⟨j, g⟩
    · exact h3 i g
    · omega
    · exact h3 j g
  · rcases hs.immnew r e with g | g | ⟨j, g⟩
    · exact h4 g
    · omega
    · exact h3 j g
theorem MarksOk.nil {C : Ctx} {w : World} {s0 : Nat} : MarksOk C w s0 [] := ⟨[], rfl, List.nodup_nil, by simp⟩

def toExit : AX → Exit
  | .normal => .normal
  | .exit id => .exit id
  | .goto l => .goto l
  | .ret => .ret

/-- Behind a piece of code. -/
def After (C : Ctx) (w : World) (st' : St) (s0 : Nat) (ro : Option Nat) (Q : Act → World → Prop) : Prop :=
  ∀ C' a' w', Step C w C' w' → SRel C' st' a' w' → MarksOk C' w' s0 a'.defers → (ro.isSome = true → a'.defers = []) → Q a' w'
/-- Sound on a piece of code. -/
def SoundAt (P : Program) (c : Code) (st : St) (e : AX) (st' : St) : Prop :=
  st'.q = st.q ∧ st.H.nx ≤ st'.H.nx ∧
  ∀ (C : Ctx) (a : Act) (w : World) (s0 : Nat) (ro : Option Nat) (n : Nat) (Q : Exit → Act → World → Prop), st.q = ro.isSome → s0 ≤ w.heap.size → SRel C st a w → MarksOk C w s0 a.defers → (ro.isSome = true → a.defers = []) →
    After C w st' s0 ro (Q (toExit e)) → c.wpIn (fen ro) n P Q a w
def Sound (P : Program) (rec : Rec) : Prop := ∀ c st e st', rec c st = some (e, st') → SoundAt P c st e st'

/-! ### Results -/
theorem LRel.cons' {C : Ctx} {w : World} {x : AV} {v : Value} {xs : List AV} {vs : List Value} (h : VRel C w x v) (t : LRel C w false xs vs) : LRel C w false (x :: xs) (v :: vs) := LRel.cons (fun h => by cases h) h t

def rvar (tmps : Array Value) : ResultVar → Sem Value
  | .tmp t => pure (tmps.getD t undef)
  | .cell a t => do loadVar t (← asAddr (tmps.getD a undef))
theorem results_eq (fn : Func) (tmps : Array Value) : results fn tmps = (do
    let vs ← fn.results.mapM (rvar tmps)
    pure (if h : vs.size = 1 then vs[0] else .tuple vs)) := by
  have : (fun | .tmp t => pure (tmps.getD t undef) | .cell a t => do loadVar t (← asAddr (tmps.getD a undef)) : ResultVar → Sem Value) = rvar tmps := funext fun x => by cases x <;> rfl
  unfold results
  rw [← this]
  rfl
theorem results_rel {P : Program} {C : Ctx} {w : World} {h : AH} {T : Tm} {tmps : Array Value} (hS : Sim C h.get w) (hT : TmRel C w T tmps) : ∀ {res : List ResultVar} {vs : List AV}, resA P T h res = some vs →
    ∃ xs, (res.mapM (rvar tmps)).run P w = .ok xs w ∧ LRel C w false vs xs
  | [], vs, hr => by
    simp only [resA, Option.some.injEq] at hr; subst hr
    exact ⟨[], by simp, LRel.nil⟩
  | .tmp t :: res, vs, hr => by
    simp only [resA] at hr
    split at hr
    · rename_i vs' h1
      injection hr with hr; subst hr
      obtain ⟨xs, e1, e2⟩ := results_rel hS hT h1
      exact ⟨tmps.getD t undef :: xs, by simp only [List.mapM_cons, rvar, Sem.run_bind, Sem.run_pure, Result.andThen_ok, e1], LRel.cons' (hT t) e2⟩
    · cases hr
  | .cell a t :: res, vs, hr => by
    simp only [resA] at hr
    split at hr
    · rename_i ti hti
      split at hr
      · cases hr
      · rename_i hz
        split at hr
        · rename_i cs rd hc
          split at hr
          · rename_i v vs' hv hvs
            injection hr with hr; subst hr
            obtain ⟨xs, e1, e2⟩ := results_rel hS hT hvs
            obtain ⟨ad, us, e3, hsp, hat, hl, hlen⟩ := cellsAt_rel hS (fun b _ => rfl) hc (hT a) (by omega)
            obtain ⟨hT'⟩ := tinfo_spec hti
            obtain ⟨u, hu, hv'⟩ := asTy_rel hT' hsp hat hl hlen hv
            refine ⟨u :: xs, ?_, LRel.cons' hv' e2⟩
            have ha : (asAddr (tmps.getD a undef)).run P w = .ok ad w := by rw [e3]; simp [asAddr]
            simp only [List.mapM_cons, rvar, Sem.run_bind, ha, Sem.run_pure, Result.andThen_ok, hu, e1]
          · cases hr
        · cases hr
    · cases hr

theorem run_results {P : Program} {C : Ctx} {w : World} {h : AH} {T : Tm} {tmps : Array Value} {fn : Func} {vs : List AV} (hS : Sim C h.get w) (hT : TmRel C w T tmps) (hr : resA P T h fn.results.toList = some vs) :
    ∃ x, (results fn tmps).run P w = .ok x w ∧ VRel C w (oneA vs) x := by
  obtain ⟨xs, e1, e2⟩ := results_rel hS hT hr
  rw [results_eq, Array.mapM_eq_mapM_toList, Sem.run_bind]
  simp only [map_eq_pure_bind, Sem.run_bind, e1, Result.andThen_ok, Sem.run_pure]
  cases vs with
  | nil => simp only [LRel] at e2; subst e2; exact ⟨_, rfl, by simp only [oneA, VRel]; exact ⟨[], rfl, LRel.nil⟩⟩
  | cons v vs =>
    simp only [LRel] at e2
    obtain ⟨x, r, rfl, _, hv, hl⟩ := e2
    cases vs with
    | nil => simp only [LRel] at hl; subst hl; exact ⟨x, rfl, hv⟩
    | cons v' vs' =>
      have hl' := hl
      simp only [LRel] at hl
      obtain ⟨x', r', rfl, _, hv', _⟩ := hl
      exact ⟨_, rfl, by simp only [oneA, VRel]; exact ⟨x :: x' :: r', rfl, LRel.cons' hv hl'⟩⟩

/-! ### The calls that were put off -/
/-- A world in which a block was written that nobody knows. -/
theorem quiet_block {C0 C : Ctx} {w0 w : World} {K0 : Nat → Option AObj} (h0 : Sim C0 K0 w0) (hs : Step C0 w0 C w) {r : Nat} (hr : w0.heap.size ≤ r) (o o' : Obj) (hcell : ∀ c T f, w.heap[r]? ≠ some (Obj.cells c T f)) : Step C0 w0 C (setBlock w r o) := by
  refine ⟨hs.φ, hs.φnew, hs.imm, hs.immnew, by rw [setBlock_size]; exact hs.size, fun b hb hn => ?_, fun b hb => ?_, fun b c T f e => ?_, hs.env⟩
  · rw [setBlock_get, if_neg (by omega)]; exact hs.keep b hb hn
  · have := h0.immlt b hb
    rw [setBlock_get, if_neg (by omega)]; exact hs.immkeep b hb
  · have := lt_of_some w0 e
    rw [setBlock_get, if_neg (by omega)]; exact hs.sizes b c T f e
theorem mono_block {C : Ctx} {w : World} {r : Nat} (o : Obj) (hi : ¬ C.imm r) (hcell : ∀ c T f, w.heap[r]? ≠ some (Obj.cells c T f)) : Mono C w C (setBlock w r o) := by
  refine ⟨fun _ _ h => h, fun _ h => h, fun b hb => ?_, fun b c T f e => ?_⟩
  · rw [setBlock_get, if_neg (fun (h : r = b ∧ _) => hi (h.1 ▸ hb))]
  · have : r ≠ b := fun h => hcell c T f (h ▸ e)
    rw [setBlock_get, if_neg (fun h => this h.1)]
    exact ⟨c, e, rfl⟩
theorem sim_block {C : Ctx} {K : Nat → Option AObj} {w : World} {r : Nat} (o : Obj) (hS : Sim C K w) (hφ : ∀ i, C.φ i ≠ some r) (hi : ¬ C.imm r) (hcell : ∀ c T f, w.heap[r]? ≠ some (Obj.cells c T f)) : Sim C K (setBlock w r o) where
  at_ b o' e := by
    rcases hS.at_ b o' e with g | ⟨rb, g1, g2, g3⟩
    · exact .inl g
    · have hne : r ≠ rb := fun h => hφ b (h ▸ g1)
      exact .inr ⟨rb, g1, g2.mono (mono_block o hi hcell) (by rw [setBlock_get, if_neg (fun h => hne h.1)]), g3⟩
  inj := hS.inj
  φlt b rb e := by rw [setBlock_size]; exact hS.φlt b rb e
  immlt b e := by rw [setBlock_size]; exact hS.immlt b e

theorem leaves_rel {P : Program} {n : Nat} {fn : Func} {tmps : Array Value} {R : Ending → World → Prop} {C0 : Ctx} {w0 : World} {K0 : Nat → Option AObj} (h0 : Sim C0 K0 w0) {T : Tm} {h : AH} {vs : List AV} (hr : resA P T h fn.results.toList = some vs) {C : Ctx}
    (hR : ∀ w x, Step C0 w0 C w → Sim C h.get w → VRel C w (oneA vs) x → R (.returned x) w) :
    ∀ (ds : List Deferred) (w : World), Step C0 w0 C w → Sim C h.get w → TmRel C w T tmps → MarksOk C w w0.heap.size ds → LeavesInM Fence.wide n P fn tmps R ds .returning w
  | [], w, hs, hS, hT, hm => by
    obtain ⟨x, e1, e2⟩ := run_results (fn := fn) hS hT hr
    exact ⟨x, e1, hR w x hs hS e2⟩
  | d :: ds, w, hs, hS, hT, hm => by
    obtain ⟨rs, e, hn, hm⟩ := hm
    cases rs with
    | nil => cases e
    | cons r rs =>
      simp only [List.map_cons, List.cons.injEq] at e
      obtain ⟨rfl, rfl⟩ := e
      obtain ⟨h1, h2, h3, h4⟩ := hm r (by simp)
      have hcell : ∀ c T f, w.heap[r]? ≠ some (Obj.cells c T f) := fun c T f e => by rw [h2] at e; cases e
      refine ⟨by simp, .inl ⟨r, setBlock w r (.deferred none), rfl, ?_, ?_⟩⟩
      · simp [Instr.takeDeferred, getObj, setObj, Sem.run, h2, setBlock]
      · refine leaves_rel h0 hr hR _ _ (quiet_block h0 hs h1 _ (.deferred none) hcell) (sim_block _ hS h3 h4 hcell) (hT.mono (mono_block _ h4 hcell)) ⟨rs, rfl, (List.nodup_cons.1 hn).2, fun r' hr' => ?_⟩
        obtain ⟨k1, k2, k3, k4⟩ := hm r' (by simp [hr'])
        have hne : r ≠ r' := fun h => (List.nodup_cons.1 hn).1 (h ▸ hr')
        exact ⟨k1, by rw [setBlock_get, if_neg (fun h => hne h.1)]; exact k2, k3, k4⟩

/-! ### A function's body -/
theorem tmOf_get : ∀ (l : List AV) (i j : Nat), (tmOf i l).get j = if i ≤ j then (l[j - i]?).getD .top else .top
  | [], i, j => by simp [tmOf, Tm.get]
  | v :: l, i, j => by
    simp only [tmOf, Tm.get, nbeq, tmOf_get l (i + 1) j]
    by_cases h : i = j
    · subst h; simp
    · simp only [h, decide_false, cond_false]
      by_cases h2 : i ≤ j
      · rw [if_pos h2, if_pos (by omega)]
        obtain ⟨m, rfl⟩ : ∃ m, j = i + 1 + m := ⟨j - (i + 1), by omega⟩
        rw [show i + 1 + m - i = m + 1 by omega, show i + 1 + m - (i + 1) = m by omega]; simp
      · rw [if_neg h2, if_neg (by omega)]
theorem tm_start {C : Ctx} {w : World} {args : List AV} {vs : List Value} (hl : LRel C w false args vs) (k : Nat) : TmRel C w (tmOf 0 args) (vs.toArray ++ Array.replicate k undef) := by
  intro i
  rw [tmOf_get]
  simp only [Nat.zero_le, if_true, Nat.sub_zero]
  cases e : args[i]? with
  | none => simp only [Option.getD_none, VRel]
  | some x =>
    obtain ⟨v, hv, hx, _⟩ := hl.get e
    have hlt : i < vs.length := by
      rcases Nat.lt_or_ge i vs.length with g | g
      · exact g
      · rw [List.getElem?_eq_none g] at hv; cases hv
    have : (vs.toArray ++ Array.replicate k undef).getD i undef = v := by
      rw [Array.getD_eq_getD_getElem?, Array.getElem?_append_left (by simpa using hlt)]
      simp [hv]
    rw [this]; exact hx

theorem afun_spec {P : Program} {f : FuncId} {af : AF} (h : afun P f = some af) : ∃ fn, P.funcs[f]? = some fn ∧ fn.body = some af.body ∧ (fn.name == "runtime.NumGoroutine") = false ∧ af.nt = fn.ntmps ∧ af.res = fn.results.toList := by
  unfold afun at h
  split at h
  · rename_i fn hf
    split at h
    · rename_i c hc
      split at h
      · cases h
      · rename_i hn
        injection h with h; subst h
        exact ⟨fn, hf, hc, by simpa using hn, rfl, rfl⟩
    · cases h
  · cases h

/-- What a call hands back. -/
def Back (C : Ctx) (w : World) (v : AV) (h' : AH) (R : Value → World → Prop) : Prop :=
  ∀ C' w' x, Step C w C' w' → Sim C' h'.get w' → (∀ b, h'.nx ≤ b → C'.φ b = none) → VRel C' w' v x → R x w'
theorem enterA_rel {P : Program} {rec : Rec} (hrec : Sound P rec) {f : FuncId} {args : List AV} {h h' : AH} {v : AV} (he : enterA P rec f args h = some (v, h')) :
    h.nx ≤ h'.nx ∧ (∃ fn, P.funcs[f]? = some fn ∧ (fn.name == "runtime.NumGoroutine") = false ∧ fn.body.isNone = false) ∧
    ∀ (C : Ctx) (w : World) (vs : List Value) (n : Nat) (R : Ending → World → Prop), Sim C h.get w → (∀ b, h.nx ≤ b → C.φ b = none) → LRel C w false args vs →
      Back C w v h' (fun x w' => R (.returned x) w') → CallsIn Fence.wide n P f vs.toArray w R := by
  unfold enterA at he
  split at he
  · rename_i af haf
    obtain ⟨fn, hf, hb, hnm, hnt, hres⟩ := afun_spec haf
    have fin : ∀ {e : AX} {st : St}, e = .normal ∨ e = .ret → rec af.body ⟨tmOf 0 args, max af.nt args.length, h, false⟩ = some (e, st) → (match resA P st.T st.H af.res with | some vs => some (oneA vs, st.H) | none => none) = some (v, h') →
        h.nx ≤ h'.nx ∧ (∃ fn, P.funcs[f]? = some fn ∧ (fn.name == "runtime.NumGoroutine") = false ∧ fn.body.isNone = false) ∧
        ∀ (C : Ctx) (w : World) (vs : List Value) (n : Nat) (R : Ending → World → Prop), Sim C h.get w → (∀ b, h.nx ≤ b → C.φ b = none) → LRel C w false args vs →
          Back C w v h' (fun x w' => R (.returned x) w') → CallsIn Fence.wide n P f vs.toArray w R := by
      intro e st hee hrun hres'
      obtain ⟨hq, hnx, hsound⟩ := hrec _ _ _ _ hrun
      split at hres'
      · rename_i rs hrs
        simp only [Option.some.injEq, Prod.mk.injEq] at hres'
        obtain ⟨rfl, rfl⟩ := hres'
        refine ⟨hnx, ⟨fn, hf, hnm, by rw [hb]; rfl⟩, fun C w vs n R hS hnew hl hback => ?_⟩
        refine callsIn_of_wp_marks hf hb trivial ?_
        have hlen := hl.length
        refine hsound C _ w w.heap.size none n _ rfl (Nat.le_refl _) ⟨tm_start hl _, ?_, hS, hnew⟩ MarksOk.nil (fun _ => rfl) ?_
        · simp only [Array.size_append, List.size_toArray, Array.size_replicate, hnt, hlen]; omega
        · intro C' a' w' hs hst hm _
          have := leaves_rel (n := n) (R := R) (fn := fn) (tmps := a'.tmps) hS (hres ▸ hrs) (fun w x g1 g2 g3 => hback C' w x g1 g2 hst.new g3) a'.defers w' hs hst.sim hst.tm hm
          rcases hee with rfl | rfl
          · exact this
          · exact this
      · cases hres'
    split at he
    · rename_i st hrun; exact fin (.inl rfl) hrun he
    · rename_i st hrun; exact fin (.inr rfl) hrun he
    · cases he
  · cases he
end Go.Proofs.Ytadipihpgcelmaa.Ab
