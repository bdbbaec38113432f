/- What the interpreter tells of a piece of code, as a fact of the machine: facts put together, piece by piece; loops by what stays. -/
import Derived.Test.YtadipihpgcelmaaAbsV
namespace Go.Proofs.Ytadipihpgcelmaa.Ab
open Go
set_option linter.unusedVariables false
set_option linter.unusedSimpArgs false

/-! ### From one world to a later one, blocks from a base on numbered anew -/
structure StepB (base : Nat) (C : Ctx) (w : World) (C' : Ctx) (w' : World) : Prop where
  φ : ∀ b rb, b < base → C.φ b = some rb → C'.φ b = some rb
  φnew : ∀ b rb, C'.φ b = some rb → w.heap.size ≤ rb ∨ ∃ i, C.φ i = some rb
  imm : ∀ b, C.imm b → C'.imm b
  immnew : ∀ b, C'.imm b → C.imm b ∨ w.heap.size ≤ b ∨ ∃ i, C.φ i = some b
  size : w.heap.size ≤ w'.heap.size
  keep : ∀ b, b < w.heap.size → (∀ i, C.φ i ≠ some b) → w'.heap[b]? = w.heap[b]?
  immkeep : ∀ b, C.imm b → w'.heap[b]? = w.heap[b]?
  sizes : ∀ (b : Nat) (c : Array Value) (T : TypeId) (f : Nat × Nat), w.heap[b]? = some (Obj.cells c T f) → ∃ c' : Array Value, w'.heap[b]? = some (Obj.cells c' T f) ∧ c'.size = c.size
  env : envOf w' = envOf w
theorem Step.toB {base : Nat} {C C' : Ctx} {w w' : World} (h : Step C w C' w') : StepB base C w C' w' :=
  ⟨fun b rb _ e => h.φ b rb e, fun b rb e => (h.φnew b rb e).elim (fun g => .inr ⟨b, g⟩) id, h.imm, h.immnew, h.size, h.keep, h.immkeep, h.sizes, h.env⟩
theorem StepB.toStep {base : Nat} {C C' : Ctx} {w w' : World} (h : StepB base C w C' w') (hn : ∀ b, base ≤ b → C.φ b = none) : Step C w C' w' :=
  { φ := fun b rb e => by
      rcases Nat.lt_or_ge b base with g | g
      · exact h.φ b rb g e
      · rw [hn b g] at e; cases e
    φnew := fun b rb e => .inr (h.φnew b rb e)
    imm := h.imm, immnew := h.immnew, size := h.size, keep := h.keep, immkeep := h.immkeep, sizes := h.sizes, env := h.env }
theorem StepB.trans {base : Nat} {C C' C'' : Ctx} {w w' w'' : World} (h : StepB base C w C' w') (g : StepB base C' w' C'' w'') : StepB base C w C'' w'' where
  φ b rb hb e := g.φ b rb hb (h.φ b rb hb e)
  φnew b rb e := by
    rcases g.φnew b rb e with e | ⟨i, e⟩
    · exact .inl (Nat.le_trans h.size e)
    · exact h.φnew i rb e
  imm b e := g.imm b (h.imm b e)
  immnew b e := by
    rcases g.immnew b e with e | e | ⟨i, e⟩
    · exact h.immnew b e
    · exact .inr (.inl (Nat.le_trans h.size e))
    · exact .inr (h.φnew i b e)
  size := Nat.le_trans h.size g.size
  keep b hb hn := by
    rw [g.keep b (Nat.lt_of_lt_of_le hb h.size) ?_, h.keep b hb hn]
    intro i e
    rcases h.φnew i b e with e | ⟨j, e⟩
    · omega
    · exact hn j e
  immkeep b e := by rw [g.immkeep b (h.imm b e), h.immkeep b e]
  sizes b c T f e := by
    obtain ⟨c', e', s'⟩ := h.sizes b c T f e
    obtain ⟨c'', e'', s''⟩ := g.sizes b c' T f e'
    exact ⟨c'', e'', by omega⟩
  env := g.env.trans h.env
theorem MarksOk.stepB {base : Nat} {C C' : Ctx} {w w' : World} {s0 : Nat} {ds : List Deferred} (h : MarksOk C w s0 ds) (hs : StepB base C w C' w') : MarksOk C' w' s0 ds := by
  obtain ⟨rs, e, hn, h⟩ := h
  refine ⟨rs, e, hn, fun r hr => ?_⟩
  obtain ⟨h1, h2, h3, h4⟩ := h r hr
  have hlt := lt_of_some w h2
  refine ⟨h1, ?_, fun i e => ?_, fun e => ?_⟩
  · rw [hs.keep r hlt h3]; exact h2
  · rcases hs.φnew i r e with g | ⟨j, g⟩
    · omega
    · exact h3 j g
  · rcases hs.immnew r e with g | g | ⟨j, g⟩
    · exact h4 g
    · omega
    · exact h3 j g

/-! ### Facts -/
structure Good (P : Program) (cf : Cfg) : Prop where
  mixed : P.follows .mixedOrders = true
  clones : CloneOk P cf.clone
/-- One state told. -/
noncomputable def one (c : Code) (st : St) (x : AX × St) : Rec := fun c' st' => open Classical in if c' = c ∧ st' = st then some x else none
theorem one_at (c : Code) (st : St) (x : AX × St) : one c st x c st = some x := by unfold one; rw [if_pos ⟨rfl, rfl⟩]
theorem one_sound {P : Program} {c : Code} {st : St} {x : AX × St} (h : SoundAt P c st x.1 x.2) : Sound P (one c st x) := by
  intro c' st' e st'' g
  unfold one at g
  split at g
  · rename_i hc
    injection g with g
    subst g
    obtain ⟨rfl, rfl⟩ := hc
    exact h
  · cases g
noncomputable def two (c : Code) (st : St) (x : AX × St) (c2 : Code) (st2 : St) (x2 : AX × St) : Rec := fun c' st' => open Classical in if c' = c ∧ st' = st then some x else if c' = c2 ∧ st' = st2 then some x2 else none
theorem two_sound {P : Program} {c : Code} {st : St} {x : AX × St} {c2 : Code} {st2 : St} {x2 : AX × St} (h : SoundAt P c st x.1 x.2) (h2 : SoundAt P c2 st2 x2.1 x2.2) : Sound P (two c st x c2 st2 x2) := by
  intro c' st' e st'' g
  unfold two at g
  split at g
  · rename_i hc
    injection g with g
    subst g
    obtain ⟨rfl, rfl⟩ := hc
    exact h
  · split at g
    · rename_i hc
      injection g with g
      subst g
      obtain ⟨rfl, rfl⟩ := hc
      exact h2
    · cases g

section
variable (P : Program) (cf : Cfg)
def Ev (c : Code) (st : St) (x : AX × St) : Prop := Good P cf → SoundAt P c st x.1 x.2
def EvEnter (f : FuncId) (args : List AV) (h : AH) (x : AV × AH) : Prop := Good P cf → ∃ rec, Sound P rec ∧ enterA P rec f args h = some x
def EvRound (b : Nat) (args : List AV) (h : AH) (x : AV × AH) : Prop := Good P cf → ∃ rec, Sound P rec ∧ roundA rec b args h = some x
def EvCall (f : AV) (args : List AV) (h : AH) (x : CR) : Prop := Good P cf → ∃ rec, Sound P rec ∧ callA P cf rec f args h = some x
def EvDo (op : Op) (st : St) (x : CR) : Prop := Good P cf → ∃ rec, Sound P rec ∧ doA P cf rec op st = some x
def EvOper (ops : Array Oper) (o : Oper) (st : St) (x : St × Ft) : Prop := Good P cf → ∃ rec, Sound P rec ∧ operA P cf rec ops o st = some x
def EvOps (ops : Array Oper) : List Nat → St → St × List Ft → Prop
  | [], st, x => x = (st, [])
  | i :: l, st, x => ∃ o st1 ft st2 fts, ops[i]? = some o ∧ EvOper P cf ops o st (st1, ft) ∧ EvOps ops l st1 (st2, fts) ∧ x = (st2, ft :: fts)
/-- Behind a round, or a loop: blocks from the base on may bear other numbers. -/
def AfterB (base : Nat) (C : Ctx) (w : World) (st' : St) (s0 : Nat) (ro : Option Nat) (Q : Act → World → Prop) : Prop :=
  ∀ C' a' w', StepB base C w C' w' → SRel C' st' a' w' → MarksOk C' w' s0 a'.defers → (ro.isSome = true → a'.defers = []) → Q a' w'
def RoundsB (base k : Nat) (c : Code) (st : St) (x : AX × St) : Prop :=
  ∀ (C : Ctx) (a : Act) (w : World) (s0 : Nat) (ro : Option Nat) (n : Nat) (Q : Exit → Act → World → Prop), st.q = ro.isSome → s0 ≤ w.heap.size → SRel C st a w → MarksOk C w s0 a.defers → (ro.isSome = true → a.defers = []) →
    AfterB base C w x.2 s0 ro (Q (toExit x.1)) → Code.roundsIn (fen ro) n P c Q k a w
def EvLoopB (base : Nat) (c : Code) (st : St) (x : AX × St) : Prop := Good P cf → x.2.q = st.q ∧ base ≤ x.2.H.nx ∧ ∃ k, RoundsB P base k c st x
/-- One state says less than another one: values told in fewer words, blocks from the base on numbered anew. -/
def AbsB (base : Nat) (st st' : St) : Prop := st'.q = st.q ∧ base ≤ st'.H.nx ∧ ∀ (C : Ctx) (a : Act) (w : World), SRel C st a w → ∃ C', StepB base C w C' w ∧ SRel C' st' a w
def EvLoop (c : Code) (st : St) (x : AX × St) : Prop := ∃ st1, AbsB st.H.nx st st1 ∧ EvLoopB P cf st.H.nx c st1 x
def EvScope (body c : Code) (st : St) (x : AX × St) : Prop := Good P cf → x.2.q = st.q ∧ st.H.nx ≤ x.2.H.nx ∧ ∃ k, ∀ (C : Ctx) (a : Act) (w : World) (s0 : Nat) (ro : Option Nat) (n : Nat) (Q : Exit → Act → World → Prop), st.q = ro.isSome → s0 ≤ w.heap.size → SRel C st a w → MarksOk C w s0 a.defers → (ro.isSome = true → a.defers = []) →
    After C w x.2 s0 ro (Q (toExit x.1)) → scopeIn (fen ro) n P body Q k c a w
end
theorem AbsB.refl {base : Nat} {st : St} (h : base ≤ st.H.nx) : AbsB base st st := ⟨rfl, h, fun C a w hs => ⟨C, (Step.refl C w).toB, hs⟩⟩
theorem AbsB.trans {base : Nat} {st st1 st2 : St} (h : AbsB base st st1) (g : AbsB base st1 st2) : AbsB base st st2 :=
  ⟨g.1.trans h.1, g.2.1, fun C a w hs => by
    obtain ⟨C1, s1, r1⟩ := h.2.2 C a w hs
    obtain ⟨C2, s2, r2⟩ := g.2.2 C1 a w r1
    exact ⟨C2, s1.trans s2, r2⟩⟩

section
variable {P : Program} {cf : Cfg}
theorem Ev.here {c : Code} {st : St} {e : AX} (h : ∀ (F : Fence) (n : Nat) (Q : Exit → Act → World → Prop) (a : Act) (w : World), F.fn = (fun _ => True) → Q (toExit e) a w → c.wpIn F n P Q a w) : Ev P cf c st (e, st) := fun _ => sound_here h
theorem Ev.seq {a b : Code} {st st1 : St} {x : AX × St} (h1 : Ev P cf a st (.normal, st1)) (h2 : Ev P cf b st1 x) : Ev P cf (.seq a b) st x := fun g => sound_seq (h1 g) (h2 g)
theorem Ev.seq' {a b : Code} {st st1 : St} {e : AX} (he : e ≠ .normal) (h1 : Ev P cf a st (e, st1)) : Ev P cf (.seq a b) st (e, st1) := fun g => sound_seq' he (h1 g)
theorem Ev.cond {c : Operand} {x y : Code} {st : St} {t : Bool} {z : AX × St} (hc : ev st.T c = .b t) (h : Ev P cf (bif t then x else y) st z) : Ev P cf (.cond c x y) st z := fun g => sound_cond hc (h g)
theorem Ev.block {id : Nat} {c : Code} {st st1 : St} {e : AX} (h : Ev P cf c st (e, st1)) : Ev P cf (.block id c) st (blockX id e, st1) := fun g => sound_block (h g)

theorem EvLoopB.stop {base : Nat} {c : Code} {st st1 : St} {e : AX} (he : e ≠ .normal) (hb : base ≤ st.H.nx) (h1 : Ev P cf c st (e, st1)) : EvLoopB P cf base c st (e, st1) := by
  intro g
  obtain ⟨a1, b1, c1⟩ := h1 g
  refine ⟨a1, Nat.le_trans hb b1, 1, fun C a w s0 ro n Q hq hs0 hsr hm hd hQ => ?_⟩
  rw [roundsIn_succ]
  exact c1 C a w s0 ro n _ hq hs0 hsr hm hd fun C' a' w' g1 g2 g3 g4 => then_exit he (hQ C' a' w' g1.toB g2 g3 g4)
theorem EvLoopB.step {base : Nat} {c : Code} {st st1 st2 : St} {x : AX × St} (h1 : Ev P cf c st (.normal, st1)) (hab : AbsB base st1 st2) (h2 : EvLoopB P cf base c st2 x) : EvLoopB P cf base c st x := by
  intro g
  obtain ⟨a1, b1, c1⟩ := h1 g
  obtain ⟨a2, b2, k, c2⟩ := h2 g
  refine ⟨a2.trans (hab.1.trans a1), b2, k + 1, fun C a w s0 ro n Q hq hs0 hsr hm hd hQ => ?_⟩
  rw [roundsIn_succ]
  refine c1 C a w s0 ro n _ hq hs0 hsr hm hd fun C' a' w' g1 g2 g3 g4 => ?_
  obtain ⟨C2, s2, r2⟩ := hab.2.2 C' a' w' g2
  have h12 := (g1.toB (base := base)).trans s2
  exact c2 C2 a' w' s0 ro n Q ((hab.1.trans a1).trans hq) (Nat.le_trans hs0 h12.size) r2 (g3.stepB s2) g4 fun C3 a3 w3 k1 k2 k3 k4 => hQ C3 a3 w3 (h12.trans k1) k2 k3 k4
theorem Ev.loop {c : Code} {st : St} {x : AX × St} (h : EvLoop P cf c st x) : Ev P cf (.loop c) st x := by
  intro g
  obtain ⟨st1, hab, h⟩ := h
  obtain ⟨a1, b1, k, c1⟩ := h g
  refine ⟨a1.trans hab.1, b1, fun C a w s0 ro n Q hq hs0 hsr hm hd hQ => wpIn_loop_rounds k ?_⟩
  obtain ⟨C1, s1, r1⟩ := hab.2.2 C a w hsr
  exact c1 C1 a w s0 ro n Q (hab.1.trans hq) hs0 r1 (hm.stepB s1) hd fun C2 a2 w2 k1 k2 k3 k4 => hQ C2 a2 w2 ((s1.trans k1).toStep hsr.new) k2 k3 k4

theorem EvScope.goto {body c rest : Code} {st st1 : St} {l : Nat} {x : AX × St} (h1 : Ev P cf c st (.goto l, st1)) (hf : findLabel body l = some rest) (h2 : EvScope P cf body rest st1 x) : EvScope P cf body c st x := by
  intro g
  obtain ⟨a1, b1, c1⟩ := h1 g
  obtain ⟨a2, b2, k, c2⟩ := h2 g
  refine ⟨a2.trans a1, Nat.le_trans b1 b2, k + 1, fun C a w s0 ro n Q hq hs0 hsr hm hd hQ => ?_⟩
  refine c1 C a w s0 ro n _ hq hs0 hsr hm hd fun C' a' w' g1 g2 g3 g4 => ?_
  simp only [toExit, scopeQ, hf]
  exact c2 C' a' w' s0 ro n Q (a1.trans hq) (Nat.le_trans hs0 g1.size) g2 g3 g4 (hQ.trans g1)
theorem EvScope.out {body c : Code} {st st1 : St} {e : AX} (he : ∀ l, e = .goto l → findLabel body l = none) (h1 : Ev P cf c st (e, st1)) : EvScope P cf body c st (e, st1) := by
  intro g
  obtain ⟨a1, b1, c1⟩ := h1 g
  refine ⟨a1, b1, 1, fun C a w s0 ro n Q hq hs0 hsr hm hd hQ => ?_⟩
  refine c1 C a w s0 ro n _ hq hs0 hsr hm hd fun C' a' w' g1 g2 g3 g4 => ?_
  have := hQ C' a' w' g1 g2 g3 g4
  cases e with
  | goto l => simp only [toExit, scopeQ, he l rfl]; exact this
  | _ => exact this
theorem Ev.scope {c : Code} {st : St} {x : AX × St} (h : EvScope P cf c c st x) : Ev P cf (.scope c) st x := by
  intro g
  obtain ⟨a1, b1, k, c1⟩ := h g
  exact ⟨a1, b1, fun C a w s0 ro n Q hq hs0 hsr hm hd hQ => wpIn_scope k (c1 C a w s0 ro n Q hq hs0 hsr hm hd hQ)⟩

theorem EvOps.nil {ops : Array Oper} {st : St} : EvOps P cf ops [] st (st, []) := rfl
theorem EvOps.cons {ops : Array Oper} {i : Nat} {l : List Nat} {o : Oper} {st st1 st2 : St} {ft : Ft} {fts : List Ft} (ho : ops[i]? = some o) (h1 : EvOper P cf ops o st (st1, ft)) (h2 : EvOps P cf ops l st1 (st2, fts)) : EvOps P cf ops (i :: l) st (st2, ft :: fts) :=
  ⟨o, st1, ft, st2, fts, ho, h1, h2, rfl⟩
theorem EvOper.ok {ops : Array Oper} {o : Oper} {st st1 : St} {ft : Ft} (h : EvOper P cf ops o st (st1, ft)) (g : Good P cf) : OperOk P ops o st st1 ft := by
  obtain ⟨rec, hrec, he⟩ := h g
  exact operA_rel hrec g.clones he
theorem ops_rel (g : Good P cf) {ops : Array Oper} : ∀ {l : List Nat} {st st' : St} {fts : List Ft}, EvOps P cf ops l st (st', fts) →
    st'.q = st.q ∧ st'.n = st.n ∧ st.H.nx ≤ st'.H.nx ∧ ∀ (C : Ctx) (a : Act) (w : World) (s0 : Nat) (ro : Option Nat) (n : Nat) (Q : Exit → Act → World → Prop), SRel C st a w → MarksOk C w s0 a.defers → (ro.isSome = true → a.defers = []) →
      After C w st' s0 ro (Q .normal) → wpOpsIn (fen ro) n P ops Q l a w
  | [], st, st', fts, h => by
    simp only [EvOps, Prod.mk.injEq] at h; obtain ⟨rfl, rfl⟩ := h
    exact ⟨rfl, rfl, Nat.le_refl _, fun C a w s0 ro n Q hsr hm hd hQ => hQ C a w (Step.refl C w) hsr hm hd⟩
  | i :: l, st, st', fts, h => by
    obtain ⟨o, st1, ft, st2, fts', ho, h1, h2, e⟩ := h
    simp only [Prod.mk.injEq] at e; obtain ⟨rfl, rfl⟩ := e
    have hok := h1.ok g
    obtain ⟨e1, e1n, e2, e3⟩ := ops_rel g h2
    refine ⟨e1.trans hok.q, e1n.trans hok.n, Nat.le_trans hok.frm.1 e2, fun C a w s0 ro n Q hsr hm hd hQ => ?_⟩
    rw [wpOpsIn_cons]
    refine wpOpIn_one ho ?_
    obtain ⟨V, hV, hrun⟩ := hok.run
    refine hrun C st.H.get a w ro n Q _ hsr.sim (fun _ _ => rfl) (fun b _ hb => hsr.new b hb) (fun t _ => hsr.tm t) fun v C' w' k1 k2 k3 k4 => ?_
    refine e3 C' _ w' s0 ro n Q ⟨?_, ?_, k3.congr fun b => (wrK_full hok.frm b).symm, fun b hb => k4 b (hsr.new b (Nat.le_trans hok.frm.1 hb)) (.inr hb)⟩ (by rw [put_defers]; exact hm.step k2) (by rw [put_defers]; exact hd) fun C'' a'' w'' g1 g2 g3 g4 => hQ C'' a'' w'' (k2.trans g1) g2 g3 g4
    · rw [hV]; exact TmRel.put (hsr.tm.step k2) (fun t e => by rw [hsr.n]; exact hok.dst t e) k1
    · rw [put_size, hsr.n, hok.n]
theorem ops_trace {ops : Array Oper} : ∀ {l : List Nat} {st st' : St} {fts : List Ft}, EvOps P cf ops l st (st', fts) →
    ∃ (s : Nat → St), s 0 = st ∧ s l.length = st' ∧ fts.length = l.length ∧ ∀ k i, l[k]? = some i → ∃ o ft, ops[i]? = some o ∧ fts[k]? = some ft ∧ EvOper P cf ops o (s k) (s (k + 1), ft)
  | [], st, st', fts, h => by
    simp only [EvOps, Prod.mk.injEq] at h; obtain ⟨rfl, rfl⟩ := h
    exact ⟨fun _ => st', rfl, rfl, rfl, fun k i h => by simp at h⟩
  | i :: l, st, st', fts, h => by
    obtain ⟨o, st1, ft, st2, fts', ho, h1, h2, e⟩ := h
    simp only [Prod.mk.injEq] at e; obtain ⟨rfl, rfl⟩ := e
    obtain ⟨s, e0, e1, e2, e3⟩ := ops_trace h2
    refine ⟨fun k => match k with | 0 => st | k + 1 => s k, rfl, e1, by simp [e2], fun k j hk => ?_⟩
    cases k with
    | zero =>
      simp at hk; subst hk
      exact ⟨o, ft, ho, rfl, by simp only [e0]; exact h1⟩
    | succ k =>
      obtain ⟨o', ft', g1, g2, g3⟩ := e3 k j (by simpa using hk)
      exact ⟨o', ft', g1, by simpa using g2, g3⟩
theorem Ev.region {id : Nat} {ops : Array Oper} {draw : Bool} {st st2 : St} {fts : List Ft} (hops : EvOps P cf ops (List.range ops.size) st (st2, fts)) (hd : draw = false ∨ (orderOk ops = true ∧ allOk (Region.before ops) [] 0 fts = true)) : Ev P cf (.region id ops draw) st (.normal, st2) := by
  intro g
  obtain ⟨e1, e1n, e2, e3⟩ := ops_rel g hops
  refine ⟨e1, e2, fun C a w s0 ro n Q hq hs0 hsr hmk hd0 hQ => ?_⟩
  cases draw with
  | false => exact wpIn_region (e3 C a w s0 ro n Q hsr hmk hd0 hQ)
  | true =>
    obtain ⟨hord, hall⟩ := hd.resolve_left (by simp)
    obtain ⟨s, t0, t1, t2, t3⟩ := ops_trace hops
    simp only [List.length_range] at t1 t2
    have hft : ∀ k, k < ops.size → ∃ ft, fts[k]? = some ft := fun k hk => ⟨fts[k], by simp [t2, hk]⟩
    have T : Trace P ops s (fun k => fts.getD k (some [], some [])) := by
      refine ⟨fun i o ho => ?_, (orderOk_spec hord).1, fun i j x y hij hx hy => ?_⟩
      · have hi : i < ops.size := (Array.getElem?_eq_some_iff.1 ho).1
        obtain ⟨o', ft, g1, g2, g3⟩ := t3 i i (by simp [hi])
        rw [ho] at g1; injection g1 with g1; subst g1
        have : fts.getD i (some [], some []) = ft := by rw [List.getD_eq_getElem?_getD, g2]; rfl
        rw [this]
        exact g3.ok g
      · have hj : j < ops.size := (Array.getElem?_eq_some_iff.1 hy).1
        rcases (orderOk_spec hord).2 i j x y hij hx hy with g | g
        · exact .inl g
        · obtain ⟨fi, hfi⟩ := hft i (by omega)
          obtain ⟨fj, hfj⟩ := hft j hj
          rcases allOk_spec (l := fts) (pre := []) hall i j fi fj (by simpa using hij) (by simpa using hfi) hfj with k | k
          · exact .inl (by simpa [bef] using k)
          · refine .inr ⟨g, fun z => ?_⟩
            have e1 : fts.getD i (some [], some []) = fi := by rw [List.getD_eq_getElem?_getD, hfi]; rfl
            have e2 : fts.getD j (some [], some []) = fj := by rw [List.getD_eq_getElem?_getD, hfj]; rfl
            rw [e1, e2]
            exact ftOk_spec k z
    have hw : Step C w C { w with drawn := w.drawn + 1 } := Step.heap rfl rfl
    refine wpIn_region_any g.mixed (draw_any (C0 := C) (a0 := a) (w0 := { w with drawn := w.drawn + 1 }) T (fun C' K' a' w' D => ?_) ops.size (Array.replicate ops.size false) C st.H.get a { w with drawn := w.drawn + 1 } (by simp) (by simp) (fun j k hk => ?_) ?_)
    · -- all have run
      have hlt : ∀ j, j < ops.size → j < ops.size := fun _ h => h
      have hK : ∀ b, K' b = st2.H.get b := fun b => by
        rw [← t1]
        exact hist_agree (W := fun j => inF ((fun k => fts.getD k (some [], some [])) j).2 b) (val := fun j => (s j).H.get b) (T.stepH b) (Nat.le_refl _) (D.heap b) (fun j hj _ => hj) (fun j hj _ hS => by have hS' : j < ops.size := hS; omega)
      refine hQ C' a' w' (hw.trans D.step) ⟨fun t => ?_, ?_, D.sim.congr fun b => (hK b).symm, fun b hb => ?_⟩ (by rw [D.defers]; exact hmk.step (hw.trans D.step)) (by rw [D.defers]; exact hd0)
      · obtain ⟨X, hX, hv⟩ := D.tmp t
        have : X = st2.T.get t := by
          rw [← t1]
          exact hist_agree (W := Wt ops t) (val := fun j => (s j).T.get t) (T.stepT t) (Nat.le_refl _) hX (fun j hj _ => hj) (fun j hj _ hS => by have hS' : j < ops.size := hS; omega)
        rw [← this]; exact hv
      · rw [D.size, ← t1, T.n _ (Nat.le_refl _)]
      · have hb : st2.H.nx ≤ b := hb
        have h0 : (s 0).H.nx ≤ b := by
          have := T.nx ops.size 0 (by omega)
          simp only [Nat.zero_add] at this
          rw [t1] at this
          exact Nat.le_trans this hb
        rcases D.dom b h0 with g | ⟨j, hj, _, hl⟩
        · exact g
        · exfalso
          have hj' : j < ops.size := hj
          have := T.nx (ops.size - (j + 1)) (j + 1) (by omega)
          rw [show j + 1 + (ops.size - (j + 1)) = ops.size by omega, t1] at this
          omega
    · have := getD_lt hk
      simp only [Array.size_replicate] at this
      rw [Array.getD_eq_getD_getElem?] at hk; simp [this] at hk
    · have hno : ∀ j, ¬ (Array.replicate ops.size false).getD j false = true := by
        intro j hj
        have := getD_lt hj
        simp only [Array.size_replicate] at this
        rw [Array.getD_eq_getD_getElem?] at hj; simp [this] at hj
      refine ⟨Step.refl _ _, Sim.heap (w := w) rfl rfl hsr.sim, fun b => .inr ⟨fun k hk => absurd hk (hno k), by simp only [t0]⟩, fun t => ⟨st.T.get t, .inr ⟨fun k hk => absurd hk (hno k), by simp only [t0]⟩, (hsr.tm t).step hw⟩, fun b hb => .inl (hsr.new b (by rw [t0] at hb; exact hb)), by rw [t0]; exact hsr.n, rfl⟩

theorem EvOper.skip {ops : Array Oper} {o : Oper} {st s : St} (hw : wantedA ops st.T o = some false) (hp : putA st o.dst (.tu []) = some s) : EvOper P cf ops o st (s, (some [], some [])) :=
  fun _ => ⟨fun _ _ => none, fun _ _ _ _ h => (by cases h), by simp only [operA, hw, hp]⟩
theorem EvOper.run {ops : Array Oper} {o : Oper} {st s : St} {r : CR} (hw : wantedA ops st.T o = some true) (h : EvDo P cf o.op st r) (hp : putA { st with H := r.h } o.dst r.v = some s) : EvOper P cf ops o st (s, (r.rd, r.wr)) := by
  intro g
  obtain ⟨k, hk, e⟩ := h g
  exact ⟨k, hk, by simp only [operA, hw, e, hp]⟩
theorem EvDo.call {c : Call} {f : Operand} {st : St} {r : CR} (hc : c.callee = .value f) (h : EvCall P cf (ev st.T f) (c.args.toList.map (ev st.T)) st.H r) : EvDo P cf (.call c) st r := by
  intro g
  obtain ⟨k, hk, e⟩ := h g
  exact ⟨k, hk, by simp only [doA, hc]; exact e⟩
theorem EvDo.op {op : Op} {st : St} {r : OR} (h : aOp P st.H st.T op = some r) : EvDo P cf op st (ofOR r) := by
  refine fun _ => ⟨fun _ _ => none, fun _ _ _ _ h => (by cases h), ?_⟩
  unfold doA
  split
  · rename_i c
    split
    · rename_i f hc
      simp only [aOp, hc] at h; cases h
    · rw [h]; rfl
  · rw [h]; rfl
theorem EvEnter.of {f : FuncId} {args vs : List AV} {h : AH} {af : AF} {e : AX} {st : St} (ha : afun P f = some af) (hb : Ev P cf af.body ⟨tmOf 0 args, max af.nt args.length, h, false⟩ (e, st)) (he : e = .normal ∨ e = .ret) (hr : resA P st.T st.H af.res = some vs) : EvEnter P cf f args h (oneA vs, st.H) := by
  intro g
  refine ⟨one af.body ⟨tmOf 0 args, max af.nt args.length, h, false⟩ (e, st), one_sound (hb g), ?_⟩
  simp only [enterA, ha, one_at]
  rcases he with rfl | rfl <;> simp only [hr]
theorem EvCall.own {f : FuncId} {cap args : List AV} {h h' : AH} {v : AV} (hno : cloneOf cf.clone f = none) (hi : (!cap.isEmpty || cf.inl.contains f) = true) (he : EvEnter P cf f (args ++ cap) h (v, h')) : EvCall P cf (.fn f cap) args h ⟨v, h', none, none⟩ := by
  intro g
  obtain ⟨k, hk, e⟩ := he g
  exact ⟨k, hk, by simp only [callA, hno, hi, if_true, e]⟩
theorem EvCall.pure {f : FuncId} {args pargs : List AV} {h h1 : AH} {v : AV} {rd : List Nat} {r : CR} (hno : cloneOf cf.clone f = none) (hi : cf.inl.contains f = false) (hm : mapP (purV h false depthA) args = some (pargs, rd)) (he : EvEnter P cf f pargs AH.empty (v, h1))
    (hb : backA (!cf.move.contains f) (thawOf cf.thaw f) h rd v h1 = some r) : EvCall P cf (.fn f []) args h r := by
  intro g
  obtain ⟨k, hk, e⟩ := he g
  exact ⟨k, hk, by simp only [callA, hno, hi, List.isEmpty_nil, Bool.not_true, Bool.or_self, Bool.false_eq_true, if_false, hm, e, hb]⟩
theorem EvCall.round {b : Nat} {args : List AV} {h h' : AH} {v : AV} (he : EvRound P cf b args h (v, h')) : EvCall P cf (.yl b) args h ⟨v, h', none, none⟩ := by
  intro g
  obtain ⟨k, hk, e⟩ := he g
  exact ⟨k, hk, by simp only [callA, e]⟩
theorem EvCall.clone {f z w n : Nat} {x : AV} {h : AH} {cs : List AV} {rd : List Nat} (hc : cloneOf cf.clone f = some (z, w)) (hs : slCells h z x = some (n, cs, rd)) (hb : n ≤ 4294967296 ∧ w ≤ 4096 ∧ 0 < z) : EvCall P cf (.fn f []) [x] h ⟨.rf h.nx z 0 n, h.new (.cells cs), some rd, some [h.nx]⟩ :=
  fun _ => ⟨fun _ _ => none, fun _ _ _ _ h => (by cases h), by simp only [callA, hc, hs, List.isEmpty_nil]; rw [if_pos ⟨hb.1, hb.2.1, hb.2.2, trivial⟩]⟩
theorem loopOf_put {h : AH} {b : Nat} {s : LoopState} {p : Option Code} {T : Tm} {n : Nat} {ps : List Nat} {a c : Code} : loopOf (h.put b (.loop s p T n ps a c)) b = some (s, p, T, n, ps, a, c) := by
  unfold loopOf
  rw [AH.get_put, if_pos rfl]
  rfl
theorem EvRound.of {b : Nat} {args : List AV} {h : AH} {p0 : Option Code} {T : Tm} {n : Nat} {ps : List Nat} {asg body : Code} {st : St} {p2 : Option Code} {T2 : Tm} {n2 : Nat} {ps2 : List Nat} {a2 c2 : Code} {e : AX} {st' : St} {s3 : LoopState} {p3 : Option Code} {T3 : Tm} {n3 : Nat} {ps3 : List Nat} {a3 c3 : Code}
    (h1 : loopOf h b = some (.ready, p0, T, n, ps, asg, body)) (h2 : args.length = ps.length ∧ ps.all (· < n)) (h3 : Ev P cf asg ⟨setAll T ps args, n, h, true⟩ (.normal, st)) (h4 : loopOf st.H b = some (.ready, p2, T2, n2, ps2, a2, c2))
    (h5 : Ev P cf body { st with H := st.H.put b (.loop .busy p2 T2 n2 ps2 a2 c2) } (e, st')) (h6 : loopOf st'.H b = some (s3, p3, T3, n3, ps3, a3, c3)) :
    EvRound P cf b args h (.b (jumpOf e).isNone, st'.H.put b (.loop (if (jumpOf e).isNone then .ready else .done) (jumpOf e) T3 n3 ps3 a3 c3)) := by
  intro g
  refine ⟨two asg ⟨setAll T ps args, n, h, true⟩ (.normal, st) body { st with H := st.H.put b (.loop .busy p2 T2 n2 ps2 a2 c2) } (e, st'), two_sound (h3 g) (h5 g), ?_⟩
  have t1 : two asg ⟨setAll T ps args, n, h, true⟩ (.normal, st) body { st with H := st.H.put b (.loop .busy p2 T2 n2 ps2 a2 c2) } (e, st') asg ⟨setAll T ps args, n, h, true⟩ = some (.normal, st) := by unfold two; rw [if_pos ⟨rfl, rfl⟩]
  have t2 : two asg ⟨setAll T ps args, n, h, true⟩ (.normal, st) body { st with H := st.H.put b (.loop .busy p2 T2 n2 ps2 a2 c2) } (e, st') body { st with H := st.H.put b (.loop .busy p2 T2 n2 ps2 a2 c2) } = some (e, st') := by
    unfold two
    rw [if_neg, if_pos ⟨rfl, rfl⟩]
    rintro ⟨_, hh⟩
    have : st.H.put b (.loop .busy p2 T2 n2 ps2 a2 c2) = h := congrArg St.H hh
    rw [← this, loopOf_put] at h1
    simp at h1
  simp only [roundA, h1]
  rw [if_pos h2]
  simp only [t1, h4, t2, h6]
/-- Is it a jump that a round leaves? -/
def isJump : Code → Bool
  | .ret | .exit _ | .goto _ => true
  | _ => false
noncomputable def withJumps (r : Rec) : Rec := fun c st => match c with
  | .ret => some (.ret, st)
  | .exit id => some (.exit id, st)
  | .goto l => some (.goto l, st)
  | c => r c st
theorem withJumps_sound {r : Rec} (h : Sound P r) : Sound P (withJumps r) := by
  intro c st e st' g
  cases c <;> first
    | exact h _ _ _ _ g
    | (simp only [withJumps, Option.some.injEq, Prod.mk.injEq] at g; obtain ⟨rfl, rfl⟩ := g; first | exact sound_here fun F n Q a w hF hQ => wpIn_ret hQ | exact sound_here fun F n Q a w hF hQ => wpIn_exit hQ | exact sound_here fun F n Q a w hF hQ => wpIn_goto hQ)
def bodyJump (P : Program) (f : FuncId) : Bool := match afun P f with | some af => isJump af.body | none => true
def jumpX (st : St) : Option Code → Option (AX × St)
  | none => some (.normal, st)
  | some .ret => some (.ret, st)
  | some (.exit id) => some (.exit id, st)
  | some (.goto l) => some (.goto l, st)
  | _ => none
theorem Ev.range {g : Operand} {ps : Array Tmp} {asg body : Code} {st : St} {f : FuncId} {cap : List AV} {v : AV} {h2 : AH} {s : LoopState} {p : Option Code} {T : Tm} {n : Nat} {qs : List Nat} {a b : Code} {x : AX × St} (hq : st.q = false) (hg : ev st.T g = .fn f cap) (hj : bodyJump P f = false)
    (he : EvEnter P cf f (.yl st.H.nx :: cap) (st.H.new (.loop .ready none st.T st.n ps.toList asg body)) (v, h2)) (hl : loopOf h2 st.H.nx = some (s, p, T, n, qs, a, b)) (hs : s ≠ .busy) (hx : jumpX { st with H := h2.put st.H.nx (.loop .exhausted p T n qs a b) } p = some x) :
    Ev P cf (.rangeFunc g ps asg body) st x := by
  intro gd
  obtain ⟨rec, hrec, e⟩ := he gd
  obtain ⟨x1, x2⟩ := x
  refine rangeA_rel (cf := cf) (withJumps_sound hrec) ?_
  have e' : enterA P (withJumps rec) f (.yl st.H.nx :: cap) (st.H.new (.loop .ready none st.T st.n ps.toList asg body)) = some (v, h2) := by
    unfold enterA at e ⊢
    unfold bodyJump at hj
    split at e
    · rename_i af haf
      simp only [haf] at hj
      have : withJumps rec af.body = rec af.body := by
        funext st
        cases hbd : af.body <;> rw [hbd] at hj <;> first | rfl | (simp [isJump] at hj)
      rw [this]; exact e
    · cases e
  unfold rangeA
  rw [if_neg (by simp [hq])]
  simp only [hg, e', hl]
  rw [if_neg hs]
  cases p with
  | none => exact hx
  | some c => cases c <;> first | exact hx | (simp [jumpX] at hx)
end
end Go.Proofs.Ytadipihpgcelmaa.Ab
