/- What the interpreter's values and heap say of the machine's: the relation, and that it lasts while nothing owned by others is written. -/
import Derived.Test.YtadipihpgcelmaaAbsA
import Derived.Laws.Sem
namespace Go.Proofs.Ytadipihpgcelmaa.Ab
open Go
set_option linter.unusedVariables false
set_option linter.unusedSimpArgs false

/-- Where the owned blocks lie, and which blocks nobody writes any more. -/
structure Ctx where
  φ : Nat → Option Nat
  imm : Nat → Prop

/-- The same, with no block of one's own. -/
def Ctx.pure (C : Ctx) : Ctx := { C with φ := fun _ => none }
/-- The cells from a place on are these. -/
def CellsAt (w : World) (b o : Nat) (vs : List Value) : Prop := ∀ i v, vs[i]? = some v → w.cell? ⟨b, o + i, none⟩ = some v
/-- How many cells a block has at least. -/
def Reach (w : World) (b n : Nat) : Prop := ∃ (c : Array Value) (T : TypeId) (f : Nat × Nat), w.heap[b]? = some (Obj.cells c T f) ∧ n ≤ c.size

mutual
def VRel (C : Ctx) (w : World) : AV → Value → Prop
  | .top, _ => True
  | .i n, v => v = .int .i64 n
  | .y n, v => v = .int .u8 n.toNat
  | .b n, v => v = .bool n
  | .st l, v => v = .string ⟨l.toArray⟩
  | .sc x, v => v = x
  | .nl, v => ∃ a, v = .slice a 0 0
  | .sl n cs, v => ∃ a c, v = .slice a n c ∧ n ≤ c ∧ (n = 0 ∨ ∃ (ad : Addr) (vs : List Value), a = some ad ∧ ad.spot = none ∧ C.imm ad.block ∧ LRel C.pure w true cs vs ∧ CellsAt w ad.block ad.off vs)
  | .rf b z off n, v => ∃ a c, v = .slice a n c ∧ n ≤ c ∧ (c = 0 ∨ ∃ rb, C.φ b = some rb ∧ a = some ⟨rb, off, none⟩ ∧ Reach w rb (off + c * z))
  | .pt b off, v => ∃ rb, C.φ b = some rb ∧ v = .pointer (some ⟨rb, off, none⟩)
  | .ip cs, v => ∃ (ad : Addr) (vs : List Value), v = .pointer (some ad) ∧ ad.spot = none ∧ C.imm ad.block ∧ LRel C.pure w true cs vs ∧ CellsAt w ad.block ad.off vs
  | .ag xs, v => ∃ vs : List Value, v = .agg vs.toArray ∧ LRel C w true xs vs
  | .tu xs, v => ∃ vs : List Value, v = .tuple vs.toArray ∧ LRel C w false xs vs
  | .fn f cap, v => ∃ vs : List Value, v = .func (.func f) #[] vs.toArray ∧ LRel C w false cap vs
  | .yl b, v => ∃ rb, C.φ b = some rb ∧ v = .func (.yield rb) #[] #[]
  | .mp b, v => ∃ rb, C.φ b = some rb ∧ v = .map (some rb)
def LRel (C : Ctx) (w : World) (one : Bool) : List AV → List Value → Prop
  | [], vs => vs = []
  | x :: xs, vs => ∃ v r, vs = v :: r ∧ (one = true → v.oneCell' = true) ∧ VRel C w x v ∧ LRel C w one xs r
end

/-- What lies about the heap. -/
def envOf (w : World) := (w.os, w.tape, w.output)
/-- From one world to a later one. -/
structure Step (C : Ctx) (w : World) (C' : Ctx) (w' : World) : Prop where
  φ : ∀ b rb, C.φ b = some rb → C'.φ b = some rb
  φnew : ∀ b rb, C'.φ b = some rb → C.φ b = some rb ∨ w.heap.size ≤ rb ∨ ∃ i, C.φ i = some rb
  imm : ∀ b, C.imm b → C'.imm b
  immnew : ∀ b, C'.imm b → C.imm b ∨ w.heap.size ≤ b ∨ ∃ i, C.φ i = some b
  size : w.heap.size ≤ w'.heap.size
  keep : ∀ b, b < w.heap.size → (∀ i, C.φ i ≠ some b) → w'.heap[b]? = w.heap[b]?
  immkeep : ∀ b, C.imm b → w'.heap[b]? = w.heap[b]?
  sizes : ∀ (b : Nat) (c : Array Value) (T : TypeId) (f : Nat × Nat), w.heap[b]? = some (Obj.cells c T f) → ∃ c' : Array Value, w'.heap[b]? = some (Obj.cells c' T f) ∧ c'.size = c.size
  env : envOf w' = envOf w

theorem Step.refl (C : Ctx) (w : World) : Step C w C w :=
  ⟨fun _ _ h => h, fun _ _ h => .inl h, fun _ h => h, fun _ h => .inl h, Nat.le_refl _, fun _ _ _ => rfl, fun _ _ => rfl, fun _ c _ _ h => ⟨c, h, rfl⟩, rfl⟩

theorem Step.trans {C C' C'' : Ctx} {w w' w'' : World} (h : Step C w C' w') (g : Step C' w' C'' w'') : Step C w C'' w'' where
  φ b rb e := g.φ b rb (h.φ b rb e)
  φnew b rb e := by
    rcases g.φnew b rb e with e | e | ⟨i, e⟩
    · exact h.φnew b rb e
    · exact .inr (.inl (Nat.le_trans h.size e))
    · rcases h.φnew i rb e with e | e | e
      · exact .inr (.inr ⟨i, e⟩)
      · exact .inr (.inl e)
      · exact .inr (.inr e)
  imm b e := g.imm b (h.imm b e)
  immnew b e := by
    rcases g.immnew b e with e | e | ⟨i, e⟩
    · exact h.immnew b e
    · exact .inr (.inl (Nat.le_trans h.size e))
    · rcases h.φnew i b e with e | e | e
      · exact .inr (.inr ⟨i, e⟩)
      · exact .inr (.inl e)
      · exact .inr (.inr e)
  size := Nat.le_trans h.size g.size
  keep b hb hn := by
    rw [g.keep b (Nat.lt_of_lt_of_le hb h.size) ?_, h.keep b hb hn]
    intro i e
    rcases h.φnew i b e with e | e | ⟨j, e⟩
    · exact hn i e
    · omega
    · exact hn j e
  immkeep b e := by rw [g.immkeep b (h.imm b e), h.immkeep b e]
  sizes b c T f e := by
    obtain ⟨c', e', s'⟩ := h.sizes b c T f e
    obtain ⟨c'', e'', s''⟩ := g.sizes b c' T f e'
    exact ⟨c'', e'', by omega⟩
  env := g.env.trans h.env

/-- What is asked for values to stay. -/
structure Mono (C : Ctx) (w : World) (C' : Ctx) (w' : World) : Prop where
  φ : ∀ b rb, C.φ b = some rb → C'.φ b = some rb
  imm : ∀ b, C.imm b → C'.imm b
  immkeep : ∀ b, C.imm b → w'.heap[b]? = w.heap[b]?
  sizes : ∀ (b : Nat) (c : Array Value) (T : TypeId) (f : Nat × Nat), w.heap[b]? = some (Obj.cells c T f) → ∃ c' : Array Value, w'.heap[b]? = some (Obj.cells c' T f) ∧ c'.size = c.size
theorem Step.mono {C C' : Ctx} {w w' : World} (h : Step C w C' w') : Mono C w C' w' := ⟨h.φ, h.imm, h.immkeep, h.sizes⟩
theorem Mono.pure {C C' : Ctx} {w w' : World} (h : Mono C w C' w') : Mono C.pure w C'.pure w' := ⟨fun _ _ e => (by cases e), h.imm, h.immkeep, h.sizes⟩
theorem Mono.unpure (C : Ctx) (w : World) : Mono C.pure w C w := ⟨fun _ _ e => (by cases e), fun _ h => h, fun _ _ => rfl, fun _ c _ _ e => ⟨c, e, rfl⟩⟩

theorem Reach.step {C C' : Ctx} {w w' : World} (h : Mono C w C' w') {b n : Nat} (r : Reach w b n) : Reach w' b n := by
  obtain ⟨c, T, f, e, l⟩ := r
  obtain ⟨c', e', s⟩ := h.sizes b c T f e
  exact ⟨c', T, f, e', by omega⟩

theorem CellsAt.step {C C' : Ctx} {w w' : World} (h : Mono C w C' w') {b o : Nat} {vs : List Value} (hb : C.imm b) (r : CellsAt w b o vs) : CellsAt w' b o vs := by
  intro i v e
  have := r i v e
  unfold World.cell? at *
  simpa only [h.immkeep b hb] using this

mutual
theorem VRel.mono {C C' : Ctx} {w w' : World} (h : Mono C w C' w') : ∀ (x : AV) (v : Value), VRel C w x v → VRel C' w' x v
  | .top, _, _ => by simp only [VRel]
  | .i n, v, r => by simpa only [VRel] using r
  | .y n, v, r => by simpa only [VRel] using r
  | .b n, v, r => by simpa only [VRel] using r
  | .st n, v, r => by simpa only [VRel] using r
  | .sc n, v, r => by simpa only [VRel] using r
  | .nl, v, r => by simpa only [VRel] using r
  | .sl n cs, v, r => by
    simp only [VRel] at *
    obtain ⟨a, c, e, l, k⟩ := r
    refine ⟨a, c, e, l, ?_⟩
    rcases k with k | ⟨ad, vs, e1, e2, e3, e4, e5⟩
    · exact .inl k
    · exact .inr ⟨ad, vs, e1, e2, h.imm _ e3, LRel.mono h.pure true cs vs e4, e5.step h e3⟩
  | .rf b z off n, v, r => by
    simp only [VRel] at *
    obtain ⟨a, c, e, l, k⟩ := r
    refine ⟨a, c, e, l, ?_⟩
    rcases k with k | ⟨rb, e1, e2, e3⟩
    · exact .inl k
    · exact .inr ⟨rb, h.φ _ _ e1, e2, e3.step h⟩
  | .pt b off, v, r => by
    simp only [VRel] at *
    obtain ⟨rb, e1, e2⟩ := r
    exact ⟨rb, h.φ _ _ e1, e2⟩
  | .ip cs, v, r => by
    simp only [VRel] at *
    obtain ⟨ad, vs, e1, e2, e3, e4, e5⟩ := r
    exact ⟨ad, vs, e1, e2, h.imm _ e3, LRel.mono h.pure true cs vs e4, e5.step h e3⟩
  | .ag xs, v, r => by
    simp only [VRel] at *
    obtain ⟨vs, e1, e2⟩ := r
    exact ⟨vs, e1, LRel.mono h true xs vs e2⟩
  | .tu xs, v, r => by
    simp only [VRel] at *
    obtain ⟨vs, e1, e2⟩ := r
    exact ⟨vs, e1, LRel.mono h false xs vs e2⟩
  | .fn f xs, v, r => by
    simp only [VRel] at *
    obtain ⟨vs, e1, e2⟩ := r
    exact ⟨vs, e1, LRel.mono h false xs vs e2⟩
  | .yl b, v, r => by
    simp only [VRel] at *
    obtain ⟨rb, e1, e2⟩ := r
    exact ⟨rb, h.φ _ _ e1, e2⟩
  | .mp b, v, r => by
    simp only [VRel] at *
    obtain ⟨rb, e1, e2⟩ := r
    exact ⟨rb, h.φ _ _ e1, e2⟩
theorem LRel.mono {C C' : Ctx} {w w' : World} (h : Mono C w C' w') (one : Bool) : ∀ (xs : List AV) (vs : List Value), LRel C w one xs vs → LRel C' w' one xs vs
  | [], vs, r => by simpa only [LRel] using r
  | x :: xs, vs, r => by
    simp only [LRel] at *
    obtain ⟨v, r', e, o, e1, e2⟩ := r
    exact ⟨v, r', e, o, VRel.mono h x v e1, LRel.mono h one xs r' e2⟩
end

theorem VRel.step {C C' : Ctx} {w w' : World} {x : AV} {v : Value} (r : VRel C w x v) (h : Step C w C' w') : VRel C' w' x v := VRel.mono h.mono x v r
theorem LRel.step {C C' : Ctx} {w w' : World} {one : Bool} {xs : List AV} {vs : List Value} (r : LRel C w one xs vs) (h : Step C w C' w') : LRel C' w' one xs vs := LRel.mono h.mono one xs vs r
theorem LRel.unpure {C : Ctx} {w : World} {one : Bool} {xs : List AV} {vs : List Value} (r : LRel C.pure w one xs vs) : LRel C w one xs vs := LRel.mono (Mono.unpure C w) one xs vs r

/-! ### Lists of cells -/
section
variable {C : Ctx} {w : World} {one : Bool}
theorem LRel.length : ∀ {xs : List AV} {vs : List Value}, LRel C w one xs vs → xs.length = vs.length
  | [], vs, h => by simp only [LRel] at h; simp [h]
  | x :: xs, vs, h => by
    simp only [LRel] at h
    obtain ⟨v, r, rfl, _, _, h⟩ := h
    simp [h.length]
theorem LRel.nil : LRel C w one [] [] := by simp only [LRel]
theorem LRel.cons {x : AV} {v : Value} {xs : List AV} {vs : List Value} (o : one = true → v.oneCell' = true) (h : VRel C w x v) (t : LRel C w one xs vs) : LRel C w one (x :: xs) (v :: vs) := by
  simp only [LRel]; exact ⟨v, vs, rfl, o, h, t⟩
theorem LRel.append : ∀ {xs ys : List AV} {vs us : List Value}, LRel C w one xs vs → LRel C w one ys us → LRel C w one (xs ++ ys) (vs ++ us)
  | [], ys, vs, us, h, g => by simp only [LRel] at h; subst h; exact g
  | x :: xs, ys, vs, us, h, g => by
    simp only [LRel] at h
    obtain ⟨v, r, rfl, o, h1, h⟩ := h
    exact LRel.cons o h1 (h.append g)
theorem LRel.take : ∀ {xs : List AV} {vs : List Value} (n : Nat), LRel C w one xs vs → LRel C w one (xs.take n) (vs.take n)
  | [], vs, n, h => by simp only [LRel] at h; subst h; simpa using LRel.nil
  | x :: xs, vs, 0, h => by simpa using LRel.nil
  | x :: xs, vs, n + 1, h => by
    simp only [LRel] at h
    obtain ⟨v, r, rfl, o, h1, h⟩ := h
    exact LRel.cons o h1 (h.take n)
theorem LRel.drop : ∀ {xs : List AV} {vs : List Value} (n : Nat), LRel C w one xs vs → LRel C w one (xs.drop n) (vs.drop n)
  | [], vs, n, h => by simp only [LRel] at h; subst h; simpa using LRel.nil
  | x :: xs, vs, 0, h => h
  | x :: xs, vs, n + 1, h => by
    simp only [LRel] at h
    obtain ⟨v, r, rfl, o, h1, h⟩ := h
    exact h.drop n
theorem LRel.get : ∀ {xs : List AV} {vs : List Value} {i : Nat} {x : AV}, LRel C w one xs vs → xs[i]? = some x → ∃ v, vs[i]? = some v ∧ VRel C w x v ∧ (one = true → v.oneCell' = true)
  | [], vs, i, x, h, e => by simp at e
  | y :: xs, vs, 0, x, h, e => by
    simp only [LRel] at h
    obtain ⟨v, r, rfl, o, h1, h⟩ := h
    simp at e; subst e
    exact ⟨v, rfl, h1, o⟩
  | y :: xs, vs, i + 1, x, h, e => by
    simp only [LRel] at h
    obtain ⟨v, r, rfl, o, h1, h⟩ := h
    simpa using h.get (i := i) (by simpa using e)
theorem LRel.weak : ∀ {xs : List AV} {vs : List Value}, LRel C w true xs vs → LRel C w one xs vs
  | [], vs, h => by simpa only [LRel] using h
  | x :: xs, vs, h => by
    simp only [LRel] at h
    obtain ⟨v, r, rfl, o, h1, h⟩ := h
    exact LRel.cons (fun _ => o trivial) h1 h.weak
theorem LRel.one1 {x : AV} {vs : List Value} (h : LRel C w one [x] vs) : ∃ v, vs = [v] ∧ VRel C w x v ∧ (one = true → v.oneCell' = true) := by
  simp only [LRel] at h
  obtain ⟨v, r, rfl, o, h1, rfl⟩ := h
  exact ⟨v, rfl, h1, o⟩
theorem LRel.cells : ∀ {xs : List AV} {vs : List Value}, LRel C w true xs vs → ∀ v ∈ vs, v.oneCell' = true
  | [], vs, h => by simp only [LRel] at h; subst h; simp
  | x :: xs, vs, h => by
    simp only [LRel] at h
    obtain ⟨v, r, rfl, o, h1, h⟩ := h
    intro u hu
    rcases List.mem_cons.1 hu with rfl | hu
    · exact o trivial
    · exact h.cells u hu
theorem LRel.over {xs ys : List AV} {vs us : List Value} (off : Nat) (h : LRel C w one xs vs) (g : LRel C w one ys us) :
    LRel C w one (over xs off ys) (vs.take off ++ us ++ vs.drop (off + us.length)) := by
  unfold Ab.over
  rw [g.length]
  exact ((h.take off).append g).append (h.drop _)
end

theorem CellsAt.take {w : World} {b o : Nat} {vs : List Value} (n : Nat) (h : CellsAt w b o vs) : CellsAt w b o (vs.take n) := by
  intro i v e
  rw [List.getElem?_take] at e
  split at e
  · exact h i v e
  · cases e
theorem CellsAt.drop {w : World} {b o : Nat} {vs : List Value} (n : Nat) (h : CellsAt w b o vs) : CellsAt w b (o + n) (vs.drop n) := by
  intro i v e
  rw [List.getElem?_drop] at e
  rw [Nat.add_assoc]
  exact h (n + i) v e

end Go.Proofs.Ytadipihpgcelmaa.Ab
