/- The heap: what its operations do, what it says of the machine's memory, and how memory is read and written. -/
import Derived.Test.YtadipihpgcelmaaAbsB
namespace Go.Proofs.Ytadipihpgcelmaa.Ab
open Go
set_option linter.unusedVariables false
set_option linter.unusedSimpArgs false

/-! ### Look-ups -/
theorem nbeq (a b : Nat) : Nat.beq a b = decide (a = b) := by
  by_cases h : a = b
  · simp [h]
  · rw [decide_eq_false h]
    have := Nat.beq_eq_true_eq a b
    cases e : Nat.beq a b
    · rfl
    · exact absurd (Nat.eq_of_beq_eq_true e) h
theorem Tm.get_set (T : Tm) (i j : Nat) (v : AV) : (T.set i v).get j = if i = j then v else T.get j := by
  induction T with
  | nil =>
    simp only [Tm.set, Tm.get, nbeq]
    by_cases h : i = j <;> simp [h]
  | cons p T ih =>
    obtain ⟨k, u⟩ := p
    simp only [Tm.set, nbeq]
    by_cases h : k = i
    · subst h
      simp only [decide_true, cond_true, Tm.get, nbeq]
      by_cases h : k = j <;> simp [h]
    · simp only [h, decide_false, cond_false, Tm.get, nbeq]
      by_cases h2 : k = j
      · subst h2
        have : i ≠ k := fun e => h e.symm
        simp [this]
      · simp only [h2, decide_false, cond_false, ih]
theorem AH.look_put (l : List (Nat × AObj)) (i j : Nat) (o : AObj) : AH.look (AH.putL l i o) j = if i = j then live o else AH.look l j := by
  induction l with
  | nil =>
    simp only [AH.putL, AH.look, nbeq]
    by_cases h : i = j <;> simp [h]
  | cons p l ih =>
    obtain ⟨k, u⟩ := p
    simp only [AH.putL, nbeq]
    by_cases h : k = i
    · subst h
      simp only [decide_true, cond_true, AH.look, nbeq]
      by_cases h : k = j <;> simp [h]
    · simp only [h, decide_false, cond_false, AH.look, nbeq]
      by_cases h2 : k = j
      · subst h2
        have : i ≠ k := fun e => h e.symm
        simp [this]
      · simp only [h2, decide_false, cond_false, ih]
theorem AH.get_put (h : AH) (i j : Nat) (o : AObj) : (h.put i o).get j = if i = j then live o else h.get j := AH.look_put h.l i j o
theorem AH.get_new (h : AH) (j : Nat) (o : AObj) : (h.new o).get j = if h.nx = j then live o else h.get j := by
  simp only [AH.new, AH.get, AH.look, nbeq]
  by_cases e : h.nx = j
  · simp [e]
  · simp [e]
theorem AH.get_kill (h : AH) (i j : Nat) : (h.kill i).get j = if i = j then none else h.get j := by
  rw [AH.kill, AH.get_put]; rfl
@[simp] theorem AH.nx_put (h : AH) (i : Nat) (o : AObj) : (h.put i o).nx = h.nx := rfl
@[simp] theorem AH.nx_new (h : AH) (o : AObj) : (h.new o).nx = h.nx + 1 := rfl
@[simp] theorem AH.nx_kill (h : AH) (i : Nat) : (h.kill i).nx = h.nx := rfl
@[simp] theorem AH.get_empty (i : Nat) : AH.empty.get i = none := rfl

/-! ### What a block says -/
def ERel (C : Ctx) (w : World) : List (AV × AV) → List MapEntry → Prop
  | [], es => es = []
  | (k, v) :: r, es => ∃ (e : MapEntry) (es' : List MapEntry), es = e :: es' ∧ VRel C w k e.key ∧ VRel C w v e.val ∧ ERel C w r es'
def TmRel (C : Ctx) (w : World) (T : Tm) (tmps : Array Value) : Prop := ∀ i, VRel C w (T.get i) (tmps.getD i undef)
def ORel (C : Ctx) (w : World) (rb : Nat) : AObj → Prop
  | .dead => False
  | .cells cs => ∃ (vs rest : List Value) (T : TypeId), w.heap[rb]? = some (Obj.cells (vs ++ rest).toArray T (0, 0)) ∧ LRel C w true cs vs
  | .ro cs => ∃ vs, CellsAt w rb 0 vs ∧ LRel C w true cs vs
  | .map es => ∃ (ms : Array MapEntry) (clock : Nat), w.heap[rb]? = some (Obj.map ms clock) ∧ ERel C w es ms.toList
  | .loop s p T n ps a b => ∃ l : Loop, w.heap[rb]? = some (Obj.loop l) ∧ l.state = s ∧ l.pending = p ∧ l.params.toList = ps ∧ l.assign = a ∧ l.body = b ∧ l.tmps.size = n ∧ TmRel C w T l.tmps
/-- Is it one that nobody writes? -/
def isRo : AObj → Bool
  | .ro _ => true
  | _ => false
def isNone : AObj → Bool
  | .cells [] => true
  | .ro [] => true
  | _ => false
/-- What a view of the heap says of the machine's. -/
structure Sim (C : Ctx) (K : Nat → Option AObj) (w : World) : Prop where
  at_ : ∀ b o, K b = some o → (C.φ b = none ∧ isNone o = true) ∨ ∃ rb, C.φ b = some rb ∧ ORel C w rb o ∧ (isRo o = true ↔ C.imm rb)
  inj : ∀ b b' o o' rb, K b = some o → K b' = some o' → isRo o = false → C.φ b = some rb → C.φ b' = some rb → b = b'
  φlt : ∀ b rb, C.φ b = some rb → rb < w.heap.size
  immlt : ∀ b, C.imm b → b < w.heap.size

theorem Sim.congr {C : Ctx} {K K' : Nat → Option AObj} {w : World} (s : Sim C K w) (h : ∀ b, K' b = K b) : Sim C K' w := by
  have : K' = K := funext h
  rw [this]; exact s

theorem ERel.step {C C' : Ctx} {w w' : World} : ∀ {es : List (AV × AV)} {ms : List MapEntry}, ERel C w es ms → Step C w C' w' → ERel C' w' es ms
  | [], _, r, h => r
  | (k, v) :: es, ms, r, h => by
    obtain ⟨e, es', rfl, h1, h2, h3⟩ := r
    exact ⟨e, es', rfl, h1.step h, h2.step h, h3.step h⟩
theorem TmRel.step {C C' : Ctx} {w w' : World} {T : Tm} {tmps : Array Value} (r : TmRel C w T tmps) (h : Step C w C' w') : TmRel C' w' T tmps :=
  fun i => (r i).step h
/-- A block that was not written says the same. -/
theorem ORel.step' {C C' : Ctx} {w w' : World} (h : Step C w C' w') {rb : Nat} (e : w'.heap[rb]? = w.heap[rb]?) : ∀ {o : AObj}, ORel C w rb o → ORel C' w' rb o
  | .dead, r => r
  | .cells cs, ⟨vs, rest, T, h1, h2⟩ => ⟨vs, rest, T, by rw [e, h1], h2.step h⟩
  | .ro cs, ⟨vs, h1, h2⟩ => ⟨vs, fun i v hv => by have := h1 i v hv; unfold World.cell? at *; simpa only [e] using this, h2.step h⟩
  | .map es, ⟨ms, cl, h1, h2⟩ => ⟨ms, cl, by rw [e, h1], h2.step h⟩
  | .loop s p T n ps a b, ⟨l, h1, h2, h3, h4, h5, h6, h7, h8⟩ => ⟨l, by rw [e, h1], h2, h3, h4, h5, h6, h7, h8.step h⟩

theorem ORel.step {C C' : Ctx} {w w' : World} {rb : Nat} {o : AObj} (r : ORel C w rb o) (h : Step C w C' w') (e : w'.heap[rb]? = w.heap[rb]?) : ORel C' w' rb o := ORel.step' h e r
theorem live_some {o : AObj} {o' : AObj} (h : live o = some o') : o = o' ∧ o ≠ .dead := by
  cases o <;> simp [live] at h <;> exact ⟨h, by simp⟩

/-! ### Reading and writing memory -/
section
variable (P : Program) (w : World)

theorem run_loadCellsFrom (a : Addr) (ha : a.spot = none) : ∀ (vs : List Value) (i : Nat) (acc : Array Value), CellsAt w a.block (a.off + i) vs →
    (loadCellsFrom a i vs.length acc).run P w = .ok (acc ++ vs.toArray) w
  | [], i, acc, h => by simp [loadCellsFrom]
  | v :: vs, i, acc, h => by
    have h0 : w.cell? (a.add i) = some v := by
      have := h 0 v rfl
      unfold Addr.add
      split
      · subst i; simpa [ha] using (by cases a; simp_all : w.cell? a = some v)
      · simpa using this
    have h1 : CellsAt w a.block (a.off + (i + 1)) vs := by
      intro j u e
      have := h (j + 1) u (by simpa using e)
      rw [show a.off + i + (j + 1) = a.off + (i + 1) + j by omega] at this
      exact this
    simp only [List.length_cons, loadCellsFrom, Sem.run_bind, run_load, h0, Result.andThen_ok]
    rw [run_loadCellsFrom a ha vs (i + 1) _ h1]
    simp
theorem run_loadCells (a : Addr) (ha : a.spot = none) (vs : List Value) (h : CellsAt w a.block a.off vs) : (loadCells a vs.length).run P w = .ok vs.toArray w := by
  have := run_loadCellsFrom P w a ha vs 0 #[] (by simpa using h)
  simpa [loadCells] using this

/-- The world with a block's cells put anew. -/
def setBlock (w : World) (b : Nat) (o : Obj) : World := { w with heap := w.heap.setIfInBounds b o }
theorem setBlock_size (b : Nat) (o : Obj) : (setBlock w b o).heap.size = w.heap.size := by simp [setBlock]
theorem setBlock_get (b : Nat) (o : Obj) (j : Nat) : (setBlock w b o).heap[j]? = if b = j ∧ b < w.heap.size then some o else w.heap[j]? := by
  simp only [setBlock, Array.getElem?_setIfInBounds]
  by_cases h : b = j
  · subst h
    by_cases h2 : b < w.heap.size
    · simp [h2]
    · simp [h2]
  · simp [h]
theorem setBlock_self (b : Nat) (o : Obj) (h : w.heap[b]? = some o) : setBlock w b o = w := by
  have : w.heap.setIfInBounds b o = w.heap := by
    apply Array.ext_getElem?
    intro j
    rw [Array.getElem?_setIfInBounds]
    by_cases e : b = j
    · subst e
      have hlt : b < w.heap.size := by
        rcases Nat.lt_or_ge b w.heap.size with g | g
        · exact g
        · rw [Array.getElem?_eq_none g] at h; cases h
      rw [if_pos rfl, if_pos hlt, h]
    · simp [e]
  simp [setBlock, this]
theorem setBlock_setBlock (b : Nat) (o o' : Obj) : setBlock (setBlock w b o) b o' = setBlock w b o' := by
  simp [setBlock]
theorem setCell_block (b off : Nat) (v : Value) (c : Array Value) (T : TypeId) (f : Nat × Nat) (h : w.heap[b]? = some (Obj.cells c T f)) :
    w.setCell ⟨b, off, none⟩ v = setBlock w b (Obj.cells (c.setIfInBounds off v) T f) := by
  unfold World.setCell setBlock
  congr 1
  apply Array.ext_getElem?
  intro j
  rw [Array.getElem?_modify, Array.getElem?_setIfInBounds]
  by_cases e : b = j
  · subst e
    have hlt : b < w.heap.size := by
      rcases Nat.lt_or_ge b w.heap.size with g | g
      · exact g
      · rw [Array.getElem?_eq_none g] at h; cases h
    rw [if_pos rfl, if_pos rfl, if_pos hlt, h]; rfl
  · simp [e]

theorem lt_of_some {b : Nat} {o : Obj} (h : w.heap[b]? = some o) : b < w.heap.size := by
  rcases Nat.lt_or_ge b w.heap.size with g | g
  · exact g
  · rw [Array.getElem?_eq_none g] at h; cases h

theorem cell?_of {b off : Nat} {c : Array Value} {T : TypeId} {f : Nat × Nat} (h : w.heap[b]? = some (Obj.cells c T f)) : w.cell? ⟨b, off, none⟩ = c[off]? := by
  simp [World.cell?, h]

theorem splice_cons {α : Type} {l : List α} {k : Nat} {u : α} {us : List α} (h : k < l.length) :
    (l.set k u).take (k + 1) ++ us ++ (l.set k u).drop (k + 1 + us.length) = l.take k ++ (u :: us) ++ l.drop (k + (u :: us).length) := by
  have e1 : (l.set k u).take (k + 1) = l.take k ++ [u] := by
    rw [List.set_eq_take_append_cons_drop, if_pos h]
    rw [List.take_append]
    simp [List.length_take, Nat.min_eq_left (Nat.le_of_lt h), List.take_take, Nat.min_eq_right (Nat.le_succ k)]
  have e2 : (l.set k u).drop (k + 1 + us.length) = l.drop (k + (u :: us).length) := by
    rw [List.drop_set_of_lt (by omega)]
    congr 1
    simp
    omega
  rw [e1, e2]
  simp
/-- Cells stored one behind the other into a block that is not frozen. -/
theorem run_storeCells (b : Nat) : ∀ (us : List Value) (w : World) (off i : Nat) (c : Array Value) (T : TypeId), (∀ u ∈ us, u.oneCell' = true) →
    w.heap[b]? = some (Obj.cells c T (0, 0)) → off + i + us.length ≤ c.size →
    (storeCells ⟨b, off, none⟩ us i).run P w = .ok () (setBlock w b (Obj.cells (c.toList.take (off + i) ++ us ++ c.toList.drop (off + i + us.length)).toArray T (0, 0)))
  | [], w, off, i, c, T, h1, h2, h3 => by
    have : (List.take (off + i) c.toList ++ ([] : List Value) ++ List.drop (off + i + ([] : List Value).length) c.toList).toArray = c := by
      simp [List.take_append_drop]
    rw [this, setBlock_self w b _ h2]
    simp [storeCells]
  | u :: us, w, off, i, c, T, h1, h2, h3 => by
    have hadd : (⟨b, off, none⟩ : Addr).add i = ⟨b, off + i, none⟩ := by
      unfold Addr.add; split
      · simp_all
      · rfl
    have hlt : off + i < c.size := by simp at h3; omega
    have hc : w.cell? ⟨b, off + i, none⟩ = some c[off + i] := by rw [cell?_of w h2]; simp [hlt]
    have hf : w.frozen? ⟨b, off + i, none⟩ = false := by simp [World.frozen?, h2]
    simp only [storeCells, Sem.run_bind, hadd]
    rw [run_store P w _ u .plain (h1 u (by simp)), hc]
    simp only [hf, Bool.false_eq_true, if_false, Result.andThen_ok]
    rw [setCell_block w b (off + i) u c T (0, 0) h2]
    have h2' : (setBlock w b (Obj.cells (c.setIfInBounds (off + i) u) T (0, 0))).heap[b]? = some (Obj.cells (c.setIfInBounds (off + i) u) T (0, 0)) := by
      rw [setBlock_get]; simp [lt_of_some w h2]
    rw [run_storeCells b us _ off (i + 1) (c.setIfInBounds (off + i) u) T (fun v hv => h1 v (by simp [hv])) h2' (by simp at h3 ⊢; omega), setBlock_setBlock]
    congr 3
    have e1 : (c.setIfInBounds (off + i) u).toList = c.toList.set (off + i) u := by simp
    rw [e1]
    have hl : off + i < c.toList.length := by simpa using hlt
    exact congrArg List.toArray (splice_cons hl)
end
end Go.Proofs.Ytadipihpgcelmaa.Ab
