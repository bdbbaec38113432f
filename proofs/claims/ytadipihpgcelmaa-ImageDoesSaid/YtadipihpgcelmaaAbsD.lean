/- New blocks, written blocks, and what the types' table says. -/
import Derived.Test.YtadipihpgcelmaaAbsC
namespace Go.Proofs.Ytadipihpgcelmaa.Ab
open Go
set_option linter.unusedVariables false
set_option linter.unusedSimpArgs false

theorem Step.heap {C : Ctx} {w w' : World} (h : w'.heap = w.heap) (he : envOf w' = envOf w) : Step C w C w' :=
  ⟨fun _ _ h => h, fun _ _ h => .inl h, fun _ h => h, fun _ h => .inl h, by rw [h]; exact Nat.le_refl _, fun _ _ _ => by rw [h], fun _ _ => by rw [h], fun _ c _ _ e => ⟨c, by rw [h]; exact e, rfl⟩, he⟩

theorem Sim.heap {C : Ctx} {K : Nat → Option AObj} {w w' : World} (h : w'.heap = w.heap) (he : envOf w' = envOf w) (s : Sim C K w) : Sim C K w' where
  at_ b o e := by
    rcases s.at_ b o e with g | ⟨rb, g1, g2, g3⟩
    · exact .inl g
    · exact .inr ⟨rb, g1, g2.step (Step.heap h he) (by rw [h]), g3⟩
  inj := s.inj
  φlt b rb e := by rw [h]; exact s.φlt b rb e
  immlt b e := by rw [h]; exact s.immlt b e

/-- The world with a block more. -/
def wnew (w : World) (ob : Obj) : World := { w with heap := w.heap.push ob }
theorem wnew_size (w : World) (ob : Obj) : (wnew w ob).heap.size = w.heap.size + 1 := by simp [wnew]
theorem wnew_old (w : World) (ob : Obj) (b : Nat) (h : b < w.heap.size) : (wnew w ob).heap[b]? = w.heap[b]? := by
  simp [wnew, Array.getElem?_push, Nat.ne_of_lt h]
theorem wnew_at (w : World) (ob : Obj) : (wnew w ob).heap[w.heap.size]? = some ob := by simp [wnew]

def Ctx.with (C : Ctx) (n rb : Nat) : Ctx := { C with φ := fun b => if b = n then some rb else C.φ b }
theorem Ctx.with_at (C : Ctx) (n rb : Nat) : (C.with n rb).φ n = some rb := by simp [Ctx.with]

theorem step_new {C : Ctx} {K : Nat → Option AObj} {w : World} (s : Sim C K w) {n : Nat} (hn : C.φ n = none) (ob : Obj) : Step C w (C.with n w.heap.size) (wnew w ob) where
  φ b rb e := by
    have : b ≠ n := fun h => by rw [h, hn] at e; cases e
    simp [Ctx.with, this, e]
  φnew b rb e := by
    simp only [Ctx.with] at e
    split at e
    · injection e with e; exact .inr (.inl (by omega))
    · exact .inl e
  imm _ h := h
  immnew _ h := .inl h
  size := by rw [wnew_size]; omega
  keep b hb _ := wnew_old w ob b hb
  immkeep b hb := wnew_old w ob b (s.immlt b hb)
  sizes b c T f e := ⟨c, by rw [wnew_old w ob b (lt_of_some w e)]; exact e, rfl⟩
  env := rfl
/-- A new block that the heap says nothing of. -/
theorem step_waste {C : Ctx} {K : Nat → Option AObj} {w : World} (s : Sim C K w) (ob : Obj) : Step C w C (wnew w ob) where
  φ _ _ h := h
  φnew _ _ h := .inl h
  imm _ h := h
  immnew _ h := .inl h
  size := by rw [wnew_size]; omega
  keep b hb _ := wnew_old w ob b hb
  immkeep b hb := wnew_old w ob b (s.immlt b hb)
  sizes b c T f e := ⟨c, by rw [wnew_old w ob b (lt_of_some w e)]; exact e, rfl⟩
  env := rfl
theorem sim_waste {C : Ctx} {K : Nat → Option AObj} {w : World} (s : Sim C K w) (ob : Obj) : Sim C K (wnew w ob) where
  at_ b o e := by
    rcases s.at_ b o e with g | ⟨rb, g1, g2, g3⟩
    · exact .inl g
    · exact .inr ⟨rb, g1, g2.step (step_waste s ob) (wnew_old w ob rb (s.φlt b rb g1)), g3⟩
  inj := s.inj
  φlt b rb e := by rw [wnew_size]; exact Nat.lt_succ_of_lt (s.φlt b rb e)
  immlt b e := by rw [wnew_size]; exact Nat.lt_succ_of_lt (s.immlt b e)

def updK (K : Nat → Option AObj) (n : Nat) (o : Option AObj) : Nat → Option AObj := fun b => if b = n then o else K b

theorem sim_new {C : Ctx} {K : Nat → Option AObj} {w : World} (s : Sim C K w) {n : Nat} (hn : C.φ n = none) {ob : Obj} {o : AObj} (ho : isRo o = false)
    (hR : ORel (C.with n w.heap.size) (wnew w ob) w.heap.size o) : Sim (C.with n w.heap.size) (updK K n (some o)) (wnew w ob) where
  at_ b o' e := by
    unfold updK at e
    split at e
    · rename_i h; subst h
      injection e with e; subst e
      refine .inr ⟨w.heap.size, Ctx.with_at C b _, hR, ?_⟩
      rw [ho]
      exact ⟨fun h => (by cases h), fun h => absurd (s.immlt _ h) (Nat.lt_irrefl _)⟩
    · rename_i h
      rcases s.at_ b o' e with ⟨g, g'⟩ | ⟨rb, g1, g2, g3⟩
      · exact .inl ⟨by simp [Ctx.with, h, g], g'⟩
      · exact .inr ⟨rb, by simp [Ctx.with, h, g1], g2.step (step_new s hn ob) (wnew_old w ob rb (s.φlt b rb g1)), g3⟩
  inj b b' o1 o2 rb e1 e2 hro f1 f2 := by
    unfold updK at e1 e2
    simp only [Ctx.with] at f1 f2
    by_cases h1 : b = n <;> by_cases h2 : b' = n
    · rw [h1, h2]
    · rw [if_pos h1] at f1; rw [if_neg h2] at f2
      injection f1 with f1; have := s.φlt b' rb f2; omega
    · rw [if_neg h1] at f1; rw [if_pos h2] at f2
      injection f2 with f2; have := s.φlt b rb f1; omega
    · rw [if_neg h1] at f1 e1; rw [if_neg h2] at f2 e2
      exact s.inj b b' o1 o2 rb e1 e2 hro f1 f2
  φlt b rb e := by
    rw [wnew_size]
    simp only [Ctx.with] at e
    split at e
    · injection e with e; omega
    · exact Nat.lt_succ_of_lt (s.φlt b rb e)
  immlt b e := by rw [wnew_size]; exact Nat.lt_succ_of_lt (s.immlt b e)

/-- A block with nothing in it, that is nowhere. -/
theorem sim_nowhere {C : Ctx} {K : Nat → Option AObj} {w : World} (s : Sim C K w) {n : Nat} (hn : C.φ n = none) : Sim C (updK K n (some (.cells []))) w where
  at_ b o' e := by
    unfold updK at e
    split at e
    · rename_i h; subst h
      injection e with e; subst e
      exact .inl ⟨hn, rfl⟩
    · exact s.at_ b o' e
  inj b b' o1 o2 rb e1 e2 hro f1 f2 := by
    unfold updK at e1 e2
    by_cases h1 : b = n
    · rw [h1, hn] at f1; cases f1
    · by_cases h2 : b' = n
      · rw [h2, hn] at f2; cases f2
      · rw [if_neg h1] at e1; rw [if_neg h2] at e2
        exact s.inj b b' o1 o2 rb e1 e2 hro f1 f2
  φlt := s.φlt
  immlt := s.immlt
theorem sim_drop {C : Ctx} {K : Nat → Option AObj} {w : World} (s : Sim C K w) (n : Nat) : Sim C (updK K n none) w where
  at_ b o' e := by
    unfold updK at e
    split at e
    · cases e
    · exact s.at_ b o' e
  inj b b' o1 o2 rb e1 e2 hro f1 f2 := by
    unfold updK at e1 e2
    split at e1
    · cases e1
    · split at e2
      · cases e2
      · exact s.inj b b' o1 o2 rb e1 e2 hro f1 f2
  φlt := s.φlt
  immlt := s.immlt

/-- A block written: its number stays, or it goes on under a new one. -/
theorem step_put {C : Ctx} {K : Nat → Option AObj} {w : World} (s : Sim C K w) {b n rb : Nat} {cs : List AV} (hb : K b = some (.cells cs)) (hφ : C.φ b = some rb)
    (hn : n = b ∨ C.φ n = none) {c c' : Array Value} {T : TypeId} (hw : w.heap[rb]? = some (Obj.cells c T (0, 0))) (hs : c'.size = c.size) :
    Step C w (C.with n rb) (setBlock w rb (Obj.cells c' T (0, 0))) := by
  have himm : ¬ C.imm rb := by
    rcases s.at_ b _ hb with ⟨g, _⟩ | ⟨rb', g1, g2, g3⟩
    · rw [g] at hφ; cases hφ
    · rw [g1] at hφ; injection hφ with hφ; subst hφ
      exact fun h => by have := g3.2 h; simp [isRo] at this
  have hlt := lt_of_some w hw
  refine ⟨fun x r e => ?_, fun x r e => ?_, fun _ h => h, fun _ h => .inl h, by rw [setBlock_size]; exact Nat.le_refl _, fun x hx hno => ?_, fun x hx => ?_, fun x c0 T0 f0 e => ?_, rfl⟩
  · simp only [Ctx.with]
    split
    · rename_i h
      rcases hn with rfl | hn
      · subst h; rw [hφ] at e; exact e
      · rw [h, hn] at e; cases e
    · exact e
  · simp only [Ctx.with] at e
    split at e
    · injection e with e; subst e; exact .inr (.inr ⟨b, hφ⟩)
    · exact .inl e
  · rw [setBlock_get]
    have : rb ≠ x := fun h => hno b (h ▸ hφ)
    simp [this]
  · rw [setBlock_get]
    have : rb ≠ x := fun h => himm (h ▸ hx)
    simp [this]
  · rw [setBlock_get]
    by_cases h : rb = x
    · subst h
      rw [hw] at e
      injection e with e
      injection e with e1 e2 e3
      subst e1 e2 e3
      exact ⟨c', by simp [hlt], hs⟩
    · exact ⟨c0, by simp [h, e], rfl⟩
theorem sim_put {C : Ctx} {K : Nat → Option AObj} {w : World} (s : Sim C K w) {b n rb : Nat} {cs : List AV} (hb : K b = some (.cells cs)) (hφ : C.φ b = some rb)
    (hn : n = b ∨ C.φ n = none) {c c' : Array Value} {T : TypeId} (hw : w.heap[rb]? = some (Obj.cells c T (0, 0))) (hs : c'.size = c.size) {o : AObj} (ho : isRo o = false)
    (hR : ORel (C.with n rb) (setBlock w rb (Obj.cells c' T (0, 0))) rb o) :
    Sim (C.with n rb) (updK (updK K b none) n (some o)) (setBlock w rb (Obj.cells c' T (0, 0))) := by
  have hst := step_put s hb hφ hn hw hs
  have himm : ¬ C.imm rb := by
    rcases s.at_ b _ hb with ⟨g, _⟩ | ⟨rb', g1, g2, g3⟩
    · rw [g] at hφ; cases hφ
    · rw [g1] at hφ; injection hφ with hφ; subst hφ
      exact fun h => by have := g3.2 h; simp [isRo] at this
  refine ⟨fun x o' e => ?_, fun x x' o1 o2 r e1 e2 hro f1 f2 => ?_, fun x r e => ?_, fun x e => by rw [setBlock_size]; exact s.immlt x e⟩
  · unfold updK at e
    split at e
    · rename_i h; subst h
      injection e with e; subst e
      refine .inr ⟨rb, Ctx.with_at C x _, hR, ?_⟩
      rw [ho]
      exact ⟨fun h => (by cases h), fun h => absurd h himm⟩
    · rename_i h
      split at e
      · cases e
      · rename_i h'
        rcases s.at_ x o' e with ⟨g, g'⟩ | ⟨r, g1, g2, g3⟩
        · exact .inl ⟨by simp [Ctx.with, h, g], g'⟩
        · have hne : rb ≠ r := fun h0 => h' ((s.inj b x _ o' rb hb e rfl hφ (h0 ▸ g1)).symm)
          exact .inr ⟨r, by simp [Ctx.with, h, g1], g2.step hst (by rw [setBlock_get]; simp [hne]), g3⟩
  · unfold updK at e1 e2
    simp only [Ctx.with] at f1 f2
    by_cases h1 : x = n <;> by_cases h2 : x' = n
    · rw [h1, h2]
    · rw [if_pos h1] at f1; rw [if_neg h2] at f2 e2
      injection f1 with f1; subst f1
      split at e2
      · cases e2
      · rename_i h'; exact absurd (s.inj b x' _ o2 rb hb e2 rfl hφ f2).symm h'
    · rw [if_neg h1] at f1 e1; rw [if_pos h2] at f2
      injection f2 with f2; subst f2
      split at e1
      · cases e1
      · rename_i h'; exact absurd (s.inj x b o1 _ rb e1 hb hro f1 hφ) h'
    · rw [if_neg h1] at f1 e1; rw [if_neg h2] at f2 e2
      split at e1
      · cases e1
      · split at e2
        · cases e2
        · exact s.inj x x' o1 o2 r e1 e2 hro f1 f2
  · rw [setBlock_size]
    simp only [Ctx.with] at e
    split at e
    · injection e with e; subst e; exact s.φlt b _ hφ
    · exact s.φlt x r e

/-! ### The types' table -/
theorem kindOf_slice {P : Program} {d : TypeDesc} {e : TypeId} (h : kindOf P d = some (.slice e)) : d = .slice e := by
  cases d <;> simp [kindOf] at h
  · rw [h]
theorem kindOf_array {P : Program} {d : TypeDesc} {n : Nat} {e : TypeId} (h : kindOf P d = some (.array n e)) : d = .array n e := by
  cases d <;> simp [kindOf] at h
  · rw [h.1, h.2]
theorem kindOf_int {P : Program} {d : TypeDesc} {k : IntKind} (h : kindOf P d = some (.int k)) : d = .int k := by
  cases d <;> simp [kindOf] at h
  · rw [h]
theorem kindOf_string {P : Program} {d : TypeDesc} (h : kindOf P d = some .string) : d = .string := by
  cases d <;> simp [kindOf] at h
  · rfl
theorem kindOf_map {P : Program} {d : TypeDesc} {k e : TypeId} (h : kindOf P d = some (.map k e)) : d = .map k e := by
  cases d <;> simp [kindOf] at h
  · rw [h.1, h.2]
theorem kindOf_struct {P : Program} {d : TypeDesc} {fs : List (Nat × Nat × Bool)} (h : kindOf P d = some (.struct fs)) : ∃ gs : Array Field, d = .struct gs ∧ gs.toList.mapM (fieldI P) = some fs := by
  cases d <;> simp [kindOf] at h
  · exact ⟨_, rfl, h⟩
theorem kindOf_agg {P : Program} {d : TypeDesc} {k : TK} (h : kindOf P d = some k) : aggK k = isAggD d := by
  cases d <;> simp [kindOf] at h <;> (try (subst h; rfl))
  · obtain ⟨fs, _, rfl⟩ := h; rfl

structure TSpec (P : Program) (t : TypeId) (ti : TI) where
  i : TypeInfo
  d : TypeDesc
  z : Value
  info : P.info? t = some i
  und : P.underlying t = some d
  zero : i.zero = some z
  size : ti.size = i.size
  bytes : ti.bytes = i.bytes
  zeros : ti.zero = z.cells.toList.map ofCell
  zv : ti.zv = ofV z
  ones : ∀ v ∈ z.cells.toList, v.oneCell' = true
  kind : kindOf P d = some ti.k
  agg : ti.agg = isAggD d
theorem tinfo_spec {P : Program} {t : TypeId} {ti : TI} (h : tinfo P t = some ti) : Nonempty (TSpec P t ti) := by
  unfold tinfo at h
  split at h
  · rename_i i d hi hd
    split at h
    · rename_i z k hz hk
      split at h
      · cases h
      · rename_i hone
        injection h with h
        subst h
        exact ⟨⟨i, d, z, hi, hd, hz, rfl, rfl, rfl, rfl, fun v hv => List.all_eq_true.1 (by simpa only [Bool.not_eq_false] using hone) v hv, hk, kindOf_agg hk⟩⟩
    · cases h
  · cases h

section
variable {P : Program} {t : TypeId} {ti : TI} (s : TSpec P t ti) (w : World)
include s
theorem TSpec.run_und : (underlying t).run P w = .ok s.d w := by simp [underlying, s.und]
theorem TSpec.run_info : (typeInfo t).run P w = .ok s.i w := by simp [typeInfo, s.info]
theorem TSpec.run_size : (sizeOf t).run P w = .ok ti.size w := by simp [sizeOf, s.run_info, s.size]
theorem TSpec.run_zero : (zeroValue t).run P w = .ok s.z w := by simp [zeroValue, s.run_info, s.zero]
theorem TSpec.run_agg : (isAgg t).run P w = .ok ti.agg w := by
  simp only [isAgg, Sem.run_bind, s.run_und, Result.andThen_ok, s.agg]
  cases s.d <;> rfl
end

/-! ### Values told -/
theorem ofCell_rel (C : Ctx) (w : World) (v : Value) : VRel C w (ofCell v) v := by
  cases v with
  | int k n =>
    simp only [ofCell]
    cases k <;> simp only [ofInt, VRel]
    split
    · rename_i h
      simp only [VRel]
      congr 1
      have : n.toNat < 256 := by omega
      simp [Nat.mod_eq_of_lt this]
      omega
    · simp only [VRel]
  | bool b => simp only [ofCell, VRel]
  | string s => simp only [ofCell, VRel]
  | slice a n c =>
    cases a with
    | some a => simp only [ofCell, VRel]
    | none => cases n with
      | succ n => simp only [ofCell, VRel]
      | zero => cases c with
        | succ c => simp only [ofCell, VRel]
        | zero => simp only [ofCell, VRel]; exact ⟨_, rfl⟩
  | func f fi ca =>
    simp only [ofCell]
    cases f <;> simp only [VRel]
    split
    · rename_i h
      simp only [VRel, LRel]
      have h1 : fi = #[] := Array.size_eq_zero_iff.1 h.1
      have h2 : ca = #[] := Array.size_eq_zero_iff.1 h.2
      exact ⟨[], by rw [h1, h2], rfl⟩
    · simp only [VRel]
  | nilFunc => simp only [ofCell, VRel]
  | pointer a => cases a <;> simp only [ofCell, VRel]
  | map a => cases a <;> simp only [ofCell, VRel]
  | nilIface => simp only [ofCell, VRel]
  | _ => simp only [ofCell, VRel]
theorem ofCells_rel (C : Ctx) (w : World) : ∀ (vs : List Value), (∀ v ∈ vs, v.oneCell' = true) → LRel C w true (vs.map ofCell) vs
  | [], _ => LRel.nil
  | v :: vs, h => LRel.cons (fun _ => h v (by simp)) (ofCell_rel C w v) (ofCells_rel C w vs fun u hu => h u (by simp [hu]))
theorem ofV_rel (C : Ctx) (w : World) (v : Value) : VRel C w (ofV v) v := by
  unfold ofV
  split
  · rename_i cs
    split
    · rename_i h
      simp only [VRel]
      exact ⟨cs.toList, by simp, ofCells_rel C w _ (List.all_eq_true.1 h)⟩
    · simp only [VRel]
  · rename_i cs
    split
    · rename_i h
      simp only [VRel, LRel]
      exact ⟨[], by rw [Array.size_eq_zero_iff.1 h], rfl⟩
    · simp only [VRel]
  · exact ofCell_rel C w v
theorem ofInt_rel (C : Ctx) (w : World) (k : IntKind) (n : Int) : VRel C w (ofInt k n) (.int k n) := by
  have := ofCell_rel C w (.int k n)
  simpa only [ofCell] using this

/-- A temporary is as told. -/
def TRel1 (C : Ctx) (w : World) (T : Tm) (a : Act) (x : Operand) : Prop := ∀ t, x = .tmp t → VRel C w (T.get t) (a.tmps.getD t undef)
theorem ev_rel {C : Ctx} {w : World} {T : Tm} {a : Act} {x : Operand} (h : TRel1 C w T a x) : VRel C w (ev T x) (a.eval x) := by
  cases x with
  | tmp t => exact h t rfl
  | const v => exact ofV_rel C w v
  | global g => simp only [ev, VRel]
  | func f => simp only [ev, VRel, LRel, Act.eval]; exact ⟨[], rfl, rfl⟩

end Go.Proofs.Ytadipihpgcelmaa.Ab
