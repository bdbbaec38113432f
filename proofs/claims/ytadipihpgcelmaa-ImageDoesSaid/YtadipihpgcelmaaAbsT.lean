/- A region that draws its order. -/
import Derived.Test.YtadipihpgcelmaaAbsS
namespace Go.Proofs.Ytadipihpgcelmaa.Ab
open Go
set_option linter.unusedVariables false
set_option linter.unusedSimpArgs false

theorem wrK_in {wr : Option (List Nat)} {h' : AH} {K : Nat → Option AObj} {b : Nat} (h : inF wr b) : wrK wr h' K b = h'.get b := by
  cases wr with
  | none => rfl
  | some l => simp only [wrK]; rw [if_pos (show b ∈ l from h)]
theorem wrK_out {wr : Option (List Nat)} {h' : AH} {K : Nat → Option AObj} {b : Nat} (h : ¬ inF wr b) : wrK wr h' K b = K b := by
  cases wr with
  | none => exact absurd trivial h
  | some l => simp only [wrK]; rw [if_neg (show ¬ b ∈ l from h)]

/-! ### What is before what -/
def one1 (A : Array Nat) (o : Oper) : Nat := o.after.foldl (fun s e => if Region.binds .any e then s ||| 2 ^ e.on ||| A.getD e.on 0 else s) 0
theorem fold_bits (A : Array Nat) (i : Nat) : ∀ (l : List Edge) (s : Nat), (l.foldl (fun s e => if Region.binds .any e then s ||| 2 ^ e.on ||| A.getD e.on 0 else s) s).testBit i = true ↔
    (s.testBit i = true ∨ ∃ e ∈ l, Region.binds .any e = true ∧ (e.on = i ∨ (A.getD e.on 0).testBit i = true))
  | [], s => by simp
  | e :: l, s => by
    rw [List.foldl_cons, fold_bits A i l]
    by_cases hb : Region.binds .any e = true
    · simp only [hb, if_true, Nat.testBit_or, Nat.testBit_two_pow, Bool.or_eq_true, decide_eq_true_eq, List.mem_cons, exists_eq_or_imp, true_and]
      constructor
      · rintro (((h | h) | h) | h)
        · exact .inl h
        · exact .inr (.inl (.inl h))
        · exact .inr (.inl (.inr h))
        · exact .inr (.inr h)
      · rintro (h | (h | h) | h)
        · exact .inl (.inl (.inl h))
        · exact .inl (.inl (.inr h))
        · exact .inl (.inr h)
        · exact .inr h
    · simp only [hb, if_false, List.mem_cons, exists_eq_or_imp, false_and, false_or, Bool.false_eq_true]
theorem one1_bits (A : Array Nat) (o : Oper) (i : Nat) : (one1 A o).testBit i = true ↔ ∃ e ∈ o.after, Region.binds .any e = true ∧ (e.on = i ∨ (A.getD e.on 0).testBit i = true) := by
  unfold one1
  rw [← Array.foldl_toList, fold_bits]
  simp
structure OkB (pre : List Oper) (A : Array Nat) : Prop where
  size : A.size = pre.length
  down : ∀ j i, (A.getD j 0).testBit i = true → ∃ o, pre[j]? = some o ∧ ∃ e ∈ o.after, Region.binds .any e = true ∧ (e.on = i ∨ (A.getD e.on 0).testBit i = true)
  up : ∀ j o e, pre[j]? = some o → e ∈ o.after → Region.binds .any e = true → (A.getD j 0).testBit e.on = true
theorem getD_push_lt {A : Array Nat} {x j : Nat} (h : j < A.size) : (A.push x).getD j 0 = A.getD j 0 := by
  rw [Array.getD_eq_getD_getElem?, Array.getD_eq_getD_getElem?, Array.getElem?_push, if_neg (by omega)]
theorem getD_push_eq {A : Array Nat} {x : Nat} : (A.push x).getD A.size 0 = x := by
  rw [Array.getD_eq_getD_getElem?, Array.getElem?_push, if_pos rfl]; rfl
theorem getD_ge {A : Array Nat} {j : Nat} (h : A.size ≤ j) : A.getD j 0 = 0 := by
  rw [Array.getD_eq_getD_getElem?, Array.getElem?_eq_none h]; rfl
theorem OkB.push {pre : List Oper} {A : Array Nat} (h : OkB pre A) (o : Oper) : OkB (pre ++ [o]) (A.push (one1 A o)) where
  size := by simp [h.size]
  down j i hj := by
    have up : ∀ e : Edge, (e.on = i ∨ (A.getD e.on 0).testBit i = true) → (e.on = i ∨ ((A.push (one1 A o)).getD e.on 0).testBit i = true) := by
      rintro e (g | g)
      · exact .inl g
      · refine .inr ?_
        rcases Nat.lt_or_ge e.on A.size with l | l
        · rw [getD_push_lt l]; exact g
        · rw [getD_ge l] at g; simp at g
    rcases Nat.lt_trichotomy j A.size with l | l | l
    · rw [getD_push_lt l] at hj
      obtain ⟨o', h1, e, h2, h3, h4⟩ := h.down j i hj
      exact ⟨o', by rw [List.getElem?_append_left (by rw [← h.size]; exact l)]; exact h1, e, h2, h3, up e h4⟩
    · subst l
      rw [getD_push_eq, one1_bits] at hj
      obtain ⟨e, h2, h3, h4⟩ := hj
      exact ⟨o, by rw [h.size]; simp, e, h2, h3, up e h4⟩
    · rw [getD_ge (by simp; omega)] at hj; simp at hj
  up j o' e hj he hb := by
    rcases Nat.lt_trichotomy j A.size with l | l | l
    · rw [getD_push_lt l]
      rw [List.getElem?_append_left (by rw [← h.size]; exact l)] at hj
      exact h.up j o' e hj he hb
    · subst l
      rw [h.size] at hj
      simp at hj; subst hj
      rw [getD_push_eq, one1_bits]
      exact ⟨e, he, hb, .inl rfl⟩
    · rw [List.getElem?_eq_none (by simp; rw [← h.size]; omega)] at hj; cases hj
theorem okB_fold : ∀ (l pre : List Oper) (A : Array Nat), OkB pre A → OkB (pre ++ l) (l.foldl (fun acc o => acc.push (one1 acc o)) A)
  | [], pre, A, h => by simpa using h
  | o :: l, pre, A, h => by
    have := okB_fold l (pre ++ [o]) _ (h.push o)
    simpa using this
theorem before_ok (ops : Array Oper) : OkB ops.toList (Region.before ops) := by
  have : OkB ([] ++ ops.toList) (ops.toList.foldl (fun acc o => acc.push (one1 acc o)) #[]) := okB_fold ops.toList [] #[] ⟨rfl, fun j i h => by simp [Array.getD] at h, fun j o e h => by simp at h⟩
  rw [Array.foldl_toList] at this
  exact this

/-- 'i' comes before 'j'. -/
def bef (ops : Array Oper) (i j : Nat) : Prop := ((Region.before ops).getD j 0).testBit i = true

theorem orderOk_spec {ops : Array Oper} (h : orderOk ops = true) : (∀ j < ops.size, (Region.before ops).getD j 0 < 2 ^ j) ∧
    ∀ i j x y, i < j → ops[i]? = some x → ops[j]? = some y → bef ops i j ∨ x.apart ops y = true := by
  unfold orderOk at h
  simp only [Bool.and_eq_true, List.all_eq_true, List.mem_range, decide_eq_true_eq] at h
  refine ⟨fun j hj => (h.2 j hj).1, fun i j x y hij hx hy => ?_⟩
  have hj : j < ops.size := (Array.getElem?_eq_some_iff.1 hy).1
  have := (h.2 j hj).2 i hij
  rw [hx, hy] at this
  simpa [bef] using this

/-! ### Blocks that are touched -/
theorem disj_spec {a b : Option (List Nat)} (h : disj a b = true) (z : Nat) (ha : inF a z) (hb : inF b z) : False := by
  unfold disj at h
  split at h
  · simp [inF] at ha
  · simp [inF] at hb
  · rename_i xs ys _ _
    have := List.all_eq_true.1 h z ha
    simp at this
    exact this hb
  · cases h
theorem rowOk_spec {bj : Nat} {y : Ft} : ∀ {l : List Ft} {i : Nat}, rowOk bj y i l = true → ∀ k x, l[k]? = some x → bj.testBit (i + k) = true ∨ ftOk x y = true
  | [], i, h, k, x, hk => by simp at hk
  | z :: l, i, h, k, x, hk => by
    simp only [rowOk, Bool.and_eq_true, Bool.or_eq_true] at h
    cases k with
    | zero => simp at hk; subst hk; exact h.1
    | succ k =>
      have := rowOk_spec h.2 k x (by simpa using hk)
      rw [show i + 1 + k = i + (k + 1) by omega] at this
      exact this
theorem allOk_spec {b : Array Nat} : ∀ {l pre : List Ft}, allOk b pre pre.length l = true → ∀ i j x y, i < pre.length + j → (pre ++ l)[i]? = some x → l[j]? = some y → (b.getD (pre.length + j) 0).testBit i = true ∨ ftOk x y = true
  | [], pre, h, i, j, x, y, hij, hx, hy => by simp at hy
  | z :: l, pre, h, i, j, x, y, hij, hx, hy => by
    simp only [allOk, Bool.and_eq_true] at h
    cases j with
    | zero =>
      simp at hy; subst hy
      have hlt : i < pre.length := by omega
      rw [List.getElem?_append_left hlt] at hx
      have := rowOk_spec h.1 i x hx
      simpa using this
    | succ j =>
      have h2 : allOk b (pre ++ [z]) (pre ++ [z]).length l = true := by simpa using h.2
      have := allOk_spec h2 i j x y (by simp; omega) (by simpa using hx) (by simpa using hy)
      simp only [List.length_append, List.length_cons, List.length_nil] at this
      rw [show pre.length + (0 + 1) + j = pre.length + (j + 1) by omega] at this
      exact this
/-- Two operations that touch the same block, one of them to write it. -/
def clash (x y : Ft) (z : Nat) : Prop := (inF x.2 z ∧ inF y.1 z) ∨ (inF x.2 z ∧ inF y.2 z) ∨ (inF x.1 z ∧ inF y.2 z)
theorem ftOk_spec {x y : Ft} (h : ftOk x y = true) (z : Nat) : ¬ clash x y z := by
  simp only [ftOk, Bool.and_eq_true] at h
  rintro (⟨a, b⟩ | ⟨a, b⟩ | ⟨a, b⟩)
  · exact disj_spec h.1.1 z a b
  · exact disj_spec h.1.2 z a b
  · exact disj_spec h.2 z a b

/-! ### What was written last -/
section
variable {α : Type} {W : Nat → Prop} {val : Nat → α} {n : Nat}
def Hist (W : Nat → Prop) (val : Nat → α) (S : Nat → Prop) (X : α) : Prop :=
  (∃ j, S j ∧ W j ∧ (∀ k, S k → j < k → ¬ W k) ∧ X = val (j + 1)) ∨ ((∀ k, S k → ¬ W k) ∧ X = val 0)
theorem text_last (hstep : ∀ j, j < n → ¬ W j → val (j + 1) = val j) : ∀ i, i ≤ n → (∃ j, j < i ∧ W j ∧ (∀ k, j < k → k < i → ¬ W k) ∧ val i = val (j + 1)) ∨ ((∀ k, k < i → ¬ W k) ∧ val i = val 0)
  | 0, _ => .inr ⟨fun k h => by omega, rfl⟩
  | i + 1, hi => by
    by_cases hW : W i
    · exact .inl ⟨i, by omega, hW, fun k h1 h2 => by omega, rfl⟩
    · have hs := hstep i (by omega) hW
      rcases text_last hstep i (by omega) with ⟨j, h1, h2, h3, h4⟩ | ⟨h1, h2⟩
      · refine .inl ⟨j, by omega, h2, fun k k1 k2 => ?_, by rw [hs, h4]⟩
        by_cases e : k = i
        · rw [e]; exact hW
        · exact h3 k k1 (by omega)
      · refine .inr ⟨fun k hk => ?_, by rw [hs, h2]⟩
        by_cases e : k = i
        · rw [e]; exact hW
        · exact h1 k (by omega)
theorem hist_agree (hstep : ∀ j, j < n → ¬ W j → val (j + 1) = val j) {S : Nat → Prop} {X : α} {i : Nat} (hi : i ≤ n) (h : Hist W val S X) (hpred : ∀ j, j < i → W j → S j) (hsucc : ∀ j, i ≤ j → W j → S j → False) : X = val i := by
  rcases h with ⟨j, h1, h2, h3, h4⟩ | ⟨h1, h2⟩
  · have hji : j < i := by
      rcases Nat.lt_or_ge j i with g | g
      · exact g
      · exact (hsucc j g h2 h1).elim
    rcases text_last hstep i hi with ⟨k, k1, k2, k3, k4⟩ | ⟨k1, _⟩
    · have hkj : k = j := by
        rcases Nat.lt_trichotomy k j with g | g | g
        · exact absurd h2 (k3 j g hji)
        · exact g
        · exact absurd k2 (h3 k (hpred k k1 k2) g)
      subst hkj
      rw [h4, k4]
    · exact absurd h2 (k1 j hji)
  · rcases text_last hstep i hi with ⟨k, k1, k2, k3, k4⟩ | ⟨_, k2⟩
    · exact absurd k2 (h1 k (hpred k k1 k2))
    · rw [h2, k2]
theorem hist_write {S : Nat → Prop} {i : Nat} (hW : W i) (hlast : ∀ j, S j → W j → j < i) : Hist W val (fun k => S k ∨ k = i) (val (i + 1)) :=
  .inl ⟨i, .inr rfl, hW, fun k hk h1 h2 => by
    rcases hk with hk | hk
    · have := hlast k hk h2; omega
    · omega, rfl⟩
theorem hist_skip {S : Nat → Prop} {i : Nat} {X : α} (hW : ¬ W i) (h : Hist W val S X) : Hist W val (fun k => S k ∨ k = i) X := by
  rcases h with ⟨j, h1, h2, h3, h4⟩ | ⟨h1, h2⟩
  · refine .inl ⟨j, .inl h1, h2, fun k hk hlt => ?_, h4⟩
    rcases hk with hk | hk
    · exact h3 k hk hlt
    · rw [hk]; exact hW
  · refine .inr ⟨fun k hk => ?_, h2⟩
    rcases hk with hk | hk
    · exact h1 k hk
    · rw [hk]; exact hW
theorem hist_congr {S S' : Nat → Prop} {X : α} (hS : ∀ k, S' k ↔ S k) (h : Hist W val S X) : Hist W val S' X := by
  have : S' = S := funext fun k => propext (hS k)
  rw [this]; exact h
end

/-! ### The text's order, place by place -/
theorem opsA_trace {P : Program} {cf : Cfg} {rec : Rec} {ops : Array Oper} : ∀ {l : List Nat} {st st' : St} {fts : List Ft}, opsA P cf rec ops l st = some (st', fts) →
    ∃ (s : Nat → St), s 0 = st ∧ s l.length = st' ∧ fts.length = l.length ∧ ∀ k i, l[k]? = some i → ∃ o ft, ops[i]? = some o ∧ fts[k]? = some ft ∧ operA P cf rec ops o (s k) = some (s (k + 1), ft)
  | [], st, st', fts, h => by
    simp only [opsA, Option.some.injEq, Prod.mk.injEq] at h; obtain ⟨rfl, rfl⟩ := h
    exact ⟨fun _ => st, rfl, rfl, rfl, fun k i h => by simp at h⟩
  | i :: l, st, st', fts, h => by
    simp only [opsA] at h
    split at h
    · rename_i o ho
      split at h
      · rename_i st1 ft h1
        split at h
        · rename_i st2 fts' h2
          simp only [Option.some.injEq, Prod.mk.injEq] at h; obtain ⟨rfl, rfl⟩ := h
          obtain ⟨s, e0, e1, e2, e3⟩ := opsA_trace h2
          refine ⟨fun k => match k with | 0 => st | k + 1 => s k, rfl, e1, by simp [e2], fun k j hk => ?_⟩
          cases k with
          | zero =>
            simp at hk; subst hk
            exact ⟨o, ft, ho, rfl, by simp only [e0]; exact h1⟩
          | succ k =>
            obtain ⟨o', ft', g1, g2, g3⟩ := e3 k j (by simpa using hk)
            exact ⟨o', ft', g1, by simpa using g2, g3⟩
        · cases h
      · cases h
    · cases h

structure Trace (P : Program) (ops : Array Oper) (s : Nat → St) (f : Nat → Ft) : Prop where
  ok : ∀ i o, ops[i]? = some o → OperOk P ops o (s i) (s (i + 1)) (f i)
  order : ∀ j < ops.size, (Region.before ops).getD j 0 < 2 ^ j
  rel : ∀ i j x y, i < j → ops[i]? = some x → ops[j]? = some y → bef ops i j ∨ (x.apart ops y = true ∧ ∀ z, ¬ clash (f i) (f j) z)

section
variable {P : Program} {ops : Array Oper} {s : Nat → St} {f : Nat → Ft}
theorem op_at {i : Nat} (h : i < ops.size) : ∃ o, ops[i]? = some o := ⟨ops[i], by simp [h]⟩
theorem Trace.nx (T : Trace P ops s f) : ∀ (d i : Nat), i + d ≤ ops.size → (s i).H.nx ≤ (s (i + d)).H.nx
  | 0, i, _ => Nat.le_refl _
  | d + 1, i, h => by
    obtain ⟨o, ho⟩ := op_at (ops := ops) (i := i + d) (by omega)
    exact Nat.le_trans (T.nx d i (by omega)) (T.ok _ o ho).frm.1
theorem Trace.n (T : Trace P ops s f) : ∀ (i : Nat), i ≤ ops.size → (s i).n = (s 0).n
  | 0, _ => rfl
  | i + 1, h => by
    obtain ⟨o, ho⟩ := op_at (ops := ops) (i := i) (by omega)
    rw [(T.ok _ o ho).n, T.n i (by omega)]
theorem Trace.q (T : Trace P ops s f) : ∀ (i : Nat), i ≤ ops.size → (s i).q = (s 0).q
  | 0, _ => rfl
  | i + 1, h => by
    obtain ⟨o, ho⟩ := op_at (ops := ops) (i := i) (by omega)
    rw [(T.ok _ o ho).q, T.q i (by omega)]
def Wt (ops : Array Oper) (t : Nat) (j : Nat) : Prop := ∃ o, ops[j]? = some o ∧ o.dst = some t
theorem Trace.stepT (T : Trace P ops s f) (t : Nat) : ∀ j, j < ops.size → ¬ Wt ops t j → (s (j + 1)).T.get t = (s j).T.get t := by
  intro j hj hW
  obtain ⟨o, ho⟩ := op_at (ops := ops) hj
  obtain ⟨V, hV, _⟩ := (T.ok _ o ho).run
  rw [hV]
  cases hd : o.dst with
  | none => rfl
  | some d =>
    have : d ≠ t := fun e => hW ⟨o, ho, by rw [hd, e]⟩
    simp only [setO]
    rw [Tm.get_set, if_neg this]
theorem Trace.stepH (T : Trace P ops s f) (b : Nat) : ∀ j, j < ops.size → ¬ inF (f j).2 b → (s (j + 1)).H.get b = (s j).H.get b := by
  intro j hj hW
  obtain ⟨o, ho⟩ := op_at (ops := ops) hj
  exact (T.ok _ o ho).frm.2.2 b hW

/-- What holds when the operations of S have been run. -/
structure DInv (ops : Array Oper) (s : Nat → St) (f : Nat → Ft) (C0 : Ctx) (a0 : Act) (w0 : World) (S : Nat → Prop) (C : Ctx) (K : Nat → Option AObj) (a : Act) (w : World) : Prop where
  step : Step C0 w0 C w
  sim : Sim C K w
  heap : ∀ b, Hist (fun j => inF (f j).2 b) (fun j => (s j).H.get b) S (K b)
  tmp : ∀ t, ∃ X, Hist (Wt ops t) (fun j => (s j).T.get t) S X ∧ VRel C w X (a.tmps.getD t undef)
  dom : ∀ b, (s 0).H.nx ≤ b → C.φ b = none ∨ ∃ j, S j ∧ inF (f j).2 b ∧ b < (s (j + 1)).H.nx
  size : a.tmps.size = (s 0).n
  defers : a.defers = a0.defers

theorem draw_step (T : Trace P ops s f) {C0 : Ctx} {a0 : Act} {w0 : World} {S : Nat → Prop} {C : Ctx} {K : Nat → Option AObj} {a : Act} {w : World} (D : DInv ops s f C0 a0 w0 S C K a w) (hlt : ∀ j, S j → j < ops.size)
    (hcl : ∀ j k, S k → bef ops j k → S j) {i : Nat} {o : Oper} (ho : ops[i]? = some o) (hi : ¬ S i) (hpre : ∀ j, bef ops j i → S j) {ro : Option Nat} {n : Nat} {Q : Exit → Act → World → Prop} {next : Act → World → Prop}
    (hnext : ∀ C' K' a' w', DInv ops s f C0 a0 w0 (fun k => S k ∨ k = i) C' K' a' w' → next a' w') : wpOne P ops ro n Q o next a w := by
  have hin : i < ops.size := (Array.getElem?_eq_some_iff.1 ho).1
  have hok := T.ok i o ho
  obtain ⟨V, hV, hrun⟩ := hok.run
  -- behind i there is none of S that clashes; before it, all that do are of S
  have hbehind : ∀ j y, S j → ops[j]? = some y → i < j → o.apart ops y = true ∧ ∀ z, ¬ clash (f i) (f j) z := by
    intro j y hj hy hij
    rcases T.rel i j o y hij ho hy with g | g
    · exact absurd (hcl i j hj g) hi
    · exact g
  have hahead : ∀ j x, ops[j]? = some x → j < i → ¬ S j → x.apart ops o = true ∧ ∀ z, ¬ clash (f j) (f i) z := by
    intro j x hx hji hj
    rcases T.rel j i x o hji hx ho with g | g
    · exact absurd (hpre j g) hj
    · exact g
  have hne : ∀ j, S j → j ≠ i := fun j hj e => hi (e ▸ hj)
  have hread : ∀ b, (inF (f i).1 b ∨ inF (f i).2 b) → K b = (s i).H.get b := by
    intro b hb
    refine hist_agree (W := fun j => inF (f j).2 b) (val := fun j => (s j).H.get b) (T.stepH b) (Nat.le_of_lt hin) (D.heap b) (fun j hji hW => ?_) (fun j hij hW hS => ?_)
    · refine Classical.byContradiction fun hj => ?_
      obtain ⟨x, hx⟩ := op_at (ops := ops) (i := j) (by omega)
      exact (hahead j x hx hji hj).2 b (by rcases hb with hb | hb; exact .inl ⟨hW, hb⟩; exact .inr (.inl ⟨hW, hb⟩))
    · have hij' : i < j := Nat.lt_of_le_of_ne hij (Ne.symm (hne j hS))
      obtain ⟨y, hy⟩ := op_at (ops := ops) (hlt j hS)
      exact (hbehind j y hS hy hij').2 b (by rcases hb with hb | hb; exact .inr (.inr ⟨hb, hW⟩); exact .inr (.inl ⟨hb, hW⟩))
  refine hrun C K a w ro n Q next D.sim (fun b hb => hread b (.inl hb)) (fun b hb hnx => ?_) (fun t ht => ?_) fun v C' w' k1 k2 k3 k4 => hnext C' _ _ w' ⟨D.step.trans k2, k3, fun b => ?_, fun t => ?_, fun b hb => ?_, ?_, by rw [put_defers]; exact D.defers⟩
  · -- its new blocks bear no number yet
    have h0 : (s 0).H.nx ≤ b := Nat.le_trans (by simpa using T.nx i 0 (by omega)) hnx
    rcases D.dom b h0 with g | ⟨j, hj, hW, hlt'⟩
    · exact g
    · exfalso
      rcases Nat.lt_trichotomy j i with l | l | l
      · have := T.nx (i - (j + 1)) (j + 1) (by omega)
        rw [show j + 1 + (i - (j + 1)) = i by omega] at this
        omega
      · exact hne j hj l
      · obtain ⟨y, hy⟩ := op_at (ops := ops) (hlt j hj)
        exact (hbehind j y hj hy l).2 b (.inr (.inl ⟨hb, hW⟩))
  · -- what it looks at
    obtain ⟨X, hX, hv⟩ := D.tmp t
    have : X = (s i).T.get t := by
      refine hist_agree (W := Wt ops t) (val := fun j => (s j).T.get t) (T.stepT t) (Nat.le_of_lt hin) hX (fun j hji hW => ?_) (fun j hij hW hS => ?_)
      · refine Classical.byContradiction fun hj => ?_
        obtain ⟨x, hx, hd⟩ := hW
        exact (Oper.apart_spec (hahead j x hx hji hj).1).1 t hd ht
      · have hij' : i < j := Nat.lt_of_le_of_ne hij (Ne.symm (hne j hS))
        obtain ⟨y, hy, hd⟩ := hW
        exact (Oper.apart_spec (hbehind j y hS hy hij').1).2.2 t hd ht
    rw [← this]; exact hv
  · -- the heap
    by_cases hW : inF (f i).2 b
    · have : wrK (f i).2 (s (i + 1)).H K b = (s (i + 1)).H.get b := wrK_in hW
      rw [this]
      refine hist_write (W := fun j => inF (f j).2 b) (val := fun j => (s j).H.get b) hW fun j hj hWj => ?_
      rcases Nat.lt_trichotomy j i with l | l | l
      · exact l
      · exact absurd l (hne j hj)
      · obtain ⟨y, hy⟩ := op_at (ops := ops) (hlt j hj)
        exact ((hbehind j y hj hy l).2 b (.inr (.inl ⟨hW, hWj⟩))).elim
    · have : wrK (f i).2 (s (i + 1)).H K b = K b := wrK_out hW
      rw [this]
      exact hist_skip (W := fun j => inF (f j).2 b) hW (D.heap b)
  · -- temporaries
    by_cases hd : o.dst = some t
    · refine ⟨V, ?_, ?_⟩
      · have hVt : V = (s (i + 1)).T.get t := by rw [hV, hd]; simp only [setO]; rw [Tm.get_set, if_pos rfl]
        rw [hVt]
        refine hist_write (W := Wt ops t) (val := fun j => (s j).T.get t) ⟨o, ho, hd⟩ fun j hj hWj => ?_
        rcases Nat.lt_trichotomy j i with l | l | l
        · exact l
        · exact absurd l (hne j hj)
        · obtain ⟨y, hy, hdy⟩ := hWj
          exact absurd hdy ((Oper.apart_spec (hbehind j y hj hy l).1).2.1 t hd)
      · have hts : t < a.tmps.size := by rw [D.size, ← T.n i (Nat.le_of_lt hin)]; exact hok.dst t hd
        have : (a.put o.dst v).tmps.getD t undef = v := by rw [hd]; simp [Act.put, Array.getD_eq_getD_getElem?, hts]
        rw [this]; exact k1
    · obtain ⟨X, hX, hv⟩ := D.tmp t
      refine ⟨X, hist_skip (fun ⟨x, hx, hdx⟩ => hd (by rw [ho] at hx; injection hx with hx; subst hx; exact hdx)) hX, ?_⟩
      have : (a.put o.dst v).tmps.getD t undef = a.tmps.getD t undef := by
        cases he : o.dst with
        | none => rfl
        | some d =>
          have hne' : d ≠ t := fun e => hd (by rw [he, e])
          simp only [Act.put]
          rw [Array.getD_eq_getD_getElem?, Array.getD_eq_getD_getElem?, Array.getElem?_setIfInBounds_ne hne']
      rw [this]; exact hv.step k2
  · -- numbers
    rcases D.dom b hb with g | ⟨j, hj, hW, hl⟩
    · by_cases hW : inF (f i).2 b ∧ b < (s (i + 1)).H.nx
      · exact .inr ⟨i, .inr rfl, hW.1, hW.2⟩
      · refine .inl (k4 b g ?_)
        by_cases h1 : inF (f i).2 b
        · exact .inr (Nat.le_of_not_lt fun h2 => hW ⟨h1, h2⟩)
        · exact .inl h1
    · exact .inr ⟨j, .inl hj, hW, hl⟩
  · rw [put_size]; exact D.size

theorem getD_set {l : Array Bool} {i j : Nat} (hi : i < l.size) : (l.setIfInBounds i true).getD j false = true ↔ (l.getD j false = true ∨ j = i) := by
  rw [Array.getD_eq_getD_getElem?, Array.getD_eq_getD_getElem?, Array.getElem?_setIfInBounds]
  by_cases e : i = j
  · subst e; simp [hi]
  · simp [e, Ne.symm e]
theorem getD_lt {l : Array Bool} {j : Nat} (h : l.getD j false = true) : j < l.size := by
  rcases Nat.lt_or_ge j l.size with g | g
  · exact g
  · rw [Array.getD_eq_getD_getElem?, Array.getElem?_eq_none g] at h; simp at h

theorem draw_any (T : Trace P ops s f) {C0 : Ctx} {a0 : Act} {w0 : World} {ro : Option Nat} {n : Nat} {Q : Exit → Act → World → Prop}
    (hQ : ∀ C K a w, DInv ops s f C0 a0 w0 (fun j => j < ops.size) C K a w → Q .normal a w) : ∀ (fuel : Nat) (listed : Array Bool) (C : Ctx) (K : Nat → Option AObj) (a : Act) (w : World), listed.size = ops.size →
      listed.toList.count false ≤ fuel → (∀ j k, listed.getD k false = true → bef ops j k → listed.getD j false = true) → DInv ops s f C0 a0 w0 (fun j => listed.getD j false = true) C K a w → wpAnyIn (fen ro) n P .any ops Q fuel listed a w := by
  have hedge : ∀ j o e, ops[j]? = some o → e ∈ o.after → Region.binds .any e = true → bef ops e.on j := fun j o e ho he hb => (before_ok ops).up j o e (by simpa using ho) he hb
  have hltbef : ∀ i j, j < ops.size → bef ops i j → i < j := by
    intro i j hj hb
    rcases Nat.lt_or_ge i j with g | g
    · exact g
    · have h1 := T.order j hj
      have : (Region.before ops).getD j 0 < 2 ^ i := Nat.lt_of_lt_of_le h1 (Nat.pow_le_pow_right (by omega) g)
      unfold bef at hb
      rw [Nat.testBit_lt_two_pow this] at hb; cases hb
  -- none is ready: all are listed
  have hall : ∀ listed : Array Bool, listed.size = ops.size → Region.ready .any ops listed = [] → ∀ j, j < ops.size → listed.getD j false = true := by
    intro listed hsz hr j
    induction j using Nat.strongRecOn with
    | _ j ih =>
      intro hj
      refine Classical.byContradiction fun hn => ?_
      obtain ⟨o, ho⟩ := op_at (ops := ops) hj
      have : j ∈ Region.ready .any ops listed := by
        refine mem_ready.2 ⟨?_, o, ho, fun e he hb => ?_⟩
        · rw [Array.getD_eq_getD_getElem?] at hn ⊢
          rw [Array.getElem?_eq_getElem (by omega)] at hn ⊢
          simpa using hn
        · have := hltbef e.on j hj (hedge j o e ho he hb)
          exact ih e.on this (by omega)
      rw [hr] at this; cases this
  have hdone : ∀ (listed : Array Bool) C K a w, listed.size = ops.size → Region.ready .any ops listed = [] → DInv ops s f C0 a0 w0 (fun j => listed.getD j false = true) C K a w → Q .normal a w := by
    intro listed C K a w hsz hr D
    have hS : (fun j => listed.getD j false = true) = fun j => j < ops.size := funext fun j => propext ⟨fun h => hsz ▸ getD_lt h, fun h => hall listed hsz hr j h⟩
    rw [hS] at D
    exact hQ C K a w D
  intro fuel
  induction fuel with
  | zero =>
    intro listed C K a w hsz hc hcl D
    have hr : Region.ready .any ops listed = [] := by
      cases hrr : Region.ready .any ops listed with
      | nil => rfl
      | cons j js =>
        have : j ∈ Region.ready .any ops listed := by rw [hrr]; simp
        obtain ⟨h0, o, ho, _⟩ := mem_ready.1 this
        have hj : j < listed.size := by rw [hsz]; exact (Array.getElem?_eq_some_iff.1 ho).1
        have hmem : false ∈ listed.toList := by
          rw [Array.getD_eq_getD_getElem?, Array.getElem?_eq_getElem hj] at h0
          simp at h0
          rw [← h0]; simp
        have := List.count_pos_iff.2 hmem
        omega
    exact ⟨hr, hdone listed C K a w hsz hr D⟩
  | succ fuel ih =>
    intro listed C K a w hsz hc hcl D
    refine ⟨fun hr => hdone listed C K a w hsz hr D, fun i hi => ?_⟩
    obtain ⟨h0, o, ho, hafter⟩ := mem_ready.1 hi
    have hin : i < ops.size := (Array.getElem?_eq_some_iff.1 ho).1
    have hil : i < listed.size := by rw [hsz]; exact hin
    have hi0 : listed[i] = false := by
      rw [Array.getD_eq_getD_getElem?, Array.getElem?_eq_getElem hil] at h0
      simpa using h0
    have hpre : ∀ j, bef ops j i → listed.getD j false = true := by
      intro j hb
      obtain ⟨o', ho', e, he, hbd, hor⟩ := (before_ok ops).down i j hb
      have : o' = o := by
        rw [Array.getElem?_toList, ho] at ho'; injection ho' with ho'; exact ho'.symm
      subst this
      have hl := hafter e he hbd
      rcases hor with hor | hor
      · rw [← hor]; exact hl
      · exact hcl j e.on hl hor
    refine wpOpIn_one ho (draw_step T D (fun j hj => hsz ▸ getD_lt hj) hcl ho (fun h => ?_) hpre fun C' K' a' w' D' => ?_)
    · rw [Array.getD_eq_getD_getElem?, Array.getElem?_eq_getElem hil] at h
      rw [Option.getD_some, hi0] at h; cases h
    · have hS : (fun j => (listed.setIfInBounds i true).getD j false = true) = fun k => listed.getD k false = true ∨ k = i := funext fun j => propext (getD_set hil)
      refine ih _ C' K' a' w' (by simpa using hsz) ?_ (fun j k hk hb => ?_) (by rw [hS]; exact D')
      · rw [Array.toList_setIfInBounds, List.count_set (by simpa using hil)]
        have : false ∈ listed.toList := by rw [← hi0]; simp
        have := List.count_pos_iff.2 this
        rw [if_pos (by simp [hi0]), if_neg (by simp)]
        omega
      · rw [getD_set hil] at hk ⊢
        rcases hk with hk | hk
        · exact .inl (hcl j k hk hb)
        · rw [hk] at hb; exact .inl (hpre j hb)
end

/-! ### A region -/
theorem regA_rel {P : Program} (hm : P.follows .mixedOrders = true) {cf : Cfg} {rec : Rec} (hrec : Sound P rec) (hcl : CloneOk P cf.clone) {id : Nat} {ops : Array Oper} {draw : Bool} {st st' : St} {e : AX} (h : regA P cf rec ops draw st = some (e, st')) :
    SoundAt P (.region id ops draw) st e st' := by
  unfold regA at h
  split at h
  · rename_i st2 fts hops
    split at h
    · rename_i hd
      simp only [Option.some.injEq, Prod.mk.injEq] at h; obtain ⟨rfl, rfl⟩ := h
      obtain ⟨e1, e1n, e2, e3⟩ := opsA_rel hrec hcl hops
      refine ⟨e1, e2, fun C a w s0 ro n Q hq hs0 hsr hmk hd0 hQ => ?_⟩
      cases draw with
      | false => exact wpIn_region (e3 C a w s0 ro n Q hsr hmk hd0 hQ)
      | true =>
        obtain ⟨hord, hall⟩ := hd.resolve_left (by simp)
        obtain ⟨s, t0, t1, t2, t3⟩ := opsA_trace hops
        simp only [List.length_range] at t1 t2
        have hft : ∀ k, k < ops.size → ∃ ft, fts[k]? = some ft := fun k hk => ⟨fts[k], by simp [t2, hk]⟩
        have T : Trace P ops s (fun k => fts.getD k (some [], some [])) := by
          refine ⟨fun i o ho => ?_, (orderOk_spec hord).1, fun i j x y hij hx hy => ?_⟩
          · have hi : i < ops.size := (Array.getElem?_eq_some_iff.1 ho).1
            obtain ⟨o', ft, g1, g2, g3⟩ := t3 i i (by simp [hi])
            rw [ho] at g1; injection g1 with g1; subst g1
            have : fts.getD i (some [], some []) = ft := by rw [List.getD_eq_getElem?_getD, g2]; rfl
            rw [this]
            exact operA_rel hrec hcl g3
          · have hj : j < ops.size := (Array.getElem?_eq_some_iff.1 hy).1
            rcases (orderOk_spec hord).2 i j x y hij hx hy with g | g
            · exact .inl g
            · obtain ⟨fi, hfi⟩ := hft i (by omega)
              obtain ⟨fj, hfj⟩ := hft j hj
              rcases allOk_spec (l := fts) (pre := []) hall i j fi fj (by simpa using hij) (by simpa using hfi) hfj with k | k
              · exact .inl (by simpa [bef] using k)
              · refine .inr ⟨g, fun z => ?_⟩
                have e1 : fts.getD i (some [], some []) = fi := by rw [List.getD_eq_getElem?_getD, hfi]; rfl
                have e2 : fts.getD j (some [], some []) = fj := by rw [List.getD_eq_getElem?_getD, hfj]; rfl
                rw [e1, e2]
                exact ftOk_spec k z
        have hw : Step C w C { w with drawn := w.drawn + 1 } := Step.heap rfl rfl
        refine wpIn_region_any hm (draw_any (C0 := C) (a0 := a) (w0 := { w with drawn := w.drawn + 1 }) T (fun C' K' a' w' D => ?_) ops.size (Array.replicate ops.size false) C st.H.get a { w with drawn := w.drawn + 1 } (by simp) (by simp) (fun j k hk => ?_) ?_)
        · -- all have run
          have hlt : ∀ j, j < ops.size → j < ops.size := fun _ h => h
          have hK : ∀ b, K' b = st2.H.get b := fun b => by
            rw [← t1]
            exact hist_agree (W := fun j => inF ((fun k => fts.getD k (some [], some [])) j).2 b) (val := fun j => (s j).H.get b) (T.stepH b) (Nat.le_refl _) (D.heap b) (fun j hj _ => hj) (fun j hj _ hS => by have hS' : j < ops.size := hS; omega)
          refine hQ C' a' w' (hw.trans D.step) ⟨fun t => ?_, ?_, D.sim.congr fun b => (hK b).symm, fun b hb => ?_⟩ (by rw [D.defers]; exact hmk.step (hw.trans D.step)) (by rw [D.defers]; exact hd0)
          · obtain ⟨X, hX, hv⟩ := D.tmp t
            have : X = st2.T.get t := by
              rw [← t1]
              exact hist_agree (W := Wt ops t) (val := fun j => (s j).T.get t) (T.stepT t) (Nat.le_refl _) hX (fun j hj _ => hj) (fun j hj _ hS => by have hS' : j < ops.size := hS; omega)
            rw [← this]; exact hv
          · rw [D.size, ← t1, T.n _ (Nat.le_refl _)]
          · have h0 : (s 0).H.nx ≤ b := by
              have := T.nx ops.size 0 (by omega)
              simp only [Nat.zero_add] at this
              rw [t1] at this
              exact Nat.le_trans this hb
            rcases D.dom b h0 with g | ⟨j, hj, _, hl⟩
            · exact g
            · exfalso
              have hj' : j < ops.size := hj
              have := T.nx (ops.size - (j + 1)) (j + 1) (by omega)
              rw [show j + 1 + (ops.size - (j + 1)) = ops.size by omega, t1] at this
              omega
        · have := getD_lt hk
          simp only [Array.size_replicate] at this
          rw [Array.getD_eq_getD_getElem?] at hk; simp [this] at hk
        · have hno : ∀ j, ¬ (Array.replicate ops.size false).getD j false = true := by
            intro j hj
            have := getD_lt hj
            simp only [Array.size_replicate] at this
            rw [Array.getD_eq_getD_getElem?] at hj; simp [this] at hj
          refine ⟨Step.refl _ _, Sim.heap (w := w) rfl rfl hsr.sim, fun b => .inr ⟨fun k hk => absurd hk (hno k), by simp only [t0]⟩, fun t => ⟨st.T.get t, .inr ⟨fun k hk => absurd hk (hno k), by simp only [t0]⟩, (hsr.tm t).step hw⟩, fun b hb => .inl (hsr.new b (by rw [t0] at hb; exact hb)), by rw [t0]; exact hsr.n, rfl⟩
    · cases h
  · cases h
end Go.Proofs.Ytadipihpgcelmaa.Ab
