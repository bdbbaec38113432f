/- A function that clones a slice, walked; a law that takes nothing. -/
import Derived.Test.YtadipihpgcelmaaAbsU
import Derived.Lib.SliceRun
import Derived.Below
namespace Go.Proofs.Ytadipihpgcelmaa.Ab
open Go
set_option linter.unusedVariables false
set_option linter.unusedSimpArgs false

/-- A slice's type, its elements' cells and bytes. -/
def cloneTy (P : Program) (t z wd : Nat) : Bool :=
  match tinfo P t with
  | some ti => match ti.k with
    | .slice e => match tinfo P e with
      | some ei => ei.size == z && ei.zero.length == z && ei.bytes == wd
      | none => false
    | _ => false
  | none => false
theorem cloneTy_spec {P : Program} {t z wd : Nat} (h : cloneTy P t z wd = true) : ∃ e ti ei, tinfo P t = some ti ∧ ti.k = .slice e ∧ tinfo P e = some ei ∧ ei.size = z ∧ ei.zero.length = z ∧ ei.bytes = wd := by
  unfold cloneTy at h
  split at h
  · rename_i ti ht
    split at h
    · rename_i e hk
      split at h
      · rename_i ei he
        simp only [Bool.and_eq_true, beq_iff_eq] at h
        exact ⟨e, ti, ei, ht, hk, he, h.1.1, h.1.2, h.2⟩
      · cases h
    · cases h
  · cases h
theorem sl_form {C : Ctx} {w : World} {h : AH} {z n : Nat} {x : AV} {cs : List AV} {rd : List Nat} {v : Value} (hc : slCells h z x = some (n, cs, rd)) (hv : VRel C w x v) : ∃ a m c, v = .slice a m c ∧ (a = none → n = 0 ∧ cs = []) := by
  cases x <;> simp only [slCells] at hc <;> first | (cases hc; done) | skip
  · simp only [VRel] at hv
    obtain ⟨a, rfl⟩ := hv
    simp only [Option.some.injEq, Prod.mk.injEq] at hc; obtain ⟨rfl, rfl, rfl⟩ := hc
    exact ⟨a, 0, 0, rfl, fun _ => ⟨rfl, rfl⟩⟩
  · rename_i n' cs'
    simp only [VRel] at hv
    obtain ⟨a, c, rfl, hle, hv⟩ := hv
    split at hc
    · rename_i hl
      simp only [Option.some.injEq, Prod.mk.injEq] at hc; obtain ⟨rfl, rfl, rfl⟩ := hc
      refine ⟨a, _, c, rfl, fun ha => ?_⟩
      rcases hv with hv | ⟨ad, vs, e, _⟩
      · subst hv; simp at hl; exact ⟨rfl, hl⟩
      · rw [e] at ha; cases ha
    · cases hc
  · rename_i b z' off n'
    simp only [VRel] at hv
    obtain ⟨a, c, rfl, hle, hv⟩ := hv
    split at hc
    · rename_i hz
      split at hc
      · split at hc
        · rename_i hl
          simp only [Option.some.injEq, Prod.mk.injEq] at hc; obtain ⟨rfl, rfl, rfl⟩ := hc
          refine ⟨a, _, c, rfl, fun ha => ?_⟩
          rcases hv with hv | ⟨rb, _, e, _⟩
          · have : n' = 0 := by omega
            subst this; simp
          · rw [e] at ha; cases ha
        · cases hc
      · cases hc
    · cases hc

/-- The contract of one function that clones. -/
def CloneAt (P : Program) (f : FuncId) (z wd : Nat) : Prop := (∃ fn, P.funcs[f]? = some fn ∧ (fn.name == "runtime.NumGoroutine") = false ∧ fn.body.isNone = false) ∧
    ∀ (C : Ctx) (K : Nat → Option AObj) (h : AH) (w : World) (x : AV) (n : Nat) (cs : List AV) (rd : List Nat) (v : Value) (m : Nat) (R : Ending → World → Prop), Sim C K w → (∀ b ∈ rd, K b = h.get b) → slCells h z x = some (n, cs, rd) →
      n ≤ 4294967296 → wd ≤ 4096 → 0 < z → C.φ h.nx = none → VRel C w x v →
      (∀ C' w' y, VRel C' w' (.rf h.nx z 0 n) y → Step C w C' w' → Sim C' (updK K h.nx (some (.cells cs))) w' → (∀ b, C.φ b = none → b ≠ h.nx → C'.φ b = none) → R (.returned y) w') → CallsIn Fence.wide m P f #[v] w R
theorem cloneOk_nil (P : Program) : CloneOk P [] := fun f z wd h => by cases h
theorem cloneOk_cons {P : Program} {f z wd : Nat} {l : List (FuncId × Nat × Nat)} (h : CloneAt P f z wd) (hl : CloneOk P l) : CloneOk P ((f, z, wd) :: l) := by
  intro g z' wd' e
  simp only [cloneOf, nbeq] at e
  by_cases hg : f = g
  · subst hg
    simp only [decide_true, cond_true, Option.some.injEq, Prod.mk.injEq] at e
    obtain ⟨rfl, rfl⟩ := e
    exact h
  · simp only [hg, decide_false, cond_false] at e
    exact hl g z' wd' e

theorem wpOpIn_go {P : Program} {m : Nat} {ops : Array Oper} {Q : Exit → Act → World → Prop} {i : Nat} {o : Oper} (ho : ops[i]? = some o) (hg : o.guard = none) {next : Act → World → Prop} {a : Act} {w : World}
    (h : o.uponIn Fence.wide m P a next Q ((execOp a.eval o).run P w)) (hnd : ∀ c, o.op ≠ .defer c := by intro c h; cases h) : wpOpIn Fence.wide m P ops Q i next a w := by
  unfold wpOpIn
  rw [ho]
  have : Region.wanted o (yielded ops a.tmps) = true := by unfold Region.wanted; rw [hg]
  simp only [this, if_true]
  exact ⟨fun _ _ => trivial, by rw [Oper.semAt_eq _ _ _ hnd]; exact h⟩
theorem upon_of_gives {P : Program} {m : Nat} {C : Ctx} {K : Nat → Option AObj} {w : World} {n : Nat} {r : OR} {o : Oper} {a : Act} {next : Act → World → Prop} {Q : Exit → Act → World → Prop} (g : GivesOp P C K w n r (execOp a.eval o)) (hnd : ∀ c, o.op ≠ .defer c)
    (h : ∀ v C' w', VRel C' w' r.v v → Step C w C' w' → Sim C' (fun b => if b ∈ r.wr then r.h.get b else K b) w' → (∀ b, C.φ b = none → (b ≠ n ∨ r.h.nx = n) → C'.φ b = none) → next (a.put o.dst v) w') :
    o.uponIn Fence.wide m P a next Q ((execOp a.eval o).run P w) := by
  obtain ⟨v, C', w', hrun, h1, h2, h3, h4⟩ := g
  have hgo := h v C' w' h1 h2 h3 h4
  rcases hrun with hrun | ⟨hrun, rfl⟩
  · rw [hrun]; exact hgo
  · rw [hrun]; exact hgo

theorem clone_at {P : Program} {f t z wd : Nat} {fn : Func} {i0 i1 i2 i3 : Nat} {y0 y1 y2 y3 y4 y5 y6 y7 : TypeId} {p0 p1 p2 p3 p4 p5 p6 p7 : String} {b0 b1 b2 b3 b4 b5 b6 b7 : Array Edge}
    (hf : P.funcs[f]? = some fn) (hb : fn.body = some (.seq (.region i0 #[⟨some 2, .assign (.const (.slice none 0 0)), y0, p0, b0, none⟩] false) (.seq (.seq (.region i1 #[⟨some 3, .move (.tmp 0), y1, p1, b1, none⟩, ⟨some 4, .binOp .eql t (.tmp 3) (.const (.slice none 0 0)) t, y2, p2, b2, none⟩] false) (.cond (.tmp 4) (.seq (.region i2 #[⟨some 2, .assign (.const (.slice none 0 0)), y3, p3, b3, none⟩] false) .ret) .skip)) (.seq (.region i3 #[⟨some 5, .buildSlice t 0 #[], y4, p4, b4, none⟩, ⟨some 6, .move (.tmp 0), y5, p5, b5, none⟩, ⟨some 7, .call ⟨.builtin .append, #[.tmp 5, .tmp 6], #[t, t]⟩, y6, p6, b6, none⟩, ⟨some 2, .assign (.tmp 7), y7, p7, b7, none⟩] false) .ret))))
    (hr : fn.results = #[.tmp 2]) (hnt : fn.ntmps = 8) (hname : (fn.name == "runtime.NumGoroutine") = false) (ht : cloneTy P t z wd = true) : CloneAt P f z wd := by
  refine ⟨⟨fn, hf, hname, by rw [hb]; rfl⟩, fun C K h w x n cs rd v m R hS hK hsl hn hwd hz hφ hv hR => ?_⟩
  obtain ⟨e, ti, ei, h1, h2, h3, h4, h5, h6⟩ := cloneTy_spec ht
  obtain ⟨hT⟩ := tinfo_spec h1
  have hund : P.underlying t = some (.slice e) := by
    rw [hT.und]
    have := hT.kind
    rw [h2] at this
    cases hd : hT.d <;> rw [hd] at this <;> simp [kindOf] at this
    rw [this]
  obtain ⟨a, len, cap, rfl, hnil⟩ := sl_form hsl hv
  refine callsIn_of_wp hf hb trivial ?_
  rw [hnt]
  have hg : ∀ w, (eqGuard .eql t (.tmp 3) (.const (.slice none 0 0)) (.slice a len cap) (.slice none 0 0)).run P w = .ok () w := fun w => by unfold eqGuard; rfl
  have heq : ∀ w, (binOp .eql t (.slice a len cap) (.slice none 0 0)).run P w = .ok (.bool a.isNone) w := fun w => Lib.run_eql_slice_nil w t e a len cap 0 0 hund
  have hlr : List.range 4 = [0, 1, 2, 3] := by decide
  have hlr2 : List.range 2 = [0, 1] := by decide
  have hlr1 : List.range 1 = [0] := by decide
  have hrep : (#[Value.slice a len cap] ++ Array.replicate (8 - #[Value.slice a len cap].size) undef) = #[.slice a len cap, undef, undef, undef, undef, undef, undef, undef] := by rfl
  rw [hrep]
  refine wpIn_seq (wpIn_region ?_)
  simp only [List.size_toArray, List.length_cons, List.length_nil, Nat.zero_add, hlr1, wpOpsIn, List.getElem?_toArray, List.getElem?_cons_zero, Region.wanted, if_true, Oper.wpIn, Oper.about, Oper.semAt_none, execOp, Sem.run_pure, Oper.uponIn_value, Exit.then]
  refine ⟨fun _ h => (by cases h), wpIn_seq (wpIn_seq (wpIn_region ?_))⟩
  simp only [List.size_toArray, List.length_cons, List.length_nil, Nat.zero_add, hlr2, wpOpsIn, List.getElem?_toArray, List.getElem?_cons_zero, List.getElem?_cons_succ, Region.wanted, if_true, Oper.wpIn, Oper.about, Oper.semAt_none, execOp, Sem.run_pure, Oper.uponIn_value, Exit.then]
  refine ⟨fun _ h => (by cases h), fun _ h => (by cases h), ?_⟩
  have e1 : ((do let v : Value ← (do eqGuard .eql t (.tmp 3) (.const (.slice none 0 0)) (.slice a len cap) (.slice none 0 0); binOp .eql t (.slice a len cap) (.slice none 0 0)); pure (Next.value v)) : Sem Next).run P w = .ok (.value (.bool a.isNone)) w := by
    simp only [Sem.run_bind, hg, heq, Result.andThen_ok, Sem.run_pure]
  refine (?_ : Oper.uponIn _ _ _ _ _ _ _ (((do let v : Value ← (do eqGuard .eql t (.tmp 3) (.const (.slice none 0 0)) (.slice a len cap) (.slice none 0 0); binOp .eql t (.slice a len cap) (.slice none 0 0)); pure (Next.value v)) : Sem Next).run P w))
  rw [e1, Oper.uponIn_value]
  refine wpIn_cond (t := a.isNone) rfl ?_
  cases ha : a.isNone with
  | true =>
    have ha' : a = none := by cases a <;> simp_all
    obtain ⟨rfl, rfl⟩ := hnil ha'
    rw [if_pos rfl]
    refine wpIn_seq (wpIn_region ?_)
    simp only [List.size_toArray, List.length_cons, List.length_nil, Nat.zero_add, hlr1, wpOpsIn, List.getElem?_toArray, List.getElem?_cons_zero, Region.wanted, if_true, Oper.wpIn, Oper.about, Oper.semAt_none, execOp, Sem.run_pure, Oper.uponIn_value, Exit.then]
    refine ⟨fun _ h => (by cases h), wpIn_ret ?_⟩
    refine ⟨rfl, .slice none 0 0, ?_, hR C w _ ?_ (Step.refl C w) (sim_nowhere hS hφ) fun b e _ => e⟩
    · simp [results, hr, Act.put]
      rfl
    · simp only [VRel]; exact ⟨none, 0, rfl, Nat.le_refl _, .inl rfl⟩
  | false =>
    rw [if_neg (by simp)]
    refine wpIn_skip (wpIn_seq (wpIn_region ?_))
    simp only [List.size_toArray, List.length_cons, List.length_nil, Nat.zero_add, hlr]
    have r0 : aOp P h [] (.buildSlice t 0 #[]) = some ⟨.nl, h, [], []⟩ := by
      simp [aOp, h1, h2, h3, h4, h5, hz, quiet]
    have r2 : aOp P h [(5, .nl), (6, x)] (.call ⟨.builtin .append, #[.tmp 5, .tmp 6], #[t, t]⟩) = some ⟨.rf h.nx ei.size 0 n, h.new (.cells cs), rd, [h.nx]⟩ := by
      have g5 : ev [(5, .nl), (6, x)] (.tmp 5) = .nl := rfl
      have g6 : ev [(5, .nl), (6, x)] (.tmp 6) = x := rfl
      simp only [aOp, List.map_cons, List.map_nil, g5, g6, builtinA, List.getElem?_toArray, List.getElem?_cons_zero, List.getElem?_cons_succ, appendA, h1, h2, h3, noInt, h4, h5]
      rw [hsl]
      simp [hn, h6, hwd, hz]
    rw [wpOpsIn_cons]
    refine wpOpIn_go (o := ⟨some 5, .buildSlice t 0 #[], y4, p4, b4, none⟩) rfl rfl (upon_of_gives (r := ⟨.nl, h, [], []⟩) (aOp_rel (h := h) (T := []) r0 hS (fun hne => absurd rfl hne) (by simp) (fun y hy => by simp [Op.operands] at hy)) (fun _ e => by cases e) fun v5 C1 w1 k1 k2 k3 k4 => ?_)
    rw [wpOpsIn_cons]
    refine wpOpIn_go (o := ⟨some 6, .move (.tmp 0), y5, p5, b5, none⟩) rfl rfl ?_
    simp only [execOp, Sem.run_pure, Oper.uponIn_value]
    rw [wpOpsIn_cons]
    refine wpOpIn_go (o := ⟨some 7, .call ⟨.builtin .append, #[.tmp 5, .tmp 6], #[t, t]⟩, y6, p6, b6, none⟩) rfl rfl (upon_of_gives (r := ⟨.rf h.nx ei.size 0 n, h.new (.cells cs), rd, [h.nx]⟩) (aOp_rel (h := h) (T := [(5, .nl), (6, x)]) r2 (K := K) (C := C1) (k3.congr fun b => by simp) (fun _ => k4 _ hφ (.inr rfl)) hK ?_) (fun _ e => by cases e) fun v7 C2 w2 j1 j2 j3 j4 => ?_)
    · intro y hy
      simp only [Op.operands, Call.operands] at hy
      intro t' e
      have : y = .tmp 5 ∨ y = .tmp 6 := by simpa using hy
      rcases this with rfl | rfl
      · injection e with e; subst e; exact k1
      · injection e with e; subst e; exact hv.step k2
    · rw [wpOpsIn_cons]
      refine wpOpIn_go (o := ⟨some 2, .assign (.tmp 7), y7, p7, b7, none⟩) rfl rfl ?_
      simp only [execOp, Sem.run_pure, Oper.uponIn_value]
      simp only [wpOpsIn, Exit.then]
      refine wpIn_ret ⟨rfl, v7, ?_, hR C2 w2 _ (h4 ▸ j1) (k2.trans j2) (j3.congr fun b => ?_) fun b e hb => j4 b (k4 b e (.inr rfl)) (.inl hb)⟩
      · simp [results, hr, Act.put]
        rfl
      · simp only [List.mem_singleton, updK, AH.get_new]
        by_cases e : b = h.nx
        · subst e; simp [live]
        · simp [e]

/-! ### A law's call -/
/-- Every block that is there is one that nobody writes. -/
def C0 (w : World) : Ctx := { φ := fun _ => none, imm := fun b => b < w.heap.size }
theorem sim_C0 (w : World) : Sim (C0 w) AH.empty.get w where
  at_ b o e := by rw [AH.get_empty] at e; cases e
  inj b b' o o' rb e := by rw [AH.get_empty] at e; cases e
  φlt b rb e := by cases e
  immlt b e := e
theorem true_below {P : Program} (hm : P.follows .mixedOrders = true) {cf : Cfg} (hcl : CloneOk P cf.clone) {k : Nat} {f : FuncId} {args : List AV} (h : aCall P cf k f args = some (.b true)) {w : World} {vs : List Value} (hl : LRel (C0 w) w false args vs) :
    Calls P f vs.toArray w fun e w' => e = .returned (.bool true) ∧ RowKit.Below w.heap.size w w' := by
  refine aCall_calls hm hcl h (sim_C0 w) (fun _ => rfl) hl fun C' w' x hs _ hv => ?_
  simp only [VRel] at hv
  subst hv
  have he := hs.env
  simp only [envOf, Prod.mk.injEq] at he
  exact ⟨rfl, he.1, he.2.1, he.2.2, hs.size, fun b hb => hs.keep b hb fun i e => by cases e⟩
end Go.Proofs.Ytadipihpgcelmaa.Ab
