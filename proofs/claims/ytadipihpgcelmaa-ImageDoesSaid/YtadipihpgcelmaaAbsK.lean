/- Maps, and all operations together. -/
import Derived.Test.YtadipihpgcelmaaAbsJ
namespace Go.Proofs.Ytadipihpgcelmaa.Ab
open Go
set_option linter.unusedVariables false
set_option linter.unusedSimpArgs false

section
variable {P : Program} {C : Ctx} {K : Nat → Option AObj} {w : World} {h : AH}

/-! ### A block that holds no cells, put anew -/
theorem step_setObj (hS : Sim C K w) {b rb : Nat} {o : AObj} (hb : K b = some o) (hro : isRo o = false) (hφ : C.φ b = some rb) {ob : Obj} (hw : w.heap[rb]? = some ob) (hnc : ∀ c T f, ob ≠ Obj.cells c T f) (ob' : Obj) :
    Step C w C (setBlock w rb ob') := by
  have himm : ¬ C.imm rb := by
    rcases hS.at_ b _ hb with ⟨g, _⟩ | ⟨rb', g1, g2, g3⟩
    · rw [g] at hφ; cases hφ
    · rw [g1] at hφ; injection hφ with hφ; subst hφ
      exact fun h => by have := g3.2 h; rw [hro] at this; cases this
  refine ⟨fun _ _ h => h, fun _ _ h => .inl h, fun _ h => h, fun _ h => .inl h, by rw [setBlock_size]; exact Nat.le_refl _, fun x hx hno => ?_, fun x hx => ?_, fun x c0 T0 f0 e => ?_, rfl⟩
  · rw [setBlock_get]
    have : rb ≠ x := fun h => hno b (h ▸ hφ)
    simp [this]
  · rw [setBlock_get]
    have : rb ≠ x := fun h => himm (h ▸ hx)
    simp [this]
  · rw [setBlock_get]
    by_cases h : rb = x
    · subst h
      rw [hw] at e
      injection e with e
      exact absurd e (hnc c0 T0 f0)
    · exact ⟨c0, by simp [h, e], rfl⟩
theorem sim_setObj (hS : Sim C K w) {b rb : Nat} {o o' : AObj} (hb : K b = some o) (hro : isRo o = false) (hφ : C.φ b = some rb) {ob : Obj} (hw : w.heap[rb]? = some ob) (hnc : ∀ c T f, ob ≠ Obj.cells c T f) {ob' : Obj}
    (hro' : isRo o' = false) (hR : ORel C (setBlock w rb ob') rb o') : Sim C (updK K b (some o')) (setBlock w rb ob') := by
  have hst := step_setObj hS hb hro hφ hw hnc ob'
  have himm : ¬ C.imm rb := by
    rcases hS.at_ b _ hb with ⟨g, _⟩ | ⟨rb', g1, g2, g3⟩
    · rw [g] at hφ; cases hφ
    · rw [g1] at hφ; injection hφ with hφ; subst hφ
      exact fun h => by have := g3.2 h; rw [hro] at this; cases this
  refine ⟨fun x o1 e => ?_, fun x x' o1 o2 r e1 e2 hr f1 f2 => ?_, fun x r e => ?_, fun x e => by rw [setBlock_size]; exact hS.immlt x e⟩
  · unfold updK at e
    split at e
    · rename_i h; subst h
      injection e with e; subst e
      refine .inr ⟨rb, hφ, hR, ?_⟩
      rw [hro']
      exact ⟨fun h => (by cases h), fun h => absurd h himm⟩
    · rename_i h
      rcases hS.at_ x o1 e with ⟨g, g'⟩ | ⟨r, g1, g2, g3⟩
      · exact .inl ⟨g, g'⟩
      · have hne : rb ≠ r := fun h0 => h ((hS.inj b x _ o1 rb hb e hro hφ (h0 ▸ g1)).symm)
        exact .inr ⟨r, g1, g2.step hst (by rw [setBlock_get]; simp [hne]), g3⟩
  · unfold updK at e1 e2
    by_cases h1 : x = b <;> by_cases h2 : x' = b
    · rw [h1, h2]
    · rw [if_neg h2] at e2
      rw [h1] at f1 ⊢
      exact hS.inj b x' o o2 r hb e2 hro f1 f2
    · rw [if_neg h1] at e1
      rw [h2] at f2 ⊢
      exact hS.inj x b o1 o r e1 hb hr f1 f2
    · rw [if_neg h1] at e1; rw [if_neg h2] at e2
      exact hS.inj x x' o1 o2 r e1 e2 hr f1 f2
  · rw [setBlock_size]; exact hS.φlt x r e

/-! ### Maps of numbers -/
theorem ERel.append {es fs : List (AV × AV)} {ms ns : List MapEntry} (h1 : ERel C w es ms) (h2 : ERel C w fs ns) : ERel C w (es ++ fs) (ms ++ ns) := by
  induction es generalizing ms with
  | nil => simp only [ERel] at h1; subst h1; exact h2
  | cons p es ih =>
    obtain ⟨k, v⟩ := p
    obtain ⟨e, es', rfl, a, b, c⟩ := h1
    exact ⟨e, es' ++ ns, rfl, a, b, ih c⟩
theorem absent_rel {n : Int} : ∀ {es : List (AV × AV)} {ms : List MapEntry} {i : Nat}, absent es n = true → ERel C w es ms → Instr.findNow (.int .i64) (.int .i64 n) ms i = some none
  | [], ms, i, ha, hr => by simp only [ERel] at hr; subst hr; rfl
  | (k, v) :: es, ms, i, ha, hr => by
    obtain ⟨e, es', rfl, h1, h2, h3⟩ := hr
    cases k with
    | i a =>
      simp only [absent, Bool.and_eq_true] at ha
      have ek : e.key = .int .i64 a := by simpa only [VRel] using h1
      have : (n == a) = false := by have := ha.1; simp at this ⊢; exact fun h => this h.symm
      simp only [Instr.findNow, Instr.sameNow, ek, if_true, this]
      exact absent_rel ha.2 h3
    | _ => simp [absent] at ha
theorem lookA_rel {n : Int} : ∀ {es : List (AV × AV)} {ms : List MapEntry} {i : Nat} {r : Option AV}, lookA es n = some r → ERel C w es ms →
    (r = none ∧ Instr.findNow (.int .i64) (.int .i64 n) ms i = some none) ∨ ∃ v j u, r = some v ∧ Instr.findNow (.int .i64) (.int .i64 n) ms i = some (some (j, u)) ∧ VRel C w v u
  | [], ms, i, r, ha, hr => by simp only [ERel] at hr; subst hr; simp only [lookA, Option.some.injEq] at ha; exact .inl ⟨ha.symm, rfl⟩
  | (k, v) :: es, ms, i, r, ha, hr => by
    obtain ⟨e, es', rfl, h1, h2, h3⟩ := hr
    cases k with
    | i a =>
      simp only [lookA] at ha
      have ek : e.key = .int .i64 a := by simpa only [VRel] using h1
      split at ha
      · rename_i hx
        injection ha with ha; subst ha hx
        exact .inr ⟨v, i, e.val, rfl, by simp [Instr.findNow, Instr.sameNow, ek], h2⟩
      · rename_i hx
        have : (n == a) = false := by simp; exact fun h => hx h.symm
        rcases lookA_rel (i := i + 1) ha h3 with ⟨g1, g2⟩ | ⟨v', j, u, g1, g2, g3⟩
        · exact .inl ⟨g1, by simp only [Instr.findNow, Instr.sameNow, ek, if_true, this]; exact g2⟩
        · exact .inr ⟨v', j, u, g1, by simp only [Instr.findNow, Instr.sameNow, ek, if_true, this]; exact g2, g3⟩
    | _ => simp [lookA] at ha

theorem run_checkKey {b : Bool} {kt : TypeId} {k : IntKind} {v : Value} (hu : P.underlying kt = some (.int k)) : (Instr.checkKey b 10000 kt v).run P w = .ok () w := by
  have key : ∀ d, (Instr.checkKey b (d + 1) kt v).run P w = .ok () w := fun d => by simp [Instr.checkKey, run_und' hu]
  exact key 9999

/-- What an operation gives, as the machine's step. -/
def GivesOp (P : Program) (C : Ctx) (K : Nat → Option AObj) (w : World) (n : Nat) (r : OR) (s : Sem Next) : Prop :=
  ∃ v C' w', (s.run P w = .ok (.value v) w' ∨ (s.run P w = .ok .skip w' ∧ v = undef)) ∧ VRel C' w' r.v v ∧ Step C w C' w' ∧ Sim C' (fun b => if b ∈ r.wr then r.h.get b else K b) w' ∧ ∀ b, C.φ b = none → (b ≠ n ∨ r.h.nx = n) → C'.φ b = none
theorem Gives.op {n : Nat} {r : OR} {s : Sem Value} (g : Gives P C K w n r s) : GivesOp P C K w n r (do pure (.value (← s))) := by
  obtain ⟨v, C', w', h1, h2⟩ := g
  exact ⟨v, C', w', .inl (by simp [h1]), h2⟩

theorem evs_rel {T : Tm} {a : Act} {xs : List Operand} (hT : ∀ x ∈ xs, TRel1 C w T a x) : LRel C w false (xs.map (ev T)) (xs.map a.eval) := by
  induction xs with
  | nil => exact LRel.nil
  | cons x xs ih => exact LRel.cons (fun h => by cases h) (ev_rel (hT x (by simp))) (ih fun y hy => hT y (by simp [hy]))

theorem ov_rel {T : Tm} {a : Act} {x : Option Operand} (hT : ∀ y, x = some y → TRel1 C w T a y) : OV C w (x.map (ev T)) (x.map a.eval) := by
  cases x with
  | none => trivial
  | some y => exact ev_rel (hT y rfl)

theorem appendA_nx {t : TypeId} {t1 : Option TypeId} {s x : AV} {r : OR} (hr : appendA P h t t1 s x = some r) : r.h.nx ≠ h.nx := by
  unfold appendA at hr
  repeat' first
    | (cases hr; done)
    | (simp only [Option.some.injEq] at hr; subst hr; simp; done)
    | split at hr
theorem builtinA_rel {T : Tm} {a : Act} {o : Oper} {c : Call} {bi : Builtin} {r : OR} (hS : Sim C K w) (hn : r.h.nx ≠ h.nx → C.φ h.nx = none) (ho : o.op = .call c) (hc : c.callee = .builtin bi) (hr : builtinA P h bi c.argTypes (c.args.toList.map (ev T)) = some r)
    (hK : ∀ b ∈ r.rd, K b = h.get b) (hT : ∀ x ∈ c.args.toList, TRel1 C w T a x) : GivesOp P C K w h.nx r (execOp a.eval o) := by
  have hl := evs_rel hT
  generalize hxs : c.args.toList.map (ev T) = xs at hr hl
  have hargs : c.args.map a.eval = (c.args.toList.map a.eval).toArray := by apply Array.ext'; simp
  generalize hvs : c.args.toList.map a.eval = vs at hl hargs
  have hex : ∀ {f : Sem Value}, builtin bi c.argTypes o.type (c.args.map fun | .const _ => true | _ => false) vs.toArray = (do pure (.value (← f))) → Gives P C K w h.nx r f → GivesOp P C K w h.nx r (execOp a.eval o) := by
    intro f hf g
    have : execOp a.eval o = (do pure (.value (← f))) := by
      simp only [execOp, ho, resolve, hc, invoke]
      rw [hargs, ← hf]
      rfl
    rw [this]
    exact g.op
  unfold builtinA at hr
  split at hr
  · -- len
    rename_i x
    obtain ⟨v, rfl, hv, _⟩ := hl.one1
    split at hr
    · rename_i t ht
      split at hr
      · rename_i ti hti
        obtain ⟨hTy⟩ := tinfo_spec hti
        split at hr
        · cases hr
        · rename_i y _ _ e hk hne
          cases hn' : lenA y with
          | none => rw [hn'] at hr; cases hr
          | some n =>
            rw [hn'] at hr
            simp only [Option.bind_some, quiet, Option.some.injEq] at hr; subst hr
            rcases lenA_rel hn' hv with ⟨a', c', rfl⟩ | ⟨l, rfl⟩
            · have hd := kindOf_slice (hk ▸ hTy.kind)
              have hu : (underlying t).run P w = .ok (.slice e) w := by rw [hTy.run_und, hd]
              refine hex rfl (gives_quiet (v := .int .i64 n) hS ?_ (by simp only [VRel]))
              simp [Builtin.len_, ht, hu, goInt]
            · exact (hne l rfl).elim
        · rename_i l hk
          simp only [quiet, Option.some.injEq] at hr; subst hr
          have hd := kindOf_string (hk ▸ hTy.kind)
          have hu : (underlying t).run P w = .ok .string w := by rw [hTy.run_und, hd]
          have e : v = .string ⟨l.toArray⟩ := by simpa only [VRel] using hv
          subst e
          refine hex rfl (gives_quiet (v := .int .i64 l.length) hS ?_ (by simp only [VRel]))
          simp [Builtin.len_, ht, hu, goInt]
          rfl
        · cases hr
      · cases hr
    · cases hr
  · -- append
    rename_i s x
    simp only [LRel] at hl
    obtain ⟨v1, r1, rfl, _, hv1, v2, r2, rfl, _, hv2, rfl⟩ := hl
    split at hr
    · rename_i t ht
      exact hex rfl (appendA_rel hS (hn (appendA_nx hr)) ht hr hK hv1 hv2)
    · cases hr
  · -- copy
    rename_i d x
    simp only [LRel] at hl
    obtain ⟨v1, r1, rfl, _, hv1, v2, r2, rfl, _, hv2, rfl⟩ := hl
    split at hr
    · rename_i t ht
      exact hex rfl (copyA_rel hS ht hr hK hv1 hv2)
    · cases hr
  · rename_i b xs'
    simp only [LRel] at hl
    obtain ⟨v1, r1, rfl, _, hv1, hl⟩ := hl
    have e : v1 = .int .i64 b := by simpa only [VRel] using hv1
    subst e
    cases hm : minA b xs' with
    | none => rw [hm] at hr; cases hr
    | some m =>
      rw [hm] at hr
      simp only [Option.bind_some, quiet, Option.some.injEq] at hr; subst hr
      refine hex rfl (gives_quiet (v := .int .i64 m) hS ?_ (by simp only [VRel]))
      simp [Builtin.min_, minA_rel hm hl]
  · rename_i b xs'
    simp only [LRel] at hl
    obtain ⟨v1, r1, rfl, _, hv1, hl⟩ := hl
    have e : v1 = .int .i64 b := by simpa only [VRel] using hv1
    subst e
    cases hm : maxA b xs' with
    | none => rw [hm] at hr; cases hr
    | some m =>
      rw [hm] at hr
      simp only [Option.bind_some, quiet, Option.some.injEq] at hr; subst hr
      refine hex rfl (gives_quiet (v := .int .i64 m) hS ?_ (by simp only [VRel]))
      simp [Builtin.max_, maxA_rel hm hl]
  · cases hr
end
end Go.Proofs.Ytadipihpgcelmaa.Ab
