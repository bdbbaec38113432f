/- Operations of a region, one by one; a region in the text's order. -/
import Derived.Test.YtadipihpgcelmaaAbsR
namespace Go.Proofs.Ytadipihpgcelmaa.Ab
open Go
set_option linter.unusedVariables false
set_option linter.unusedSimpArgs false

/-! ### One operation -/
theorem doA_rel {P : Program} {cf : Cfg} {rec : Rec} (hrec : Sound P rec) (hcl : CloneOk P cf.clone) {o : Oper} {st : St} {r : CR} (hr : doA P cf rec o.op st = some r) : OpSound P o st r := by
  have hbase : ∀ {q : OR}, aOp P st.H st.T o.op = some q → r = ofOR q → OpSound P o st r := by
    intro q hq e
    subst e
    have hf := aOp_frm hq
    refine ⟨hf, fun C K a w ro n Q next hS hK hnew hT hnext => ?_⟩
    have hnd : ∀ c, o.op ≠ .defer c := fun c e => by rw [e] at hq; simp [aOp] at hq
    rw [Oper.semAt_eq ro a.eval o hnd]
    have hin : q.h.nx ≠ st.H.nx → inF (some q.wr) st.H.nx := fun hne => hf.2.1 _ (Nat.le_refl _) (by have := hf.1; omega)
    obtain ⟨v, C', w', hrun, hv, hst, hsim, hdom⟩ := aOp_rel (T := st.T) (a := a) (o := o) hq hS (fun hne => hnew _ (hin hne) (Nat.le_refl _)) (fun b hb => hK b hb) hT
    have hgo := hnext v C' w' hv hst hsim fun b e hb => hdom b e (by
      by_cases h1 : b = st.H.nx
      · subst h1
        by_cases h2 : q.h.nx = st.H.nx
        · exact .inr h2
        · rcases hb with hb | hb
          · exact absurd (hin h2) hb
          · have := hf.1; exact absurd (Nat.le_antisymm hb this) h2
      · exact .inl h1)
    rcases hrun with hrun | ⟨hrun, rfl⟩
    · rw [hrun]; exact hgo
    · rw [hrun]; exact hgo
  have hmap : (aOp P st.H st.T o.op).map ofOR = some r → OpSound P o st r := by
    intro h
    cases hq : aOp P st.H st.T o.op with
    | none => rw [hq] at h; cases h
    | some q =>
      rw [hq] at h
      simp only [Option.map_some, Option.some.injEq] at h
      exact hbase hq h.symm
  unfold doA at hr
  split at hr
  · rename_i c hop
    split at hr
    · rename_i x hc
      exact call_rel hrec hcl hop hc hr
    · exact hmap hr
  · exact hmap hr

def setO (T : Tm) (d : Option Tmp) (v : AV) : Tm := match d with | some d => T.set d v | none => T
theorem putA_spec {st st' : St} {d : Option Tmp} {v : AV} (h : putA st d v = some st') : st'.H = st.H ∧ st'.n = st.n ∧ st'.q = st.q ∧ st'.T = setO st.T d v ∧ ∀ t, d = some t → t < st.n := by
  unfold putA at h
  split at h
  · split at h
    · rename_i hd
      injection h with h; subst h
      exact ⟨rfl, rfl, rfl, rfl, fun t e => by injection e with e; subst e; exact hd⟩
    · cases h
  · injection h with h; subst h
    exact ⟨rfl, rfl, rfl, rfl, fun t e => by cases e⟩

/-- How an operation goes on. -/
def wpOne (P : Program) (ops : Array Oper) (ro : Option Nat) (n : Nat) (Q : Exit → Act → World → Prop) (o : Oper) (next : Act → World → Prop) (a : Act) (w : World) : Prop :=
  if Region.wanted o (yielded ops a.tmps) = true then o.wpIn (fen ro) n P a w next Q else (∀ f, o.about P w a.eval = some f → (fen ro).fn f) ∧ next (a.put o.dst undef) w

/-- What is told of an operation. -/
structure OperOk (P : Program) (ops : Array Oper) (o : Oper) (st st' : St) (ft : Ft) : Prop where
  frm : Frm st.H st'.H ft.2
  n : st'.n = st.n
  q : st'.q = st.q
  dst : ∀ t, o.dst = some t → t < st.n
  run : ∃ V, st'.T = setO st.T o.dst V ∧ ∀ (C : Ctx) (K : Nat → Option AObj) (a : Act) (w : World) (ro : Option Nat) (n : Nat) (Q : Exit → Act → World → Prop) (next : Act → World → Prop),
    Sim C K w → (∀ b, inF ft.1 b → K b = st.H.get b) → (∀ b, inF ft.2 b → st.H.nx ≤ b → C.φ b = none) → (∀ t ∈ o.looksAt ops, VRel C w (st.T.get t) (a.tmps.getD t undef)) →
    (∀ v C' w', VRel C' w' V v → Step C w C' w' → Sim C' (wrK ft.2 st'.H K) w' → (∀ b, C.φ b = none → (¬ inF ft.2 b ∨ st'.H.nx ≤ b) → C'.φ b = none) → next (a.put o.dst v) w') →
    wpOne P ops ro n Q o next a w

theorem wantedA_spec {ops : Array Oper} {T : Tm} {o : Oper} {b : Bool} (h : wantedA ops T o = some b) {C : Ctx} {w : World} {a : Act} (hT : ∀ t ∈ o.looksAt ops, VRel C w (T.get t) (a.tmps.getD t undef)) :
    Region.wanted o (yielded ops a.tmps) = b := by
  unfold wantedA at h
  unfold Region.wanted
  split at h
  · rename_i hg; rw [hg]; injection h
  · rename_i j want hg
    rw [hg]
    simp only
    split at h
    · rename_i d hd
      have hl : d ∈ o.looksAt ops := by
        unfold Oper.looksAt
        rw [hg]
        simp [hd]
      have hv := hT d hl
      unfold yielded
      rw [hd]
      simp only [Option.bind_some]
      split at h
      · rename_i x hx
        injection h with h; subst h
        rw [hx] at hv
        simp only [VRel] at hv
        have : a.tmps[d]? = some (.bool x) := by
          rw [Array.getD_eq_getD_getElem?] at hv
          cases e : a.tmps[d]? with
          | none => rw [e] at hv; simp [undef] at hv
          | some y => rw [e] at hv; simp at hv; rw [hv]
        rw [this]
        simp
      · rename_i hx
        injection h with h; subst h
        rw [hx] at hv
        simp only [VRel, LRel] at hv
        obtain ⟨vs, hv, rfl⟩ := hv
        rw [Array.getD_eq_getD_getElem?] at hv
        cases e : a.tmps[d]? with
        | none => simp
        | some y => rw [e] at hv; simp at hv; rw [hv]; simp
      · cases h
    · cases h

theorem operA_rel {P : Program} {cf : Cfg} {rec : Rec} (hrec : Sound P rec) (hcl : CloneOk P cf.clone) {ops : Array Oper} {o : Oper} {st st' : St} {ft : Ft} (h : operA P cf rec ops o st = some (st', ft)) : OperOk P ops o st st' ft := by
  unfold operA at h
  split at h
  · cases h
  · rename_i hw
    split at h
    · rename_i s hp
      simp only [Option.some.injEq, Prod.mk.injEq] at h
      obtain ⟨rfl, rfl⟩ := h
      obtain ⟨h1, h2, h3, h4, h5⟩ := putA_spec hp
      refine ⟨by rw [h1]; exact Frm.same _, h2, h3, h5, _, h4, fun C K a w ro n Q next hS hK hnew hT hnext => ?_⟩
      unfold wpOne
      rw [wantedA_spec hw hT]
      refine ⟨fun _ _ => trivial, hnext undef C w ?_ (Step.refl C w) ?_ fun b e _ => e⟩
      · simp only [VRel, undef]; exact ⟨[], rfl, LRel.nil⟩
      · simpa [wrK] using hS
    · cases h
  · rename_i hw
    split at h
    · rename_i r hr
      split at h
      · rename_i s hp
        simp only [Option.some.injEq, Prod.mk.injEq] at h
        obtain ⟨rfl, rfl⟩ := h
        obtain ⟨h1, h2, h3, h4, h5⟩ := putA_spec hp
        simp only at h1 h2 h3 h4 h5
        obtain ⟨hf, hgo⟩ := doA_rel hrec hcl hr
        refine ⟨by rw [h1]; exact hf, h2, h3, h5, r.v, h4, fun C K a w ro n Q next hS hK hnew hT hnext => ?_⟩
        unfold wpOne
        rw [wantedA_spec hw hT]
        refine ⟨fun _ _ => trivial, hgo C K a w ro n Q next hS hK hnew (fun x hx t e => hT t ?_) fun v C' w' k1 k2 k3 k4 => hnext v C' w' k1 k2 (by rw [h1]; exact k3) (by rw [h1]; exact k4)⟩
        subst e
        exact List.mem_append_left _ (List.mem_filterMap.2 ⟨.tmp t, by simpa using hx, rfl⟩)
      · cases h
    · cases h

theorem wpOpIn_one {P : Program} {ops : Array Oper} {ro : Option Nat} {n : Nat} {Q : Exit → Act → World → Prop} {i : Nat} {o : Oper} (ho : ops[i]? = some o) {next : Act → World → Prop} {a : Act} {w : World} (h : wpOne P ops ro n Q o next a w) : wpOpIn (fen ro) n P ops Q i next a w := by
  unfold wpOpIn; rw [ho]; exact h

/-- A state's relation, after an operation. -/
theorem TmRel.put {C : Ctx} {w : World} {T : Tm} {a : Act} {d : Option Tmp} {x : AV} {v : Value} (h : TmRel C w T a.tmps) (hd : ∀ t, d = some t → t < a.tmps.size) (hv : VRel C w x v) : TmRel C w (setO T d x) (a.put d v).tmps := by
  cases d with
  | none => exact h
  | some d => exact h.set (hd d rfl) hv
theorem put_size (a : Act) (d : Option Tmp) (v : Value) : (a.put d v).tmps.size = a.tmps.size := by cases d <;> simp [Act.put]
theorem put_defers (a : Act) (d : Option Tmp) (v : Value) : (a.put d v).defers = a.defers := by cases d <;> rfl

theorem wrK_full {h h' : AH} {wr : Option (List Nat)} (hf : Frm h h' wr) (b : Nat) : wrK wr h' h.get b = h'.get b := by
  cases wr with
  | none => rfl
  | some l =>
    simp only [wrK]
    split
    · rfl
    · rename_i hb; exact (hf.2.2 b hb).symm

theorem opsA_rel {P : Program} {cf : Cfg} {rec : Rec} (hrec : Sound P rec) (hcl : CloneOk P cf.clone) {ops : Array Oper} : ∀ {l : List Nat} {st st' : St} {fts : List Ft}, opsA P cf rec ops l st = some (st', fts) →
    st'.q = st.q ∧ st'.n = st.n ∧ st.H.nx ≤ st'.H.nx ∧ ∀ (C : Ctx) (a : Act) (w : World) (s0 : Nat) (ro : Option Nat) (n : Nat) (Q : Exit → Act → World → Prop), SRel C st a w → MarksOk C w s0 a.defers → (ro.isSome = true → a.defers = []) →
      After C w st' s0 ro (Q .normal) → wpOpsIn (fen ro) n P ops Q l a w
  | [], st, st', fts, h => by
    simp only [opsA, Option.some.injEq, Prod.mk.injEq] at h; obtain ⟨rfl, rfl⟩ := h
    exact ⟨rfl, rfl, Nat.le_refl _, fun C a w s0 ro n Q hsr hm hd hQ => hQ C a w (Step.refl C w) hsr hm hd⟩
  | i :: l, st, st', fts, h => by
    simp only [opsA] at h
    split at h
    · rename_i o ho
      split at h
      · rename_i st1 ft h1
        split at h
        · rename_i st2 fts' h2
          simp only [Option.some.injEq, Prod.mk.injEq] at h; obtain ⟨rfl, rfl⟩ := h
          have hok := operA_rel hrec hcl h1
          obtain ⟨e1, e1n, e2, e3⟩ := opsA_rel hrec hcl h2
          refine ⟨e1.trans hok.q, e1n.trans hok.n, Nat.le_trans hok.frm.1 e2, fun C a w s0 ro n Q hsr hm hd hQ => ?_⟩
          rw [wpOpsIn_cons]
          refine wpOpIn_one ho ?_
          obtain ⟨V, hV, hrun⟩ := hok.run
          refine hrun C st.H.get a w ro n Q _ hsr.sim (fun _ _ => rfl) (fun b _ hb => hsr.new b hb) (fun t _ => hsr.tm t) fun v C' w' k1 k2 k3 k4 => ?_
          refine e3 C' _ w' s0 ro n Q ⟨?_, ?_, k3.congr fun b => (wrK_full hok.frm b).symm, fun b hb => k4 b (hsr.new b (Nat.le_trans hok.frm.1 hb)) (.inr hb)⟩ (by rw [put_defers]; exact hm.step k2) (by rw [put_defers]; exact hd) fun C'' a'' w'' g1 g2 g3 g4 => hQ C'' a'' w'' (k2.trans g1) g2 g3 g4
          · rw [hV]; exact TmRel.put (hsr.tm.step k2) (fun t e => by rw [hsr.n]; exact hok.dst t e) k1
          · rw [put_size, hsr.n, hok.n]
        · cases h
      · cases h
    · cases h
end Go.Proofs.Ytadipihpgcelmaa.Ab
