/- States told in fewer words: blocks from a base on numbered anew, some given up for good, their slices told as values. -/
import Derived.Test.YtadipihpgcelmaaAbsW
namespace Go.Proofs.Ytadipihpgcelmaa.Ab
open Go
set_option linter.unusedVariables false
set_option linter.unusedSimpArgs false

structure Rn where
  H : AH
  base : Nat
  ord : List Nat
  frz : List Nat
def Rn.m (R : Rn) (b' : Nat) : Option Nat := if b' < R.base then some b' else R.ord[b' - R.base]?

mutual
inductive VTo (R : Rn) : AV → AV → Prop
  | top (v : AV) : VTo R v .top
  | pur {v v' : AV} {bs : List Nat} (k : Nat) (h : purV R.H false k v = some (v', bs)) (hb : ∀ b ∈ bs, b ∈ R.frz) : VTo R v v'
  | rf {b b' z off n : Nat} (h : R.m b' = some b) : VTo R (.rf b z off n) (.rf b' z off n)
  | pt {b b' off : Nat} (h : R.m b' = some b) : VTo R (.pt b off) (.pt b' off)
  | yl {b b' : Nat} (h : R.m b' = some b) : VTo R (.yl b) (.yl b')
  | mp {b b' : Nat} (h : R.m b' = some b) : VTo R (.mp b) (.mp b')
  | nl {b' z : Nat} : VTo R .nl (.rf b' z 0 0)
  | nl0 : VTo R .nl .nl
  | ag {xs ys : List AV} (h : LTo R xs ys) : VTo R (.ag xs) (.ag ys)
  | tu {xs ys : List AV} (h : LTo R xs ys) : VTo R (.tu xs) (.tu ys)
  | fn {f : FuncId} {xs ys : List AV} (h : LTo R xs ys) : VTo R (.fn f xs) (.fn f ys)
inductive LTo (R : Rn) : List AV → List AV → Prop
  | nil : LTo R [] []
  | cons {x y : AV} {xs ys : List AV} (h : VTo R x y) (t : LTo R xs ys) : LTo R (x :: xs) (y :: ys)
  | pur {l l' : List AV} {bs : List Nat} (k : Nat) (h : mapP (purV R.H false k) l = some (l', bs)) (hb : ∀ b ∈ bs, b ∈ R.frz) : LTo R l l'
end
def TTo (R : Rn) (T T' : Tm) : Prop := ∀ t, VTo R (T.get t) (T'.get t)
theorem TTo.nil {R : Rn} {T : Tm} : TTo R T [] := fun t => .top _
theorem TTo.cons {R : Rn} {T T' : Tm} {k : Nat} {v : AV} (h : VTo R (T.get k) v) (t : TTo R T T') : TTo R T ((k, v) :: T') := by
  intro i
  simp only [Tm.get, nbeq]
  by_cases e : k = i
  · subst e; simpa using h
  · simpa [e] using t i
inductive OTo (R : Rn) : AObj → AObj → Prop
  | cells {xs ys : List AV} (h : LTo R xs ys) : OTo R (.cells xs) (.cells ys)
  | ro {xs ys : List AV} (h : LTo R xs ys) : OTo R (.ro xs) (.ro ys)
  | loop {s : LoopState} {p : Option Code} {T T' : Tm} {n : Nat} {ps : List Nat} {a b : Code} (h : TTo R T T') : OTo R (.loop s p T n ps a b) (.loop s p T' n ps a b)
/-- A block of the later state: an elder one, or one that is nowhere. -/
def BTo (R : Rn) (b' : Nat) (o' : AObj) : Prop :=
  (∃ b o, R.m b' = some b ∧ R.H.get b = some o ∧ OTo R o o') ∨ (isNone o' = true ∧ ∀ b, R.m b' = some b → R.H.nx ≤ b)
def HTo (R : Rn) (l' : List (Nat × AObj)) : Prop := ∀ b' o', AH.look l' b' = some o' → BTo R b' o'
theorem HTo.nil {R : Rn} : HTo R [] := fun b' o' h => by cases h
theorem HTo.dead {R : Rn} {b' : Nat} {l : List (Nat × AObj)} (t : HTo R l) : HTo R ((b', .dead) :: l) := by
  intro c o h
  simp only [AH.look, nbeq] at h
  by_cases e : b' = c
  · simp [e, live] at h
  · simp only [e, decide_false, cond_false] at h; exact t c o h
theorem HTo.cons {R : Rn} {b' : Nat} {o' : AObj} {l : List (Nat × AObj)} (h : BTo R b' o') (t : HTo R l) : HTo R ((b', o') :: l) := by
  intro c o hc
  simp only [AH.look, nbeq] at hc
  by_cases e : b' = c
  · subst e
    simp only [decide_true, cond_true] at hc
    have : o = o' := by cases o' <;> simp [live] at hc <;> exact hc.symm
    rw [this]; exact h
  · simp only [e, decide_false, cond_false] at hc; exact t c o hc
theorem BTo.old {R : Rn} {b' b : Nat} {o o' : AObj} (h1 : R.m b' = some b) (h2 : R.H.get b = some o) (h3 : OTo R o o') : BTo R b' o' := .inl ⟨b, o, h1, h2, h3⟩
theorem BTo.none {R : Rn} {b' b : Nat} {o' : AObj} (h1 : R.m b' = some b) (h2 : R.H.nx ≤ b) (h3 : isNone o' = true) : BTo R b' o' := .inr ⟨h3, fun c hc => by rw [h1] at hc; injection hc with hc; omega⟩

def Rn.ctx (R : Rn) (C : Ctx) : Ctx where
  φ b' := match R.m b' with | some b => C.φ b | none => Option.none
  imm rb := C.imm rb ∨ ∃ b ∈ R.frz, C.φ b = some rb
section
variable {R : Rn} {C : Ctx} {w : World}
theorem ctx_at {b' b : Nat} (h : R.m b' = some b) : (R.ctx C).φ b' = C.φ b := by simp only [Rn.ctx, h]
theorem pc_mono {bs : List Nat} (hb : ∀ b ∈ bs, b ∈ R.frz) : Mono (PC C false bs) w (R.ctx C) w :=
  mono_imm (fun _ _ e => by cases e) fun rb e => by
    rcases e with ⟨_, e⟩ | ⟨b, hm, e⟩
    · exact .inl e
    · exact .inr ⟨b, hb b hm, e⟩
theorem mapP_pur_rel (hS : Sim C R.H.get w) {k : Nat} {one : Bool} : ∀ {l l' : List AV} {bs : List Nat} {vs : List Value}, mapP (purV R.H false k) l = some (l', bs) → (∀ b ∈ bs, b ∈ R.frz) → LRel C w one l vs → LRel (R.ctx C) w one l' vs
  | [], l', bs, vs, h, hb, hl => by
    simp only [mapP, Option.some.injEq, Prod.mk.injEq] at h; obtain ⟨rfl, rfl⟩ := h
    simp only [LRel] at hl ⊢; exact hl
  | x :: l, l', bs, vs, h, hb, hl => by
    simp only [mapP] at h
    cases hx : purV R.H false k x with
    | none => rw [hx] at h; cases h
    | some q =>
      obtain ⟨x', b1⟩ := q
      rw [hx] at h
      cases hr : mapP (purV R.H false k) l with
      | none => rw [hr] at h; cases h
      | some q2 =>
        obtain ⟨r', b2⟩ := q2
        rw [hr] at h
        simp only [Option.some.injEq, Prod.mk.injEq] at h; obtain ⟨rfl, rfl⟩ := h
        simp only [LRel] at hl
        obtain ⟨v, r, rfl, ho, hv, hl⟩ := hl
        have hv' := purV_rel hS false k x x' b1 v hx (fun _ _ => rfl) hv
        exact LRel.cons ho (VRel.mono (pc_mono fun b h => hb b (List.mem_append_left _ h)) _ _ hv') (mapP_pur_rel hS hr (fun b h => hb b (List.mem_append_right _ h)) hl)
mutual
theorem VTo.rel (hS : Sim C R.H.get w) : ∀ {x y : AV}, VTo R x y → ∀ {v : Value}, VRel C w x v → VRel (R.ctx C) w y v
  | _, _, .top _, v, h => by simp only [VRel]
  | _, _, .pur k hp hb, v, h => VRel.mono (pc_mono hb) _ _ (purV_rel hS false k _ _ _ v hp (fun _ _ => rfl) h)
  | _, _, .rf hm, v, h => by
    simp only [VRel] at h ⊢
    obtain ⟨a, c, e, l, k⟩ := h
    refine ⟨a, c, e, l, k.imp id ?_⟩
    rintro ⟨rb, e1, e2, e3⟩
    exact ⟨rb, by rw [ctx_at hm]; exact e1, e2, e3⟩
  | _, _, .pt hm, v, h => by
    simp only [VRel] at h ⊢
    obtain ⟨rb, e1, e2⟩ := h
    exact ⟨rb, by rw [ctx_at hm]; exact e1, e2⟩
  | _, _, .yl hm, v, h => by
    simp only [VRel] at h ⊢
    obtain ⟨rb, e1, e2⟩ := h
    exact ⟨rb, by rw [ctx_at hm]; exact e1, e2⟩
  | _, _, .mp hm, v, h => by
    simp only [VRel] at h ⊢
    obtain ⟨rb, e1, e2⟩ := h
    exact ⟨rb, by rw [ctx_at hm]; exact e1, e2⟩
  | _, _, .nl, v, h => by
    simp only [VRel] at h ⊢
    obtain ⟨a, e⟩ := h
    exact ⟨a, 0, e, Nat.le_refl _, .inl rfl⟩
  | _, _, .nl0, v, h => by
    simp only [VRel] at h ⊢
    exact h
  | _, _, .ag ht, v, h => by
    simp only [VRel] at h ⊢
    obtain ⟨vs, e1, e2⟩ := h
    exact ⟨vs, e1, LTo.rel hS ht e2⟩
  | _, _, .tu ht, v, h => by
    simp only [VRel] at h ⊢
    obtain ⟨vs, e1, e2⟩ := h
    exact ⟨vs, e1, LTo.rel hS ht e2⟩
  | _, _, .fn ht, v, h => by
    simp only [VRel] at h ⊢
    obtain ⟨vs, e1, e2⟩ := h
    exact ⟨vs, e1, LTo.rel hS ht e2⟩
theorem LTo.rel (hS : Sim C R.H.get w) {one : Bool} : ∀ {xs ys : List AV}, LTo R xs ys → ∀ {vs : List Value}, LRel C w one xs vs → LRel (R.ctx C) w one ys vs
  | _, _, .nil, vs, h => by simp only [LRel] at h ⊢; exact h
  | _, _, .cons hv ht, vs, h => by
    simp only [LRel] at h
    obtain ⟨v, r, rfl, ho, h1, h2⟩ := h
    exact LRel.cons ho (VTo.rel hS hv h1) (LTo.rel hS ht h2)
  | _, _, .pur k hp hb, vs, h => mapP_pur_rel hS hp hb h
end
theorem OTo.rel (hS : Sim C R.H.get w) {rb : Nat} {o o' : AObj} (h : OTo R o o') (hr : ORel C w rb o) : ORel (R.ctx C) w rb o' := by
  cases h with
  | cells h =>
    obtain ⟨vs, rest, T, e, hl⟩ := hr
    exact ⟨vs, rest, T, e, LTo.rel hS h hl⟩
  | ro h =>
    obtain ⟨vs, e, hl⟩ := hr
    exact ⟨vs, e, LTo.rel hS h hl⟩
  | loop h =>
    obtain ⟨l, e1, e2, e3, e4, e5, e6, e7, e8⟩ := hr
    exact ⟨l, e1, e2, e3, e4, e5, e6, e7, fun i => VTo.rel hS (h i) (e8 i)⟩
theorem OTo.ro_eq {o o' : AObj} (h : OTo R o o') : isRo o' = isRo o := by cases h <;> rfl
theorem LTo.empty {ys : List AV} (h : LTo R [] ys) : ys = [] := by
  cases h with
  | nil => rfl
  | pur k hp hb => simp only [mapP, Option.some.injEq, Prod.mk.injEq] at hp; exact hp.1.symm
theorem OTo.none_eq {o o' : AObj} (h : OTo R o o') (hn : isNone o = true) : isNone o' = true := by
  cases h with
  | cells h =>
    rename_i xs ys
    cases xs with
    | nil => rw [h.empty]; rfl
    | cons _ _ => cases hn
  | ro h =>
    rename_i xs ys
    cases xs with
    | nil => rw [h.empty]; rfl
    | cons _ _ => cases hn
  | loop h => cases hn
end

/-- What is asked of the new numbers: closed facts. -/
def Rn.okB (R : Rn) (nx' : Nat) (l' : List (Nat × AObj)) : Bool :=
  R.ord.all (fun b => decide (R.base ≤ b) || (AH.look l' b).isNone) && decide ((R.ord.filter (· < R.H.nx)).Nodup) && R.frz.all (fun b => (decide (R.base ≤ b) || (AH.look l' b).isNone) && !R.ord.contains b && (R.H.get b).isSome) && decide (R.base + R.ord.length ≤ nx') && decide (R.base ≤ R.H.nx)
theorem nodup_at {l : List Nat} : ∀ {i j a : Nat} {n : Nat}, (l.filter (· < n)).Nodup → l[i]? = some a → l[j]? = some a → a < n → i = j := by
  induction l with
  | nil => intro i j a n h hi; simp at hi
  | cons x l ih =>
    intro i j a n h hi hj ha
    cases i with
    | zero =>
      cases j with
      | zero => rfl
      | succ j =>
        simp only [List.getElem?_cons_zero, Option.some.injEq] at hi
        subst hi
        simp only [List.getElem?_cons_succ] at hj
        rw [List.filter_cons_of_pos (by simpa using ha)] at h
        have := (List.nodup_cons.1 h).1
        exact absurd (List.mem_filter.2 ⟨List.mem_of_getElem? hj, by simpa using ha⟩) this
    | succ i =>
      cases j with
      | zero =>
        simp only [List.getElem?_cons_zero, Option.some.injEq] at hj
        subst hj
        simp only [List.getElem?_cons_succ] at hi
        rw [List.filter_cons_of_pos (by simpa using ha)] at h
        have := (List.nodup_cons.1 h).1
        exact absurd (List.mem_filter.2 ⟨List.mem_of_getElem? hi, by simpa using ha⟩) this
      | succ j =>
        simp only [List.getElem?_cons_succ] at hi hj
        have h' : (l.filter (· < n)).Nodup := by
          by_cases hx : x < n
          · rw [List.filter_cons_of_pos (by simpa using hx)] at h
            exact (List.nodup_cons.1 h).2
          · rw [List.filter_cons_of_neg (by simpa using hx)] at h; exact h
        rw [ih h' hi hj ha]
theorem absB_of {base : Nat} {st : St} {T' : Tm} {nx' : Nat} {l' : List (Nat × AObj)} (ord frz : List Nat) (hok : (⟨st.H, base, ord, frz⟩ : Rn).okB nx' l' = true) (hT : TTo ⟨st.H, base, ord, frz⟩ st.T T') (hH : HTo ⟨st.H, base, ord, frz⟩ l') :
    AbsB base st ⟨T', st.n, ⟨nx', l'⟩, st.q⟩ := by
  simp only [Rn.okB, Bool.and_eq_true, Bool.or_eq_true, List.all_eq_true, decide_eq_true_eq, Bool.not_eq_true', List.contains_eq_mem, decide_eq_false_iff_not, Option.isNone_iff_eq_none] at hok
  obtain ⟨⟨⟨⟨h1, h2⟩, h3⟩, h4⟩, h5⟩ := hok
  refine ⟨rfl, Nat.le_trans (Nat.le_add_right _ _) h4, fun C a w hs => ⟨(⟨st.H, base, ord, frz⟩ : Rn).ctx C, ?_, ?_⟩⟩
  · refine ⟨fun b rb hb e => ?_, fun b rb e => ?_, fun b e => .inl e, fun b e => ?_, Nat.le_refl _, fun _ _ _ => rfl, fun _ _ => rfl, fun _ c _ _ e => ⟨c, e, rfl⟩, rfl⟩
    · rw [ctx_at (b := b) (by simp only [Rn.m]; rw [if_pos hb])]; exact e
    · simp only [Rn.ctx] at e
      split at e
      · rename_i i _; exact .inr ⟨i, e⟩
      · cases e
    · rcases e with e | ⟨i, _, e⟩
      · exact .inl e
      · exact .inr (.inr ⟨i, e⟩)
  · have hS := hs.sim
    have hmlt : ∀ {b' b}, (⟨st.H, base, ord, frz⟩ : Rn).m b' = some b → (b' < base ∧ b' = b) ∨ b ∈ ord := by
      intro b' b e
      simp only [Rn.m] at e
      split at e
      · injection e with e; subst e; exact .inl ⟨by assumption, rfl⟩
      · exact .inr (List.mem_of_getElem? e)
    have hminj : ∀ {b1 b2 b : Nat} {o1 o2 : AObj}, AH.look l' b1 = some o1 → AH.look l' b2 = some o2 → (⟨st.H, base, ord, frz⟩ : Rn).m b1 = some b → (⟨st.H, base, ord, frz⟩ : Rn).m b2 = some b → b < st.H.nx → b1 = b2 := by
      intro b1 b2 b o1 o2 l1 l2 e1 e2 hb
      simp only [Rn.m] at e1 e2
      split at e1
      · injection e1 with e1
        split at e2
        · injection e2 with e2; omega
        · rcases h1 b (List.mem_of_getElem? e2) with g | g
          · omega
          · subst e1; rw [l1] at g; cases g
      · split at e2
        · injection e2 with e2
          rcases h1 b (List.mem_of_getElem? e1) with g | g
          · omega
          · subst e2; rw [l2] at g; cases g
        · have := nodup_at h2 e1 e2 hb
          omega
    have hlive : ∀ {b rb}, C.φ b = some rb → b < st.H.nx := by
      intro b rb e
      rcases Nat.lt_or_ge b st.H.nx with g | g
      · exact g
      · rw [hs.new b g] at e; cases e
    refine ⟨fun i => VTo.rel hS (hT i) (hs.tm i), hs.n, ⟨fun b' o' e => ?_, fun b1 b2 o1 o2 rb e1 e2 hro f1 f2 => ?_, fun b' rb e => ?_, fun rb e => ?_⟩, fun b' hb => ?_⟩
    · rcases hH b' o' e with ⟨b, o, m1, m2, m3⟩ | ⟨m1, m2⟩
      · rcases hS.at_ b o m2 with ⟨g1, g2⟩ | ⟨rb, g1, g2, g3⟩
        · exact .inl ⟨by rw [ctx_at m1]; exact g1, m3.none_eq g2⟩
        · refine .inr ⟨rb, by rw [ctx_at m1]; exact g1, m3.rel hS g2, ?_⟩
          rw [m3.ro_eq]
          refine ⟨fun hr => .inl (g3.1 hr), fun hi => ?_⟩
          rcases hi with hi | ⟨f, hf, ef⟩
          · exact g3.2 hi
          · cases hro : isRo o with
            | true => rfl
            | false =>
              exfalso
              obtain ⟨⟨k1, k2⟩, k3⟩ := h3 f hf
              obtain ⟨of, hof⟩ := Option.isSome_iff_exists.1 k3
              have := hS.inj b f o of rb m2 hof hro g1 ef
              subst this
              rcases hmlt m1 with ⟨g, g'⟩ | g
              · rcases k1 with k1 | k1
                · omega
                · subst g'
                  have hl : AH.look l' b' = some o' := e
                  rw [hl] at k1; cases k1
              · exact k2 g
      · refine .inl ⟨?_, m1⟩
        simp only [Rn.ctx]
        split
        · rename_i b hb; exact hs.new b (m2 b hb)
        · rfl
    · simp only [Rn.ctx] at f1 f2
      split at f1
      · rename_i c1 hc1
        split at f2
        · rename_i c2 hc2
          rcases hH b1 o1 e1 with ⟨b, o, m1, m2, m3⟩ | ⟨m1, m2⟩
          · rw [hc1] at m1; injection m1 with m1; subst m1
            rcases hH b2 o2 e2 with ⟨b', o', n1, n2, n3⟩ | ⟨n1, n2⟩
            · rw [hc2] at n1; injection n1 with n1; subst n1
              have := hS.inj c1 c2 o o' rb m2 n2 (by rw [← m3.ro_eq]; exact hro) f1 f2
              subst this
              exact hminj e1 e2 hc1 hc2 (hlive f1)
            · have : st.H.nx ≤ c2 := n2 c2 hc2; have := hlive f2; omega
          · have : st.H.nx ≤ c1 := m2 c1 hc1; have := hlive f1; omega
        · cases f2
      · cases f1
    · simp only [Rn.ctx] at e
      split at e
      · exact hS.φlt _ _ e
      · cases e
    · rcases e with e | ⟨b, _, e⟩
      · exact hS.immlt rb e
      · exact hS.φlt b rb e
    · simp only [Rn.ctx]
      split
      · rename_i b hbm
        simp only [Rn.m] at hbm
        have hb' : nx' ≤ b' := hb
        split at hbm
        · omega
        · have : b' - base < ord.length := by
            rcases Nat.lt_or_ge (b' - base) ord.length with g | g
            · exact g
            · rw [List.getElem?_eq_none g] at hbm; cases hbm
          omega
      · rfl

/-! ### Loops by what stays -/
section
variable (P : Program) (cf : Cfg)
/-- One round, from a state told to the next. -/
def EvStep (base : Nat) (c : Code) (st st' : St) : Prop := base ≤ st'.H.nx ∧ ∃ st1, Ev P cf c st (.normal, st1) ∧ AbsB base st1 st'
/-- Some rounds: whoever goes on from there. -/
def EvHead (c : Code) (st st' : St) : Prop := st.H.nx ≤ st'.H.nx ∧ ∀ x, EvLoopB P cf st.H.nx c st' x → EvLoop P cf c st x
end
inductive Runs {σ : Type} (step : σ → Option σ) : σ → σ → Prop
  | refl (s : σ) : Runs step s s
  | step {s s' s'' : σ} (h : step s = some s') (t : Runs step s' s'') : Runs step s s''
theorem Runs.det {σ : Type} {step : σ → Option σ} {s a b : σ} (h : Runs step s a) (ha : step a = none) (g : Runs step s b) (hb : step b = none) : a = b := by
  induction h with
  | refl s =>
    cases g with
    | refl => rfl
    | step h _ => rw [ha] at h; cases h
  | step h _ ih =>
    cases g with
    | refl => rw [hb] at h; cases h
    | step h' t => rw [h] at h'; injection h' with h'; subst h'; exact ih ha t
section
variable {P : Program} {cf : Cfg}
theorem runs_loop {σ : Type} {step : σ → Option σ} {S : σ → St} {base : Nat} {c : Code} (hs : ∀ s s', step s = some s' → EvStep P cf base c (S s) (S s')) {s s' : σ} (h : Runs step s s') {x : AX × St} (hx : EvLoopB P cf base c (S s') x) : EvLoopB P cf base c (S s) x := by
  induction h with
  | refl => exact hx
  | step h _ ih =>
    obtain ⟨_, st1, e1, e2⟩ := hs _ _ h
    exact EvLoopB.step e1 e2 (ih hx)
/-- A piece of code, its outcome told anew. -/
theorem Ev.abs {c : Code} {st st1 st2 : St} {e : AX} (h : Ev P cf c st (e, st1)) (hab : AbsB st.H.nx st1 st2) : Ev P cf c st (e, st2) := by
  intro g
  obtain ⟨a1, b1, c1⟩ := h g
  refine ⟨hab.1.trans a1, hab.2.1, fun C a w s0 ro n Q hq hs0 hsr hm hd hQ => c1 C a w s0 ro n Q hq hs0 hsr hm hd fun C' a' w' g1 g2 g3 g4 => ?_⟩
  obtain ⟨C2, s2, r2⟩ := hab.2.2 C' a' w' g2
  exact hQ C2 a' w' (((g1.toB (base := st.H.nx)).trans s2).toStep hsr.new) r2 (g3.stepB s2) g4
theorem EvStep.ev {base : Nat} {c : Code} {S S' : St} (h : EvStep P cf base c S S') (hb : S.H.nx = base) : Ev P cf c S (.normal, S') := by
  obtain ⟨_, st1, e1, e2⟩ := h
  subst hb
  exact e1.abs e2
theorem EvHead.of {σ : Type} {step : σ → Option σ} {S : σ → St} {c : Code} {st : St} {s s' : σ} (hs : ∀ s s', step s = some s' → EvStep P cf st.H.nx c (S s) (S s')) (h0 : AbsB st.H.nx st (S s)) (h : Runs step s s') : EvHead P cf c st (S s') := by
  have hb : st.H.nx ≤ (S s').H.nx := by
    induction h with
    | refl => exact h0.2.1
    | step h t ih =>
      obtain ⟨b1, st1, e1, e2⟩ := hs _ _ h
      cases t with
      | refl => exact b1
      | step h' t' =>
        clear ih h0
        have : ∀ a b, Runs step a b → st.H.nx ≤ (S a).H.nx → st.H.nx ≤ (S b).H.nx := by
          intro a b r
          induction r with
          | refl => exact id
          | step h _ ih => exact fun _ => ih (hs _ _ h).1
        exact this _ _ (.step h' t') b1
  exact ⟨hb, fun x hx => ⟨S s, h0, runs_loop hs h hx⟩⟩
end
/-! ### Jumps back in a scope by what stays -/
section
variable (P : Program) (cf : Cfg)
def EvScopeB (base : Nat) (body c : Code) (st : St) (x : AX × St) : Prop := Good P cf → x.2.q = st.q ∧ base ≤ x.2.H.nx ∧ ∃ k, ∀ (C : Ctx) (a : Act) (w : World) (s0 : Nat) (ro : Option Nat) (n : Nat) (Q : Exit → Act → World → Prop), st.q = ro.isSome → s0 ≤ w.heap.size → SRel C st a w → MarksOk C w s0 a.defers → (ro.isSome = true → a.defers = []) →
    AfterB base C w x.2 s0 ro (Q (toExit x.1)) → scopeIn (fen ro) n P body Q k c a w
def EvSHead (body c : Code) (st st' : St) : Prop := st.H.nx ≤ st'.H.nx ∧ ∀ x, EvScopeB P cf st.H.nx body c st' x → EvScope P cf body c st x
def EvSStep (base : Nat) (body c : Code) (st st' : St) : Prop := base ≤ st'.H.nx ∧ ∃ l st1, findLabel body l = some c ∧ Ev P cf c st (.goto l, st1) ∧ AbsB base st1 st'
end
section
variable {P : Program} {cf : Cfg}
theorem EvScopeB.out {base : Nat} {body c : Code} {st st1 : St} {e : AX} (he : ∀ l, e = .goto l → findLabel body l = none) (hb : base ≤ st.H.nx) (h1 : Ev P cf c st (e, st1)) : EvScopeB P cf base body c st (e, st1) := by
  intro g
  obtain ⟨a1, b1, c1⟩ := h1 g
  refine ⟨a1, Nat.le_trans hb b1, 1, fun C a w s0 ro n Q hq hs0 hsr hm hd hQ => ?_⟩
  refine c1 C a w s0 ro n _ hq hs0 hsr hm hd fun C' a' w' g1 g2 g3 g4 => ?_
  have := hQ C' a' w' g1.toB g2 g3 g4
  cases e with
  | goto l => simp only [toExit, scopeQ, he l rfl]; exact this
  | _ => exact this
theorem EvScopeB.goto {base : Nat} {body c rest : Code} {st st1 st2 : St} {l : Nat} {x : AX × St} (h1 : Ev P cf c st (.goto l, st1)) (hf : findLabel body l = some rest) (hab : AbsB base st1 st2) (h2 : EvScopeB P cf base body rest st2 x) : EvScopeB P cf base body c st x := by
  intro g
  obtain ⟨a1, b1, c1⟩ := h1 g
  obtain ⟨a2, b2, k, c2⟩ := h2 g
  refine ⟨a2.trans (hab.1.trans a1), b2, k + 1, fun C a w s0 ro n Q hq hs0 hsr hm hd hQ => ?_⟩
  refine c1 C a w s0 ro n _ hq hs0 hsr hm hd fun C' a' w' g1 g2 g3 g4 => ?_
  obtain ⟨C2, s2, r2⟩ := hab.2.2 C' a' w' g2
  have h12 := (g1.toB (base := base)).trans s2
  simp only [toExit, scopeQ, hf]
  exact c2 C2 a' w' s0 ro n Q ((hab.1.trans a1).trans hq) (Nat.le_trans hs0 h12.size) r2 (g3.stepB s2) g4 fun C3 a3 w3 k1 k2 k3 k4 => hQ C3 a3 w3 (h12.trans k1) k2 k3 k4
theorem EvScopeB.scope {body c : Code} {st st1 : St} {x : AX × St} (hab : AbsB st.H.nx st st1) (h : EvScopeB P cf st.H.nx body c st1 x) : EvScope P cf body c st x := by
  intro g
  obtain ⟨a1, b1, k, c1⟩ := h g
  refine ⟨a1.trans hab.1, b1, k, fun C a w s0 ro n Q hq hs0 hsr hm hd hQ => ?_⟩
  obtain ⟨C1, s1, r1⟩ := hab.2.2 C a w hsr
  exact c1 C1 a w s0 ro n Q (hab.1.trans hq) hs0 r1 (hm.stepB s1) hd fun C2 a2 w2 k1 k2 k3 k4 => hQ C2 a2 w2 ((s1.trans k1).toStep hsr.new) k2 k3 k4
theorem EvSHead.of {σ : Type} {step : σ → Option σ} {S : σ → St} {body c : Code} {st : St} {s s' : σ} (hs : ∀ s s', step s = some s' → EvSStep P cf st.H.nx body c (S s) (S s')) (h0 : AbsB st.H.nx st (S s)) (h : Runs step s s') : EvSHead P cf body c st (S s') := by
  have hb : ∀ a b, Runs step a b → st.H.nx ≤ (S a).H.nx → st.H.nx ≤ (S b).H.nx := by
    intro a b r
    induction r with
    | refl => exact id
    | step h _ ih => exact fun _ => ih (hs _ _ h).1
  have hr : ∀ a b x, Runs step a b → EvScopeB P cf st.H.nx body c (S b) x → EvScopeB P cf st.H.nx body c (S a) x := by
    intro a b x r
    induction r with
    | refl => exact id
    | step h _ ih =>
      intro hx
      obtain ⟨_, l, st1, e1, e2, e3⟩ := hs _ _ h
      exact EvScopeB.goto e2 e1 e3 (ih hx)
  exact ⟨hb _ _ h h0.2.1, fun x hx => EvScopeB.scope h0 (hr _ _ _ h hx)⟩
end
end Go.Proofs.Ytadipihpgcelmaa.Ab
