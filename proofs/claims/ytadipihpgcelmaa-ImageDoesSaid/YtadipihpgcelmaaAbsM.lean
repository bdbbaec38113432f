/- Values taken out of a call's own heap: nobody writes them any more, or the caller owns them. -/
import Derived.Test.YtadipihpgcelmaaAbsL
namespace Go.Proofs.Ytadipihpgcelmaa.Ab
open Go
set_option linter.unusedVariables false
set_option linter.unusedSimpArgs false

/-- What a value that was taken out may hold. -/
def PI (C : Ctx) (fr : Bool) (bs : List Nat) (rb : Nat) : Prop := (fr = false ∧ C.imm rb) ∨ ∃ b ∈ bs, C.φ b = some rb
def PC (C : Ctx) (fr : Bool) (bs : List Nat) : Ctx := { φ := fun _ => none, imm := PI C fr bs }

section
variable {P : Program} {C : Ctx} {K : Nat → Option AObj} {w : World} {h : AH}

theorem mono_imm {C C' : Ctx} (hφ : ∀ b rb, C.φ b = some rb → C'.φ b = some rb) (hi : ∀ b, C.imm b → C'.imm b) : Mono C w C' w := ⟨hφ, hi, fun _ _ => rfl, fun _ c _ _ e => ⟨c, e, rfl⟩⟩
theorem PC_mono {fr : Bool} {bs bs' : List Nat} (hs : ∀ b ∈ bs, b ∈ bs') : Mono (PC C fr bs) w (PC C fr bs') w :=
  mono_imm (fun _ _ h => h) fun rb h => h.imp id fun ⟨b, hb, e⟩ => ⟨b, hs b hb, e⟩

theorem mapP_rel {f : AV → Option (AV × List Nat)} {fr : Bool} (hf : ∀ v v' bs x, f v = some (v', bs) → (∀ b ∈ bs, K b = h.get b) → VRel C w v x → VRel (PC C fr bs) w v' x) {one : Bool} :
    ∀ {xs ys : List AV} {bs : List Nat} {vs : List Value}, mapP f xs = some (ys, bs) → (∀ b ∈ bs, K b = h.get b) → LRel C w one xs vs → LRel (PC C fr bs) w one ys vs
  | [], ys, bs, vs, hm, hK, hl => by
    simp only [mapP, Option.some.injEq, Prod.mk.injEq] at hm
    obtain ⟨rfl, rfl⟩ := hm
    simp only [LRel] at hl ⊢; exact hl
  | x :: xs, ys, bs, vs, hm, hK, hl => by
    simp only [mapP] at hm
    split at hm
    · rename_i v' b1 h1
      split at hm
      · rename_i r' b2 h2
        simp only [Option.some.injEq, Prod.mk.injEq] at hm
        obtain ⟨rfl, rfl⟩ := hm
        simp only [LRel] at hl
        obtain ⟨v, r, rfl, ho, hv, hl⟩ := hl
        refine LRel.cons ho ?_ ?_
        · exact VRel.mono (PC_mono fun b hb => by simp [hb]) _ _ (hf x v' b1 v h1 (fun b hb => hK b (by simp [hb])) hv)
        · exact LRel.mono (PC_mono fun b hb => by simp [hb]) _ _ _ (mapP_rel hf h2 (fun b hb => hK b (by simp [hb])) hl)
      · cases hm
    · cases hm

theorem purV_rel (hS : Sim C K w) (fr : Bool) : ∀ (k : Nat) (v v' : AV) (bs : List Nat) (x : Value), purV h fr k v = some (v', bs) → (∀ b ∈ bs, K b = h.get b) → VRel C w v x → VRel (PC C fr bs) w v' x := by
  intro k
  induction k with
  | zero => intro v v' bs x hp; simp [purV] at hp
  | succ k ih =>
    intro v v' bs x hp hK hv
    cases v with
    | i n => simp only [purV, Option.some.injEq, Prod.mk.injEq] at hp; obtain ⟨rfl, rfl⟩ := hp; simpa only [VRel] using hv
    | y n => simp only [purV, Option.some.injEq, Prod.mk.injEq] at hp; obtain ⟨rfl, rfl⟩ := hp; simpa only [VRel] using hv
    | b n => simp only [purV, Option.some.injEq, Prod.mk.injEq] at hp; obtain ⟨rfl, rfl⟩ := hp; simpa only [VRel] using hv
    | st n => simp only [purV, Option.some.injEq, Prod.mk.injEq] at hp; obtain ⟨rfl, rfl⟩ := hp; simpa only [VRel] using hv
    | sc n => simp only [purV, Option.some.injEq, Prod.mk.injEq] at hp; obtain ⟨rfl, rfl⟩ := hp; simpa only [VRel] using hv
    | nl =>
      simp only [purV, Option.some.injEq, Prod.mk.injEq] at hp; obtain ⟨rfl, rfl⟩ := hp
      simp only [VRel] at hv ⊢
      obtain ⟨a, rfl⟩ := hv
      exact ⟨a, 0, rfl, Nat.le_refl _, by simp⟩
    | sl n cs =>
      simp only [purV] at hp
      split at hp
      · cases hp
      · rename_i hc
        simp only [Option.some.injEq, Prod.mk.injEq] at hp; obtain ⟨rfl, rfl⟩ := hp
        simp only [VRel] at hv ⊢
        obtain ⟨a, c, rfl, hle, h0 | ⟨ad, vs, rfl, h2, h3, h4, h5⟩⟩ := hv
        · exact ⟨a, c, rfl, hle, .inl h0⟩
        · by_cases hn : n = 0
          · exact ⟨_, c, rfl, hle, .inl hn⟩
          · have hfr : fr = false := by cases fr with | false => rfl | true => exact absurd ⟨rfl, hn⟩ hc
            refine ⟨_, c, rfl, hle, .inr ⟨ad, vs, rfl, h2, .inl ⟨hfr, h3⟩, ?_, h5⟩⟩
            exact LRel.mono (mono_imm (C := C.pure) (C' := (PC C fr []).pure) (fun _ _ e => (by cases e)) fun b hb => Or.inl ⟨hfr, hb⟩) _ _ _ h4
    | rf b z off n =>
      simp only [purV] at hp
      split at hp
      · rename_i cs hcs
        split at hp
        · rename_i hle
          split at hp
          · rename_i cs' bs' hm
            simp only [Option.some.injEq, Prod.mk.injEq] at hp; obtain ⟨rfl, rfl⟩ := hp
            simp only [VRel] at hv ⊢
            obtain ⟨a, c, rfl, hc, h0 | ⟨rb, h2, rfl, h3⟩⟩ := hv
            · exact ⟨a, c, rfl, hc, .inl (by omega)⟩
            · have hk : K b = some (.cells cs) ∨ K b = some (.ro cs) := by rw [hK b (by simp)]; exact cells_spec hcs
              obtain ⟨vs, e1, e2⟩ := block_at hS hk h2
              have hl := mapP_rel (f := purV h fr k) (fr := fr) (fun v v' bs x => ih v v' bs x) hm (fun b hb => hK b (by simp [hb])) ((e2.drop off).take (n * z))
              refine ⟨_, c, rfl, hc, .inr ⟨_, (vs.drop off).take (n * z), rfl, rfl, .inr ⟨b, by simp, h2⟩, ?_, (by simpa using e1.drop off : CellsAt w rb off _).take _⟩⟩
              exact LRel.mono (PC_mono (fr := fr) (bs := bs') (bs' := b :: bs') fun b hb => by simp [hb]) _ _ _ hl
          · cases hp
        · cases hp
      · cases hp
    | pt b o => simp [purV] at hp
    | ip cs =>
      simp only [purV] at hp
      split at hp
      · cases hp
      · rename_i hfr0
        have hfr : fr = false := by cases fr with | false => rfl | true => exact absurd rfl hfr0
        simp only [Option.some.injEq, Prod.mk.injEq] at hp; obtain ⟨rfl, rfl⟩ := hp
        simp only [VRel] at hv ⊢
        obtain ⟨ad, vs, rfl, h2, h3, h4, h5⟩ := hv
        exact ⟨ad, vs, rfl, h2, .inl ⟨hfr, h3⟩, LRel.mono (mono_imm (C := C.pure) (C' := (PC C fr []).pure) (fun _ _ e => (by cases e)) fun b hb => Or.inl ⟨hfr, hb⟩) _ _ _ h4, h5⟩
    | ag xs =>
      simp only [purV] at hp
      cases hm : mapP (purV h fr k) xs with
      | none => rw [hm] at hp; cases hp
      | some q =>
        rw [hm] at hp
        simp only [Option.map_some, Option.some.injEq, Prod.mk.injEq] at hp; obtain ⟨rfl, rfl⟩ := hp
        simp only [VRel] at hv ⊢
        obtain ⟨vs, rfl, hl⟩ := hv
        exact ⟨vs, rfl, mapP_rel (f := purV h fr k) (fun v v' bs x => ih v v' bs x) hm hK hl⟩
    | tu xs =>
      simp only [purV] at hp
      cases hm : mapP (purV h fr k) xs with
      | none => rw [hm] at hp; cases hp
      | some q =>
        rw [hm] at hp
        simp only [Option.map_some, Option.some.injEq, Prod.mk.injEq] at hp; obtain ⟨rfl, rfl⟩ := hp
        simp only [VRel] at hv ⊢
        obtain ⟨vs, rfl, hl⟩ := hv
        exact ⟨vs, rfl, mapP_rel (f := purV h fr k) (fun v v' bs x => ih v v' bs x) hm hK hl⟩
    | fn f cap =>
      simp only [purV] at hp
      split at hp
      · simp only [Option.some.injEq, Prod.mk.injEq] at hp; obtain ⟨rfl, rfl⟩ := hp
        simp only [VRel, LRel] at hv ⊢
        exact hv
      · cases hp
    | top => simp [purV] at hp
    | yl b => simp [purV] at hp
    | mp b => simp [purV] at hp

/-! ### Blocks that nobody writes any more -/
def fixO : Option AObj → Option AObj
  | some (.cells cs) => some (.ro cs)
  | o => o
def fixK (K : Nat → Option AObj) (bs : List Nat) : Nat → Option AObj := fun b => if b ∈ bs then fixO (K b) else K b
theorem get_fix (h : AH) (b x : Nat) : (h.fix b).get x = if x = b then fixO (h.get x) else h.get x := by
  unfold AH.fix
  split
  · rename_i cs hg
    rw [AH.get_put]
    by_cases e : x = b
    · subst e; simp [live, hg, fixO]
    · simp [e, Ne.symm e]
  · rename_i hno
    by_cases e : x = b
    · subst e
      rw [if_pos rfl]
      cases hg : h.get x with
      | none => rfl
      | some o => cases o <;> first | rfl | exact absurd hg (hno _)
    · simp [e]
theorem fixO_fixO (o : Option AObj) : fixO (fixO o) = fixO o := by
  cases o with
  | none => rfl
  | some o => cases o <;> rfl
theorem get_fixAll : ∀ (bs : List Nat) (h : AH) (x : Nat), (fixAll h bs).get x = fixK h.get bs x
  | [], h, x => by simp [fixAll, fixK]
  | b :: bs, h, x => by
    rw [fixAll, get_fixAll bs (h.fix b) x]
    simp only [fixK, get_fix, List.mem_cons]
    by_cases e1 : x = b
    · subst e1
      by_cases e2 : x ∈ bs
      · simp [e2, fixO_fixO]
      · simp [e2]
    · simp [e1]
theorem nx_fixAll : ∀ (bs : List Nat) (h : AH), (fixAll h bs).nx = h.nx
  | [], h => rfl
  | b :: bs, h => by
    rw [fixAll, nx_fixAll bs]
    unfold AH.fix
    split <;> rfl
def fixC (C : Ctx) (K : Nat → Option AObj) (bs : List Nat) : Ctx := { C with imm := fun rb => C.imm rb ∨ ∃ b ∈ bs, (∃ cs, K b = some (.cells cs)) ∧ C.φ b = some rb }
theorem step_fix (bs : List Nat) : Step C w (fixC C K bs) w :=
  ⟨fun _ _ h => h, fun _ _ h => .inl h, fun _ h => .inl h, fun _ h => h.imp id fun ⟨b, _, _, e⟩ => .inr ⟨b, e⟩, Nat.le_refl _, fun _ _ _ => rfl, fun _ _ => rfl, fun _ c _ _ e => ⟨c, e, rfl⟩, rfl⟩
theorem sim_fix (hS : Sim C K w) (bs : List Nat) : Sim (fixC C K bs) (fixK K bs) w where
  at_ b o e := by
    unfold fixK at e
    by_cases hb : b ∈ bs
    · rw [if_pos hb] at e
      cases hk : K b with
      | none => rw [hk] at e; cases e
      | some o0 =>
        rw [hk] at e
        rcases hS.at_ b o0 hk with ⟨g, g'⟩ | ⟨rb, g1, g2, g3⟩
        · refine .inl ⟨g, ?_⟩
          cases o0 <;> simp only [fixO, Option.some.injEq] at e <;> subst e <;> first | exact g' | skip
          rename_i cs
          cases cs with
          | nil => rfl
          | cons _ _ => simp [isNone] at g'
        · refine .inr ⟨rb, g1, ?_, ?_⟩
          · cases o0 with
            | cells cs =>
              simp only [fixO, Option.some.injEq] at e; subst e
              obtain ⟨vs, k1, k2⟩ := block_at hS (.inl hk) g1
              exact ⟨vs, k1, k2.step (step_fix bs)⟩
            | _ => simp only [fixO, Option.some.injEq] at e; subst e; exact g2.step (step_fix bs) rfl
          · cases o0 with
            | cells cs =>
              simp only [fixO, Option.some.injEq] at e; subst e
              exact ⟨fun _ => .inr ⟨b, hb, ⟨cs, hk⟩, g1⟩, fun _ => rfl⟩
            | _ =>
              simp only [fixO, Option.some.injEq] at e; subst e
              refine ⟨fun hr => .inl (g3.1 hr), fun hi => ?_⟩
              rcases hi with hi | ⟨b', hb', ⟨cs, hk'⟩, e'⟩
              · exact g3.2 hi
              · have := hS.inj b' b _ _ rb hk' hk rfl e' g1
                subst this; rw [hk'] at hk; cases hk
    · rw [if_neg hb] at e
      rcases hS.at_ b o e with ⟨g, g'⟩ | ⟨rb, g1, g2, g3⟩
      · exact .inl ⟨g, g'⟩
      · refine .inr ⟨rb, g1, g2.step (step_fix bs) rfl, fun hr => .inl (g3.1 hr), fun hi => ?_⟩
        rcases hi with hi | ⟨b', hb', ⟨cs, hk'⟩, e'⟩
        · exact g3.2 hi
        · have := hS.inj b' b _ _ rb hk' e rfl e' g1
          subst this; exact absurd hb' hb
  inj b b' o o' rb e1 e2 hro f1 f2 := by
    unfold fixK at e1 e2
    have h1 : ∃ q, K b = some q ∧ isRo q = false := by
      by_cases hb : b ∈ bs
      · rw [if_pos hb] at e1
        cases hk : K b with
        | none => rw [hk] at e1; cases e1
        | some q => rw [hk] at e1; refine ⟨q, rfl, ?_⟩; cases q <;> simp only [fixO, Option.some.injEq] at e1 <;> subst e1 <;> first | exact hro | (simp [isRo] at hro)
      · rw [if_neg hb] at e1; exact ⟨o, e1, hro⟩
    have h2 : ∃ q, K b' = some q := by
      by_cases hb : b' ∈ bs
      · rw [if_pos hb] at e2
        cases hk : K b' with
        | none => rw [hk] at e2; cases e2
        | some q => exact ⟨q, rfl⟩
      · rw [if_neg hb] at e2; exact ⟨o', e2⟩
    obtain ⟨q, k1, k2⟩ := h1
    obtain ⟨q', k3⟩ := h2
    exact hS.inj b b' q q' rb k1 k3 k2 f1 f2
  φlt := hS.φlt
  immlt b e := by
    rcases e with e | ⟨x, _, _, e⟩
    · exact hS.immlt b e
    · exact hS.φlt x b e
end
end Go.Proofs.Ytadipihpgcelmaa.Ab
