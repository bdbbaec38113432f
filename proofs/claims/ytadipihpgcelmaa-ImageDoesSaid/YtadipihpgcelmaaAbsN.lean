/- What a called function hands back, in its caller's heap. -/
import Derived.Test.YtadipihpgcelmaaAbsM
namespace Go.Proofs.Ytadipihpgcelmaa.Ab
open Go
set_option linter.unusedVariables false
set_option linter.unusedSimpArgs false

theorem ERel.mono {C C' : Ctx} {w w' : World} (h : Mono C w C' w') : ∀ {es : List (AV × AV)} {ms : List MapEntry}, ERel C w es ms → ERel C' w' es ms
  | [], _, r => r
  | (k, v) :: es, ms, r => by
    obtain ⟨e, es', rfl, h1, h2, h3⟩ := r
    exact ⟨e, es', rfl, VRel.mono h _ _ h1, VRel.mono h _ _ h2, h3.mono h⟩
theorem TmRel.mono {C C' : Ctx} {w w' : World} {T : Tm} {tmps : Array Value} (h : Mono C w C' w') (r : TmRel C w T tmps) : TmRel C' w' T tmps :=
  fun i => VRel.mono h _ _ (r i)
theorem ORel.mono' {C C' : Ctx} {w w' : World} (h : Mono C w C' w') {rb : Nat} (e : w'.heap[rb]? = w.heap[rb]?) : ∀ {o : AObj}, ORel C w rb o → ORel C' w' rb o
  | .dead, r => r
  | .cells cs, ⟨vs, rest, T, h1, h2⟩ => ⟨vs, rest, T, by rw [e, h1], LRel.mono h _ _ _ h2⟩
  | .ro cs, ⟨vs, h1, h2⟩ => ⟨vs, fun i v hv => by have := h1 i v hv; unfold World.cell? at *; simpa only [e] using this, LRel.mono h _ _ _ h2⟩
  | .map es, ⟨ms, cl, h1, h2⟩ => ⟨ms, cl, by rw [e, h1], h2.mono h⟩
  | .loop s p T n ps a b, ⟨l, h1, h2, h3, h4, h5, h6, h7, h8⟩ => ⟨l, by rw [e, h1], h2, h3, h4, h5, h6, h7, h8.mono h⟩
theorem ORel.mono {C C' : Ctx} {w w' : World} {rb : Nat} {o : AObj} (r : ORel C w rb o) (h : Mono C w C' w') (e : w'.heap[rb]? = w.heap[rb]?) : ORel C' w' rb o := ORel.mono' h e r

/-! ### The leaves that are taken over -/
def lv1 : AV → List Nat
  | .rf b _ _ _ => [b]
  | .mp b => [b]
  | _ => []
def lvA : AV → List Nat
  | .ag xs => xs.flatMap lv1
  | v => lv1 v
def lvT : AV → List Nat
  | .tu xs => xs.flatMap lvA
  | v => lvA v
/-- The heap without some blocks, each of which was there, and could be written. -/
def Less (h h' : AH) (L : List Nat) : Prop := L.Nodup ∧ (∀ b ∈ L, ∃ o, h.get b = some o ∧ isRo o = false) ∧ ∀ b, h'.get b = if b ∈ L then none else h.get b
theorem Less.nil (h : AH) : Less h h [] := ⟨List.nodup_nil, by simp, by simp⟩
theorem Less.trans {h h' h'' : AH} {L M : List Nat} (a : Less h h' L) (b : Less h' h'' M) : Less h h'' (L ++ M) := by
  obtain ⟨a1, a2, a3⟩ := a
  obtain ⟨b1, b2, b3⟩ := b
  refine ⟨List.nodup_append.2 ⟨a1, b1, ?_⟩, ?_, ?_⟩
  · intro x hx y hy e
    subst e
    obtain ⟨o, ho, _⟩ := b2 x hy
    rw [a3, if_pos hx] at ho; cases ho
  · intro x hx
    rcases List.mem_append.1 hx with hx | hx
    · exact a2 x hx
    · obtain ⟨o, ho, hr⟩ := b2 x hx
      rw [a3] at ho
      split at ho
      · cases ho
      · exact ⟨o, ho, hr⟩
  · intro x
    rw [b3, a3]
    by_cases h1 : x ∈ L <;> by_cases h2 : x ∈ M <;> simp [h1, h2]
theorem Less.one {h : AH} {b : Nat} {o : AObj} (ho : h.get b = some o) (hr : isRo o = false) : Less h (h.kill b) [b] :=
  ⟨by simp, by simpa using ⟨o, ho, hr⟩, fun x => by
    rw [AH.get_kill]
    by_cases e : x = b
    · subst e; simp
    · rw [if_neg (fun h => e h.symm), if_neg (by simpa using e)]⟩
theorem grab1_less {h h' : AH} {v : AV} (hg : grab1 h v = some h') : Less h h' (lv1 v) := by
  unfold grab1 at hg
  split at hg
  · split at hg
    · rename_i hw; injection hg with hg; subst hg; exact Less.one (wcells_spec hw) rfl
    · cases hg
  · split at hg
    · rename_i hw; injection hg with hg; subst hg; exact Less.one hw rfl
    · cases hg
  · injection hg with hg; subst hg
    cases v <;> first | exact Less.nil _ | skip
    · rename_i h1 _ ; exact absurd rfl (h1 _ _ _ _)
    · rename_i h1; exact absurd rfl (h1 _)
theorem grabL_less : ∀ {xs : List AV} {h h' : AH}, grabL h xs = some h' → Less h h' (xs.flatMap lv1)
  | [], h, h', hg => by simp only [grabL, Option.some.injEq] at hg; subst hg; exact Less.nil _
  | v :: xs, h, h', hg => by
    simp only [grabL] at hg
    split at hg
    · rename_i h1 hh; rw [List.flatMap_cons]; exact (grab1_less hh).trans (grabL_less hg)
    · cases hg
theorem grabA_less {v : AV} {h h' : AH} (hg : (match v with | .ag xs => grabL h xs | v => grab1 h v) = some h') : Less h h' (lvA v) := by
  cases v with
  | ag xs => exact @grabL_less xs h h' hg
  | rf a b c d => exact @grab1_less h h' (.rf a b c d) hg
  | mp b => exact @grab1_less h h' (.mp b) hg
  | _ => simp only [grab1, Option.some.injEq] at hg; subst hg; exact Less.nil _
theorem grabT_less : ∀ {xs : List AV} {h h' : AH}, grabT h xs = some h' → Less h h' (xs.flatMap lvA)
  | [], h, h', hg => by simp only [grabT, Option.some.injEq] at hg; subst hg; exact Less.nil _
  | v :: xs, h, h', hg => by
    simp only [grabT] at hg
    split at hg
    · rename_i h1 hh; rw [List.flatMap_cons]; exact (grabA_less hh).trans (grabT_less hg)
    · cases hg
theorem grab_less {v : AV} {h h' : AH} (hg : grab h v = some h') : Less h h' (lvT v) := by
  cases v with
  | tu xs => exact @grabT_less xs h h' hg
  | ag xs => exact @grabL_less xs h h' hg
  | rf a b c d => exact @grab1_less h h' (.rf a b c d) hg
  | mp b => exact @grab1_less h h' (.mp b) hg
  | _ => simp only [grab, grab1, Option.some.injEq] at hg; subst hg; exact Less.nil _

/-! ### Taken over, one by one -/
section
variable {P : Program} {w1 : World} {C1 Cx : Ctx} {h1 h2 : AH} {fr : Bool} {s0 : Nat} {L : List Nat}

/-- What nobody writes, behind the call. -/
def imm3 (C1 Cx : Ctx) (h2 : AH) (fr : Bool) (s0 : Nat) (rb : Nat) : Prop := Cx.imm rb ∨ (s0 ≤ rb ∧ ((fr = false ∧ C1.imm rb) ∨ ∃ b, (∃ o, h2.get b = some o) ∧ C1.φ b = some rb))
structure Over (C1 Cx : Ctx) (h1 h2 : AH) (fr : Bool) (s0 : Nat) (w1 : World) (L : List Nat) : Prop where
  S1 : Sim C1 h1.get w1
  less : Less h1 h2 L
  fresh : ∀ b rb, C1.φ b = some rb → s0 ≤ rb
  old : ∀ rb, Cx.imm rb → rb < s0
  oldφ : ∀ b rb, Cx.φ b = some rb → rb < s0
  inew : ∀ rb, fr = false → C1.imm rb → Cx.imm rb ∨ s0 ≤ rb
/-- How far it has come: the caller's numbers, its view, its heap, the blocks that were taken over. -/
structure Sofar (C1 Cx : Ctx) (h1 h2 : AH) (fr : Bool) (s0 : Nat) (w1 : World) (L : List Nat) (n0 : Nat) (φ3 : Nat → Option Nat) (K3 : Nat → Option AObj) (H : AH) (D : List Nat) : Prop where
  S3 : Sim ⟨φ3, imm3 C1 Cx h2 fr s0⟩ K3 w1
  nx : n0 ≤ H.nx
  from_ : ∀ b rb, φ3 b = some rb → Cx.φ b = some rb ∨ ∃ x ∈ D, C1.φ x = some rb
  keep : ∀ b rb, Cx.φ b = some rb → φ3 b = some rb
  none_ : ∀ b, Cx.φ b = none → (b < n0 ∨ H.nx ≤ b) → φ3 b = none
  view : ∀ b, n0 ≤ b → b < H.nx → K3 b = H.get b

theorem imm3_of_PI (O : Over C1 Cx h1 h2 fr s0 w1 L) {bs : List Nat} (hbs : ∀ b ∈ bs, ∃ o, h2.get b = some o) : ∀ rb, PI C1 fr bs rb → imm3 C1 Cx h2 fr s0 rb := by
  intro rb hp
  rcases hp with ⟨hf, hi⟩ | ⟨b, hb, e⟩
  · rcases O.inew rb hf hi with g | g
    · exact .inl g
    · exact .inr ⟨g, .inl ⟨hf, hi⟩⟩
  · exact .inr ⟨O.fresh b rb e, .inr ⟨b, hbs b hb, e⟩⟩
/-- The blocks that a purified value took in are there. -/
theorem purV_cells (h : AH) (fr : Bool) : ∀ (k : Nat) (v v' : AV) (bs : List Nat), purV h fr k v = some (v', bs) → ∀ b ∈ bs, ∃ cs, h.cells b = some cs := by
  intro k
  induction k with
  | zero => intro v v' bs hp; simp [purV] at hp
  | succ k ih =>
    have hm : ∀ (xs ys : List AV) (bs : List Nat), mapP (purV h fr k) xs = some (ys, bs) → ∀ b ∈ bs, ∃ cs, h.cells b = some cs := by
      intro xs
      induction xs with
      | nil => intro ys bs hm; simp only [mapP, Option.some.injEq, Prod.mk.injEq] at hm; obtain ⟨_, rfl⟩ := hm; simp
      | cons x xs ihx =>
        intro ys bs hm
        simp only [mapP] at hm
        split at hm
        · rename_i v' b1 hv
          split at hm
          · rename_i r' b2 hr
            simp only [Option.some.injEq, Prod.mk.injEq] at hm; obtain ⟨_, rfl⟩ := hm
            intro b hb
            rcases List.mem_append.1 hb with hb | hb
            · exact ih _ _ _ hv b hb
            · exact ihx _ _ hr b hb
          · cases hm
        · cases hm
    intro v v' bs hp
    cases v <;> simp only [purV] at hp
    case rf b z off n =>
      split at hp
      · rename_i cs hcs
        split at hp
        · split at hp
          · rename_i cs' bs' hmm
            simp only [Option.some.injEq, Prod.mk.injEq] at hp; obtain ⟨_, rfl⟩ := hp
            intro x hx
            rcases List.mem_cons.1 hx with rfl | hx
            · exact ⟨_, hcs⟩
            · exact hm _ _ _ hmm x hx
          · cases hp
        · cases hp
      · cases hp
    case ag xs =>
      cases hq : mapP (purV h fr k) xs with
      | none => rw [hq] at hp; cases hp
      | some q => rw [hq] at hp; simp only [Option.map_some, Option.some.injEq, Prod.mk.injEq] at hp; obtain ⟨_, rfl⟩ := hp; exact hm _ _ _ hq
    case tu xs =>
      cases hq : mapP (purV h fr k) xs with
      | none => rw [hq] at hp; cases hp
      | some q => rw [hq] at hp; simp only [Option.map_some, Option.some.injEq, Prod.mk.injEq] at hp; obtain ⟨_, rfl⟩ := hp; exact hm _ _ _ hq
    case fn f cap => split at hp <;> first | (simp only [Option.some.injEq, Prod.mk.injEq] at hp; obtain ⟨_, rfl⟩ := hp; simp) | cases hp
    case sl n cs => split at hp <;> first | (simp only [Option.some.injEq, Prod.mk.injEq] at hp; obtain ⟨_, rfl⟩ := hp; simp) | cases hp
    case ip cs => split at hp <;> first | (simp only [Option.some.injEq, Prod.mk.injEq] at hp; obtain ⟨_, rfl⟩ := hp; simp) | cases hp
    all_goals first | (simp only [Option.some.injEq, Prod.mk.injEq] at hp; obtain ⟨_, rfl⟩ := hp; simp; done) | cases hp
theorem mapP_cells {h : AH} {fr : Bool} {k : Nat} : ∀ {xs ys : List AV} {bs : List Nat}, mapP (purV h fr k) xs = some (ys, bs) → ∀ b ∈ bs, ∃ cs, h.cells b = some cs
  | [], ys, bs, hm => by simp only [mapP, Option.some.injEq, Prod.mk.injEq] at hm; obtain ⟨_, rfl⟩ := hm; simp
  | x :: xs, ys, bs, hm => by
    simp only [mapP] at hm
    split at hm
    · rename_i v' b1 hv
      split at hm
      · rename_i r' b2 hr
        simp only [Option.some.injEq, Prod.mk.injEq] at hm; obtain ⟨_, rfl⟩ := hm
        intro b hb
        rcases List.mem_append.1 hb with hb | hb
        · exact purV_cells _ _ _ _ _ _ hv b hb
        · exact mapP_cells hr b hb
      · cases hm
    · cases hm

theorem cells_live {h : AH} {b : Nat} (e : ∃ cs, h.cells b = some cs) : ∃ o, h.get b = some o := by
  obtain ⟨cs, e⟩ := e
  rcases cells_spec e with g | g <;> exact ⟨_, g⟩
theorem purV_live (h : AH) (fr : Bool) (k : Nat) (v v' : AV) (bs : List Nat) (hp : purV h fr k v = some (v', bs)) : ∀ b ∈ bs, ∃ o, h.get b = some o := fun b hb => cells_live (purV_cells h fr k v v' bs hp b hb)
theorem mapP_live {h : AH} {fr : Bool} {k : Nat} {xs ys : List AV} {bs : List Nat} (hm : mapP (purV h fr k) xs = some (ys, bs)) : ∀ b ∈ bs, ∃ o, h.get b = some o := fun b hb => cells_live (mapP_cells hm b hb)

theorem less_live (O : Over C1 Cx h1 h2 fr s0 w1 L) {b : Nat} (h : ∃ o, h2.get b = some o) : h1.get b = h2.get b := by
  obtain ⟨o, ho⟩ := h
  have := O.less.2.2 b
  split at this
  · rw [this] at ho; cases ho
  · exact this.symm

/-- A pure leaf. -/
theorem over_pure (O : Over C1 Cx h1 h2 fr s0 w1 L) (φ3 : Nat → Option Nat) {v v' : AV} {bs : List Nat} {x : Value} (hp : purV h2 fr depthA v = some (v', bs)) (hv : VRel C1 w1 v x) :
    VRel ⟨φ3, imm3 C1 Cx h2 fr s0⟩ w1 v' x := by
  have hl := purV_live _ _ _ _ _ _ hp
  have := purV_rel O.S1 fr depthA v v' bs x hp (fun b hb => less_live O (hl b hb)) hv
  exact VRel.mono (mono_imm (fun _ _ e => (by cases e)) (imm3_of_PI O hl)) _ _ this
theorem over_pures (O : Over C1 Cx h1 h2 fr s0 w1 L) (φ3 : Nat → Option Nat) {xs ys : List AV} {bs : List Nat} {vs : List Value} {one : Bool} (hp : mapP (purV h2 fr depthA) xs = some (ys, bs)) (hv : LRel C1 w1 one xs vs) :
    LRel ⟨φ3, imm3 C1 Cx h2 fr s0⟩ w1 one ys vs := by
  have hl := mapP_live hp
  have := mapP_rel (K := h1.get) (h := h2) (fr := fr) (fun v v' bs x h hk hv => purV_rel O.S1 fr depthA v v' bs x h hk hv) hp (fun b hb => less_live O (hl b hb)) hv
  exact LRel.mono (mono_imm (fun _ _ e => (by cases e)) (imm3_of_PI O hl)) _ _ _ this

/-- One more block of the caller's. -/
theorem sofar_new (O : Over C1 Cx h1 h2 fr s0 w1 L) {n0 : Nat} {φ3 : Nat → Option Nat} {K3 : Nat → Option AObj} {H : AH} {D : List Nat} (T : Sofar C1 Cx h1 h2 fr s0 w1 L n0 φ3 K3 H D) (hfr : Cx.φ H.nx = none) (hD : ∀ b ∈ D, b ∈ L)
    {b rb : Nat} (hb : b ∈ L) (hbD : b ∉ D) (hφ : C1.φ b = some rb) {o : AObj} (hro : isRo o = false) (hlive : live o = some o) (hR : ∀ φ : Nat → Option Nat, ORel ⟨φ, imm3 C1 Cx h2 fr s0⟩ w1 rb o) :
    Sofar C1 Cx h1 h2 fr s0 w1 L n0 (fun x => if x = H.nx then some rb else φ3 x) (updK K3 H.nx (some o)) (H.new o) (b :: D) := by
  obtain ⟨ob, hob, hrob⟩ := O.less.2.1 b hb
  have hs0 := O.fresh b rb hφ
  have hinj : ∀ x, (∃ q, h1.get x = some q) → C1.φ x = some rb → x = b := fun x ⟨q, hq⟩ e => (O.S1.inj b x ob q rb hob hq hrob hφ e).symm
  have hC1 : ¬ C1.imm rb := by
    rcases O.S1.at_ b ob hob with ⟨g, _⟩ | ⟨rb', g1, _, g3⟩
    · rw [g] at hφ; cases hφ
    · rw [g1] at hφ; injection hφ with hφ; subst hφ
      exact fun hi => by have := g3.2 hi; rw [hrob] at this; cases this
  have hni : ¬ imm3 C1 Cx h2 fr s0 rb := by
    rintro (hi | ⟨_, ⟨_, hi⟩ | ⟨x, hx, e⟩⟩)
    · have := O.old rb hi; omega
    · exact hC1 hi
    · have hx1 := less_live O hx
      obtain ⟨q, hq⟩ := hx
      have := hinj x ⟨q, by rw [hx1, hq]⟩ e
      subst this
      have := O.less.2.2 x
      rw [if_pos hb] at this
      rw [this] at hq; cases hq
  have hnx : φ3 H.nx = none := T.none_ _ hfr (.inr (Nat.le_refl _))
  have hno : ∀ x, φ3 x ≠ some rb := by
    intro x e
    rcases T.from_ x rb e with g | ⟨y, hy, g⟩
    · have := O.oldφ x rb g; omega
    · obtain ⟨q, hq, _⟩ := O.less.2.1 y (hD y hy)
      have := hinj y ⟨q, hq⟩ g
      subst this; exact hbD hy
  refine ⟨⟨fun x o' e => ?_, fun x x' o1 o2 r e1 e2 hr f1 f2 => ?_, fun x r e => ?_, T.S3.immlt⟩, by simpa using Nat.le_succ_of_le T.nx, fun x r e => ?_, fun x r e => ?_, fun x e hx => ?_, fun x hx hlt => ?_⟩
  · unfold updK at e
    split at e
    · rename_i h; subst h
      injection e with e; subst e
      refine .inr ⟨rb, by simp, hR _, ?_⟩
      rw [hro]; exact ⟨fun h => (by cases h), fun h => absurd h hni⟩
    · rename_i h
      rcases T.S3.at_ x o' e with ⟨g, g'⟩ | ⟨r, g1, g2, g3⟩
      · exact .inl ⟨by simpa [h] using g, g'⟩
      · refine .inr ⟨r, by simpa [h] using g1, ?_, g3⟩
        refine g2.mono (mono_imm (fun y r' e' => ?_) fun _ h => h) rfl
        have hne : y ≠ H.nx := fun h => by rw [h] at e'; have e'' : φ3 H.nx = some r' := e'; rw [hnx] at e''; cases e''
        show (if y = H.nx then some rb else φ3 y) = some r'
        rw [if_neg hne]; exact e'
  · unfold updK at e1 e2
    simp only at f1 f2
    by_cases h1 : x = H.nx <;> by_cases h2 : x' = H.nx
    · rw [h1, h2]
    · rw [if_pos h1] at f1; rw [if_neg h2] at f2
      injection f1 with f1; subst f1; exact absurd f2 (hno _)
    · rw [if_neg h1] at f1; rw [if_pos h2] at f2
      injection f2 with f2; subst f2; exact absurd f1 (hno _)
    · rw [if_neg h1] at f1 e1; rw [if_neg h2] at f2 e2
      exact T.S3.inj x x' o1 o2 r e1 e2 hr f1 f2
  · simp only at e
    split at e
    · injection e with e; subst e; exact O.S1.φlt b _ hφ
    · exact T.S3.φlt x r e
  · split at e
    · injection e with e; subst e; exact .inr ⟨b, by simp, hφ⟩
    · rcases T.from_ x r e with g | ⟨y, hy, g⟩
      · exact .inl g
      · exact .inr ⟨y, by simp [hy], g⟩
  · have := T.keep x r e
    have hne : x ≠ H.nx := fun h => by rw [h, hnx] at this; cases this
    rw [if_neg hne]; exact this
  · simp only [AH.nx_new] at hx
    have hne : x ≠ H.nx := by have := T.nx; omega
    rw [if_neg hne]; exact T.none_ x e (by omega)
  · unfold updK
    rw [AH.get_new]
    by_cases e : x = H.nx
    · subst e; simp [hlive]
    · rw [if_neg e, if_neg (Ne.symm e)]
      exact T.view x hx (by simp at hlt; omega)

/-- A block with nothing in it, that is nowhere. -/
theorem sofar_nowhere {n0 : Nat} {φ3 : Nat → Option Nat} {K3 : Nat → Option AObj} {H : AH} {D : List Nat} (T : Sofar C1 Cx h1 h2 fr s0 w1 L n0 φ3 K3 H D) (hfr : Cx.φ H.nx = none) :
    Sofar C1 Cx h1 h2 fr s0 w1 L n0 φ3 (updK K3 H.nx (some (.cells []))) (H.new (.cells [])) D := by
  refine ⟨sim_nowhere T.S3 (T.none_ _ hfr (.inr (Nat.le_refl _))), by simpa using Nat.le_succ_of_le T.nx, T.from_, T.keep, fun x e hx => T.none_ x e (by simp at hx; omega), fun x hx hlt => ?_⟩
  unfold updK
  rw [AH.get_new]
  by_cases e : x = H.nx
  · subst e; simp [live]
  · rw [if_neg e, if_neg (Ne.symm e)]
    exact T.view x hx (by simp at hlt; omega)
theorem sofar_weak {n0 : Nat} {φ3 : Nat → Option Nat} {K3 : Nat → Option AObj} {H : AH} {D D' : List Nat} (T : Sofar C1 Cx h1 h2 fr s0 w1 L n0 φ3 K3 H D) (hD : ∀ b ∈ D, b ∈ D') :
    Sofar C1 Cx h1 h2 fr s0 w1 L n0 φ3 K3 H D' :=
  ⟨T.S3, T.nx, fun b rb e => (T.from_ b rb e).imp id fun ⟨x, hx, g⟩ => ⟨x, hD x hx, g⟩, T.keep, T.none_, T.view⟩

structure Took (C1 Cx : Ctx) (h1 h2 : AH) (fr : Bool) (s0 : Nat) (w1 : World) (L : List Nat) (n0 : Nat) (φ3 : Nat → Option Nat) (K3 : Nat → Option AObj) (H : AH) (φ4 : Nat → Option Nat) (K4 : Nat → Option AObj) (H' : AH) (D' : List Nat) : Prop where
  S : Sofar C1 Cx h1 h2 fr s0 w1 L n0 φ4 K4 H' D'
  keep : ∀ b r, φ3 b = some r → φ4 b = some r
  old : ∀ b, (b < H.nx ∨ H'.nx ≤ b) → K4 b = K3 b
theorem Took.refl {n0 : Nat} {φ3 : Nat → Option Nat} {K3 : Nat → Option AObj} {H : AH} {D : List Nat} (T : Sofar C1 Cx h1 h2 fr s0 w1 L n0 φ3 K3 H D) : Took C1 Cx h1 h2 fr s0 w1 L n0 φ3 K3 H φ3 K3 H D :=
  ⟨T, fun _ _ h => h, fun _ _ => rfl⟩
theorem Took.trans {n0 : Nat} {φ3 φ4 φ5 : Nat → Option Nat} {K3 K4 K5 : Nat → Option AObj} {H H' H'' : AH} {D' D'' : List Nat} (T : Took C1 Cx h1 h2 fr s0 w1 L n0 φ3 K3 H φ4 K4 H' D') (U : Took C1 Cx h1 h2 fr s0 w1 L n0 φ4 K4 H' φ5 K5 H'' D'') (hn1 : H.nx ≤ H'.nx) (hn2 : H'.nx ≤ H''.nx) :
    Took C1 Cx h1 h2 fr s0 w1 L n0 φ3 K3 H φ5 K5 H'' D'' :=
  ⟨U.S, fun b r e => U.keep b r (T.keep b r e), fun b hb => by rw [U.old b (by omega), T.old b (by omega)]⟩
theorem Took.mono {n0 : Nat} {φ3 φ4 : Nat → Option Nat} {K3 K4 : Nat → Option AObj} {H H' : AH} {D' : List Nat} (T : Took C1 Cx h1 h2 fr s0 w1 L n0 φ3 K3 H φ4 K4 H' D') {I : Nat → Prop} : Mono ⟨φ3, I⟩ w1 ⟨φ4, I⟩ w1 :=
  mono_imm (C := ⟨φ3, I⟩) (C' := ⟨φ4, I⟩) T.keep fun _ h => h

theorem took_new (O : Over C1 Cx h1 h2 fr s0 w1 L) {n0 : Nat} {φ3 : Nat → Option Nat} {K3 : Nat → Option AObj} {H : AH} {D : List Nat} (T : Sofar C1 Cx h1 h2 fr s0 w1 L n0 φ3 K3 H D) (hfr : Cx.φ H.nx = none) (hD : ∀ b ∈ D, b ∈ L)
    {b rb : Nat} (hb : b ∈ L) (hbD : b ∉ D) (hφ : C1.φ b = some rb) {o : AObj} (hro : isRo o = false) (hlive : live o = some o) (hR : ∀ φ : Nat → Option Nat, ORel ⟨φ, imm3 C1 Cx h2 fr s0⟩ w1 rb o) :
    ∃ φ4 K4, Took C1 Cx h1 h2 fr s0 w1 L n0 φ3 K3 H φ4 K4 (H.new o) (b :: D) ∧ φ4 H.nx = some rb := by
  refine ⟨_, _, ⟨sofar_new O T hfr hD hb hbD hφ hro hlive hR, fun x r e => ?_, fun x hx => ?_⟩, by simp⟩
  · have hne : x ≠ H.nx := fun h => by rw [h, T.none_ _ hfr (.inr (Nat.le_refl _))] at e; cases e
    rw [if_neg hne]; exact e
  · simp only [AH.nx_new] at hx
    unfold updK; rw [if_neg (by omega)]

/-- What a thaw leaves of the heap: blocks are added at its end. -/
def Grow (h h' : AH) : Prop := h.nx ≤ h'.nx ∧ ∀ b, (b < h.nx ∨ h'.nx ≤ b) → h'.get b = h.get b
theorem Grow.refl (h : AH) : Grow h h := ⟨Nat.le_refl _, fun _ _ => rfl⟩
theorem Grow.trans {h h' h'' : AH} (a : Grow h h') (b : Grow h' h'') : Grow h h'' :=
  ⟨Nat.le_trans a.1 b.1, fun x hx => by have h1 := a.1; have h2 := b.1; rw [b.2 x (by omega), a.2 x (by omega)]⟩
theorem Grow.new (h : AH) (o : AObj) : Grow h (h.new o) := ⟨by simp, fun x hx => by simp only [AH.nx_new] at hx; rw [AH.get_new, if_neg (by omega)]⟩
theorem thaw1_frm {z : Nat} {h0 h1 : AH} {fr : Bool} {H H' : AH} {v v' : AV} (ht : thaw1 z h0 h1 fr H v = some (v', H')) : Grow H H' := by
  unfold thaw1 at ht
  split at ht
  · split at ht
    · simp only [Option.some.injEq, Prod.mk.injEq] at ht; obtain ⟨rfl, rfl⟩ := ht; exact Grow.refl _
    · simp only [Option.some.injEq, Prod.mk.injEq] at ht; obtain ⟨rfl, rfl⟩ := ht; exact Grow.new _ _
  · split at ht
    · split at ht
      · simp only [Option.some.injEq, Prod.mk.injEq] at ht; obtain ⟨rfl, rfl⟩ := ht; exact Grow.new _ _
      · cases ht
    · cases ht
  · split at ht
    · split at ht
      · split at ht
        · simp only [Option.some.injEq, Prod.mk.injEq] at ht; obtain ⟨rfl, rfl⟩ := ht; exact Grow.new _ _
        · cases ht
      · cases ht
    · cases ht
  · split at ht
    · simp only [Option.some.injEq, Prod.mk.injEq] at ht; obtain ⟨rfl, rfl⟩ := ht; exact Grow.refl _
    · cases ht
theorem thawL_frm {h0 h1 : AH} {fr : Bool} : ∀ {zs : List Nat} {xs ys : List AV} {H H' : AH}, thawL h0 h1 fr zs H xs = some (ys, H') → Grow H H'
  | zs, [], ys, H, H', ht => by simp only [thawL, Option.some.injEq, Prod.mk.injEq] at ht; obtain ⟨rfl, rfl⟩ := ht; exact Grow.refl _
  | zs, x :: xs, ys, H, H', ht => by
    simp only [thawL] at ht
    split at ht
    · rename_i h1v
      split at ht
      · rename_i h2v
        simp only [Option.some.injEq, Prod.mk.injEq] at ht; obtain ⟨rfl, rfl⟩ := ht
        exact (thaw1_frm h1v).trans (thawL_frm h2v)
      · cases ht
    · cases ht
theorem thawA_frm {zs : List Nat} {h0 h1 : AH} {fr : Bool} {H H' : AH} {v v' : AV} (ht : thawA zs h0 h1 fr H v = some (v', H')) : Grow H H' := by
  unfold thawA at ht
  split at ht
  · rename_i xs
    cases hq : thawL h0 h1 fr zs H xs with
    | none => rw [hq] at ht; cases ht
    | some q =>
      rw [hq] at ht
      simp only [Option.map_some, Option.some.injEq, Prod.mk.injEq] at ht; obtain ⟨rfl, rfl⟩ := ht
      exact thawL_frm hq
  · exact thaw1_frm ht
theorem thawT_frm {h0 h1 : AH} {fr : Bool} : ∀ {zss : List (List Nat)} {xs ys : List AV} {H H' : AH}, thawT h0 h1 fr zss H xs = some (ys, H') → Grow H H'
  | zss, [], ys, H, H', ht => by simp only [thawT, Option.some.injEq, Prod.mk.injEq] at ht; obtain ⟨rfl, rfl⟩ := ht; exact Grow.refl _
  | zss, x :: xs, ys, H, H', ht => by
    simp only [thawT] at ht
    split at ht
    · rename_i h1v
      split at ht
      · rename_i h2v
        simp only [Option.some.injEq, Prod.mk.injEq] at ht; obtain ⟨rfl, rfl⟩ := ht
        exact (thawA_frm h1v).trans (thawT_frm h2v)
      · cases ht
    · cases ht
theorem thaw_frm {zss : List (List Nat)} {h0 h1 : AH} {fr : Bool} {H H' : AH} {v v' : AV} (ht : thaw zss h0 h1 fr H v = some (v', H')) : Grow H H' := by
  unfold thaw at ht
  split at ht
  · rename_i xs
    cases hq : thawT h0 h1 fr zss H xs with
    | none => rw [hq] at ht; cases ht
    | some q =>
      rw [hq] at ht
      simp only [Option.map_some, Option.some.injEq, Prod.mk.injEq] at ht; obtain ⟨rfl, rfl⟩ := ht
      exact thawT_frm hq
  · exact thawA_frm ht

theorem purEs_rel (O : Over C1 Cx h1 h2 fr s0 w1 L) (φ : Nat → Option Nat) : ∀ {es es' : List (AV × AV)} {ms : List MapEntry}, purEs h2 fr es = some es' → ERel C1 w1 es ms → ERel ⟨φ, imm3 C1 Cx h2 fr s0⟩ w1 es' ms
  | [], es', ms, hp, hr => by simp only [purEs, Option.some.injEq] at hp; subst hp; exact hr
  | (k, v) :: es, es', ms, hp, hr => by
    cases k <;> simp only [purEs] at hp <;> first | (cases hp; done) | skip
    rename_i n
    split at hp
    · rename_i v' bs r' h3 h4
      injection hp with hp; subst hp
      obtain ⟨e, ms', rfl, k1, k2, k3⟩ := hr
      exact ⟨e, ms', rfl, by simpa only [VRel] using k1, over_pure O φ h3 k2, purEs_rel O φ h4 k3⟩
    · cases hp

theorem thaw1_rel {z : Nat} (O : Over C1 Cx h1 h2 fr s0 w1 L) {n0 : Nat} {φ3 : Nat → Option Nat} {K3 : Nat → Option AObj} {H : AH} {D : List Nat} (T : Sofar C1 Cx h1 h2 fr s0 w1 L n0 φ3 K3 H D)
    {v v' : AV} {H' : AH} {x : Value} (hfree : ∀ b, n0 ≤ b → b < H'.nx → Cx.φ b = none) (ht : thaw1 z h1 h2 fr H v = some (v', H')) (hv : VRel C1 w1 v x) (hN : (lv1 v ++ D).Nodup) (hL : ∀ b ∈ lv1 v ++ D, b ∈ L) :
    ∃ φ4 K4, Took C1 Cx h1 h2 fr s0 w1 L n0 φ3 K3 H φ4 K4 H' (lv1 v ++ D) ∧ VRel ⟨φ4, imm3 C1 Cx h2 fr s0⟩ w1 v' x := by
  have hpure : ∀ {v v' : AV} {bs : List Nat}, lv1 v = [] → VRel C1 w1 v x → purV h2 fr depthA v = some (v', bs) → H' = H →
      ∃ φ4 K4, Took C1 Cx h1 h2 fr s0 w1 L n0 φ3 K3 H φ4 K4 H' (lv1 v ++ D) ∧ VRel ⟨φ4, imm3 C1 Cx h2 fr s0⟩ w1 v' x := by
    intro v v' bs hl hv hp e
    subst e
    rw [hl]
    exact ⟨φ3, K3, Took.refl T, over_pure O φ3 hp hv⟩
  have hD : ∀ b ∈ D, b ∈ L := fun b hb => hL b (List.mem_append_right _ hb)
  unfold thaw1 at ht
  split at ht
  · -- none
    split at ht
    · simp only [Option.some.injEq, Prod.mk.injEq] at ht; obtain ⟨rfl, rfl⟩ := ht
      exact hpure (v := .nl) (bs := []) rfl hv rfl rfl
    · simp only [Option.some.injEq, Prod.mk.injEq] at ht; obtain ⟨rfl, rfl⟩ := ht
      simp only [VRel] at hv
      obtain ⟨a, rfl⟩ := hv
      refine ⟨φ3, _, ⟨sofar_weak (sofar_nowhere T (hfree _ T.nx (by simp))) (fun x hx => List.mem_append_right _ hx), fun _ _ h => h, fun x hx => ?_⟩, ?_⟩
      · simp only [AH.nx_new] at hx
        unfold updK; rw [if_neg (by omega)]
      · simp only [VRel]; exact ⟨a, 0, rfl, Nat.le_refl _, .inl rfl⟩
  · -- a map
    rename_i b
    have hb : b ∈ L := hL b (by simp [lv1])
    have hbD : b ∉ D := by simp [lv1] at hN; exact hN.1
    split at ht
    · rename_i es hes
      split at ht
      · rename_i es' hp
        simp only [Option.some.injEq, Prod.mk.injEq] at ht; obtain ⟨rfl, rfl⟩ := ht
        simp only [VRel] at hv
        obtain ⟨rb, hφ, rfl⟩ := hv
        rcases O.S1.at_ b _ hes with ⟨g, _⟩ | ⟨rb', g1, g2, _⟩
        · rw [g] at hφ; cases hφ
        · rw [g1] at hφ; injection hφ with hφ; subst hφ
          obtain ⟨ms, cl, k1, k2⟩ := g2
          obtain ⟨φ4, K4, t1, t2⟩ := took_new O T (hfree _ T.nx (by simp)) hD hb hbD g1 (o := .map es') rfl rfl (fun φ => ⟨ms, cl, k1, purEs_rel O φ hp k2⟩)
          exact ⟨φ4, K4, t1, by simp only [VRel]; exact ⟨rb', t2, rfl⟩⟩
      · cases ht
    · cases ht
  · -- a slice
    rename_i b z off n
    have hb : b ∈ L := hL b (by simp [lv1])
    have hbD : b ∉ D := by simp [lv1] at hN; exact hN.1
    split at ht
    · rename_i cs hcs
      split at ht
      · rename_i hoff
        obtain ⟨rfl, hlen⟩ := hoff
        split at ht
        · rename_i cs' bs hp
          simp only [Option.some.injEq, Prod.mk.injEq] at ht; obtain ⟨rfl, rfl⟩ := ht
          obtain ⟨o, ho, hro⟩ := O.less.2.1 b hb
          have hk : h1.get b = some (.cells cs) := by
            rcases cells_spec hcs with e | e
            · exact e
            · rw [e] at ho; injection ho with ho; subst ho; cases hro
          simp only [VRel] at hv
          obtain ⟨a, c, rfl, hle, hv⟩ := hv
          rcases O.S1.at_ b _ hk with ⟨g, g'⟩ | ⟨rb, g1, g2, _⟩
          · have hnil : cs = [] := by cases cs with | nil => rfl | cons _ _ => simp [isNone] at g'
            subst hnil
            simp only [mapP, Option.some.injEq, Prod.mk.injEq] at hp; obtain ⟨rfl, _⟩ := hp
            have hc0 : c = 0 := by
              rcases hv with e | ⟨rb, e, _⟩
              · exact e
              · rw [g] at e; cases e
            refine ⟨φ3, _, ⟨sofar_weak (sofar_nowhere T (hfree _ T.nx (by simp))) (fun x hx => List.mem_append_right _ hx), fun _ _ h => h, fun x hx => ?_⟩, ?_⟩
            · simp only [AH.nx_new] at hx
              unfold updK; rw [if_neg (by omega)]
            · simp only [VRel]; exact ⟨a, c, rfl, hle, .inl hc0⟩
          · obtain ⟨vs, rest, ty, k1, k2⟩ := g2
            obtain ⟨φ4, K4, t1, t2⟩ := took_new O T (hfree _ T.nx (by simp)) hD hb hbD g1 (o := .cells cs') rfl rfl (fun φ => ⟨vs, rest, ty, k1, over_pures O φ hp k2⟩)
            refine ⟨φ4, K4, t1, ?_⟩
            simp only [VRel]
            refine ⟨a, c, rfl, hle, ?_⟩
            rcases hv with e | ⟨rb', e1, e2, e3⟩
            · exact .inl e
            · rw [g1] at e1; injection e1 with e1; subst e1
              exact .inr ⟨rb, t2, e2, e3⟩
        · cases ht
      · cases ht
    · cases ht
  · split at ht
    · rename_i h1' h2' _ _ _ hp
      simp only [Option.some.injEq, Prod.mk.injEq] at ht; obtain ⟨rfl, rfl⟩ := ht
      refine hpure ?_ hv hp rfl
      cases v <;> first | rfl | exact absurd rfl (h1' _) | exact absurd rfl (h2' _ _ _ _)
    · cases ht

theorem comm_mem {A B D L : List Nat} (h : ∀ b ∈ (A ++ B) ++ D, b ∈ L) : ∀ b ∈ B ++ (A ++ D), b ∈ L := fun b hb => h b (by simp at hb ⊢; rcases hb with h | h | h <;> simp [h])
theorem comm_nodup {A B D : List Nat} (h : ((A ++ B) ++ D).Nodup) : (B ++ (A ++ D)).Nodup := by
  rw [List.append_assoc] at h
  exact (List.perm_append_comm_assoc A B D).nodup_iff.1 h
theorem comm_weak {A B D : List Nat} : ∀ b ∈ B ++ (A ++ D), b ∈ (A ++ B) ++ D := fun b hb => by simp at hb ⊢; rcases hb with h | h | h <;> simp [h]
theorem left_nodup {A B D : List Nat} (h : ((A ++ B) ++ D).Nodup) : (A ++ D).Nodup := by
  have := comm_nodup h
  exact (List.nodup_append.1 this).2.1

theorem took_weak {n0 : Nat} {φ3 φ4 : Nat → Option Nat} {K3 K4 : Nat → Option AObj} {H H' : AH} {D D' : List Nat} (T : Took C1 Cx h1 h2 fr s0 w1 L n0 φ3 K3 H φ4 K4 H' D) (hD : ∀ b ∈ D, b ∈ D') : Took C1 Cx h1 h2 fr s0 w1 L n0 φ3 K3 H φ4 K4 H' D' :=
  ⟨sofar_weak T.S hD, T.keep, T.old⟩

theorem thawL_rel (O : Over C1 Cx h1 h2 fr s0 w1 L) {n0 : Nat} {one : Bool} : ∀ {zs : List Nat} {xs ys : List AV} {vs : List Value} {φ3 : Nat → Option Nat} {K3 : Nat → Option AObj} {H H' : AH} {D : List Nat}, Sofar C1 Cx h1 h2 fr s0 w1 L n0 φ3 K3 H D → (∀ b, n0 ≤ b → b < H'.nx → Cx.φ b = none) →
    thawL h1 h2 fr zs H xs = some (ys, H') → LRel C1 w1 one xs vs → (xs.flatMap lv1 ++ D).Nodup → (∀ b ∈ xs.flatMap lv1 ++ D, b ∈ L) →
    ∃ φ4 K4, Took C1 Cx h1 h2 fr s0 w1 L n0 φ3 K3 H φ4 K4 H' (xs.flatMap lv1 ++ D) ∧ LRel ⟨φ4, imm3 C1 Cx h2 fr s0⟩ w1 one ys vs
  | zs, [], ys, vs, φ3, K3, H, H', D, T, hfree, ht, hl, hN, hL => by
    simp only [thawL, Option.some.injEq, Prod.mk.injEq] at ht; obtain ⟨rfl, rfl⟩ := ht
    simp only [LRel] at hl; subst hl
    exact ⟨φ3, K3, Took.refl T, LRel.nil⟩
  | zs, x :: xs, ys, vs, φ3, K3, H, H', D, T, hfree, ht, hl, hN, hL => by
    simp only [thawL] at ht
    split at ht
    · rename_i v' H1 h1v
      split at ht
      · rename_i r' H2 h2v
        simp only [Option.some.injEq, Prod.mk.injEq] at ht; obtain ⟨rfl, rfl⟩ := ht
        simp only [LRel] at hl
        obtain ⟨v, r, rfl, ho, hv, hl⟩ := hl
        rw [List.flatMap_cons] at hN hL ⊢
        obtain ⟨φ4, K4, t1, t2⟩ := thaw1_rel O T (fun b h1 h2 => hfree b h1 (Nat.lt_of_lt_of_le h2 (thawL_frm h2v).1)) h1v hv (left_nodup hN) (fun b hb => hL b (by simp at hb ⊢; rcases hb with h | h <;> simp [h]))
        obtain ⟨φ5, K5, u1, u2⟩ := thawL_rel O t1.S hfree h2v hl (comm_nodup hN) (comm_mem hL)
        exact ⟨φ5, K5, took_weak (t1.trans u1 (thaw1_frm h1v).1 (thawL_frm h2v).1) comm_weak, LRel.cons ho (VRel.mono u1.mono _ _ t2) u2⟩
      · cases ht
    · cases ht
theorem thawA_rel {zs : List Nat} (O : Over C1 Cx h1 h2 fr s0 w1 L) {n0 : Nat} {φ3 : Nat → Option Nat} {K3 : Nat → Option AObj} {H : AH} {D : List Nat} (T : Sofar C1 Cx h1 h2 fr s0 w1 L n0 φ3 K3 H D)
    {v v' : AV} {H' : AH} {x : Value} (hfree : ∀ b, n0 ≤ b → b < H'.nx → Cx.φ b = none) (ht : thawA zs h1 h2 fr H v = some (v', H')) (hv : VRel C1 w1 v x) (hN : (lvA v ++ D).Nodup) (hL : ∀ b ∈ lvA v ++ D, b ∈ L) :
    ∃ φ4 K4, Took C1 Cx h1 h2 fr s0 w1 L n0 φ3 K3 H φ4 K4 H' (lvA v ++ D) ∧ VRel ⟨φ4, imm3 C1 Cx h2 fr s0⟩ w1 v' x := by
  by_cases hag : ∃ xs, v = .ag xs
  · obtain ⟨xs, rfl⟩ := hag
    simp only [thawA] at ht
    cases hq : thawL h1 h2 fr zs H xs with
    | none => rw [hq] at ht; cases ht
    | some q =>
      rw [hq] at ht
      simp only [Option.map_some, Option.some.injEq, Prod.mk.injEq] at ht; obtain ⟨rfl, rfl⟩ := ht
      simp only [VRel] at hv
      obtain ⟨vs, rfl, hl⟩ := hv
      obtain ⟨φ4, K4, t1, t2⟩ := thawL_rel O T hfree hq hl hN hL
      exact ⟨φ4, K4, t1, by simp only [VRel]; exact ⟨vs, rfl, t2⟩⟩
  · have e1 : thawA zs h1 h2 fr H v = thaw1 (zs.headD 0) h1 h2 fr H v := by cases v <;> first | rfl | exact absurd ⟨_, rfl⟩ hag
    have e2 : lvA v = lv1 v := by cases v <;> first | rfl | exact absurd ⟨_, rfl⟩ hag
    rw [e1] at ht; rw [e2] at hN hL ⊢
    exact thaw1_rel O T hfree ht hv hN hL
theorem thawT_rel (O : Over C1 Cx h1 h2 fr s0 w1 L) {n0 : Nat} {one : Bool} : ∀ {zss : List (List Nat)} {xs ys : List AV} {vs : List Value} {φ3 : Nat → Option Nat} {K3 : Nat → Option AObj} {H H' : AH} {D : List Nat}, Sofar C1 Cx h1 h2 fr s0 w1 L n0 φ3 K3 H D → (∀ b, n0 ≤ b → b < H'.nx → Cx.φ b = none) →
    thawT h1 h2 fr zss H xs = some (ys, H') → LRel C1 w1 one xs vs → (xs.flatMap lvA ++ D).Nodup → (∀ b ∈ xs.flatMap lvA ++ D, b ∈ L) →
    ∃ φ4 K4, Took C1 Cx h1 h2 fr s0 w1 L n0 φ3 K3 H φ4 K4 H' (xs.flatMap lvA ++ D) ∧ LRel ⟨φ4, imm3 C1 Cx h2 fr s0⟩ w1 one ys vs
  | zss, [], ys, vs, φ3, K3, H, H', D, T, hfree, ht, hl, hN, hL => by
    simp only [thawT, Option.some.injEq, Prod.mk.injEq] at ht; obtain ⟨rfl, rfl⟩ := ht
    simp only [LRel] at hl; subst hl
    exact ⟨φ3, K3, Took.refl T, LRel.nil⟩
  | zss, x :: xs, ys, vs, φ3, K3, H, H', D, T, hfree, ht, hl, hN, hL => by
    simp only [thawT] at ht
    split at ht
    · rename_i v' H1 h1v
      split at ht
      · rename_i r' H2 h2v
        simp only [Option.some.injEq, Prod.mk.injEq] at ht; obtain ⟨rfl, rfl⟩ := ht
        simp only [LRel] at hl
        obtain ⟨v, r, rfl, ho, hv, hl⟩ := hl
        rw [List.flatMap_cons] at hN hL ⊢
        obtain ⟨φ4, K4, t1, t2⟩ := thawA_rel O T (fun b h1 h2 => hfree b h1 (Nat.lt_of_lt_of_le h2 (thawT_frm h2v).1)) h1v hv (left_nodup hN) (fun b hb => hL b (by simp at hb ⊢; rcases hb with h | h <;> simp [h]))
        obtain ⟨φ5, K5, u1, u2⟩ := thawT_rel O t1.S hfree h2v hl (comm_nodup hN) (comm_mem hL)
        refine ⟨φ5, K5, took_weak (t1.trans u1 (thawA_frm h1v).1 (thawT_frm h2v).1) comm_weak, LRel.cons (fun h => ho h) (VRel.mono u1.mono _ _ t2) u2⟩
      · cases ht
    · cases ht
theorem thaw_rel {zss : List (List Nat)} (O : Over C1 Cx h1 h2 fr s0 w1 L) {n0 : Nat} {φ3 : Nat → Option Nat} {K3 : Nat → Option AObj} {H : AH} (T : Sofar C1 Cx h1 h2 fr s0 w1 L n0 φ3 K3 H [])
    {v v' : AV} {H' : AH} {x : Value} (hfree : ∀ b, n0 ≤ b → b < H'.nx → Cx.φ b = none) (ht : thaw zss h1 h2 fr H v = some (v', H')) (hv : VRel C1 w1 v x) (hN : (lvT v).Nodup) (hL : ∀ b ∈ lvT v, b ∈ L) :
    ∃ φ4 K4, Took C1 Cx h1 h2 fr s0 w1 L n0 φ3 K3 H φ4 K4 H' (lvT v) ∧ VRel ⟨φ4, imm3 C1 Cx h2 fr s0⟩ w1 v' x := by
  have key : ∀ v v' x, lvT v = lvA v → thawA (zss.headD []) h1 h2 fr H v = some (v', H') → VRel C1 w1 v x → (lvT v).Nodup → (∀ b ∈ lvT v, b ∈ L) → ∃ φ4 K4, Took C1 Cx h1 h2 fr s0 w1 L n0 φ3 K3 H φ4 K4 H' (lvT v) ∧ VRel ⟨φ4, imm3 C1 Cx h2 fr s0⟩ w1 v' x := by
    intro v v' x e ht hv hN hL
    rw [e] at hN hL ⊢
    obtain ⟨φ4, K4, t1, t2⟩ := thawA_rel O T hfree ht hv (by simpa using hN) (by simpa using hL)
    exact ⟨φ4, K4, by simpa using t1, t2⟩
  by_cases htu : ∃ xs, v = .tu xs
  · obtain ⟨xs, rfl⟩ := htu
    simp only [thaw] at ht
    cases hq : thawT h1 h2 fr zss H xs with
    | none => rw [hq] at ht; cases ht
    | some q =>
      rw [hq] at ht
      simp only [Option.map_some, Option.some.injEq, Prod.mk.injEq] at ht; obtain ⟨rfl, rfl⟩ := ht
      simp only [VRel] at hv
      obtain ⟨vs, rfl, hl⟩ := hv
      obtain ⟨φ4, K4, t1, t2⟩ := thawT_rel O T hfree hq hl (by simpa [lvT] using hN) (by simpa [lvT] using hL)
      exact ⟨φ4, K4, by simpa [lvT] using t1, by simp only [VRel]; exact ⟨vs, rfl, t2⟩⟩
  · have e1 : thaw zss h1 h2 fr H v = thawA (zss.headD []) h1 h2 fr H v := by cases v <;> first | rfl | exact absurd ⟨_, rfl⟩ htu
    have e2 : lvT v = lvA v := by cases v <;> first | rfl | exact absurd ⟨_, rfl⟩ htu
    rw [e1] at ht
    exact key _ _ _ e2 ht hv hN hL
end
end Go.Proofs.Ytadipihpgcelmaa.Ab
