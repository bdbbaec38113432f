/- A call of a function on values that nobody writes: what the caller has behind it. -/
import Derived.Test.YtadipihpgcelmaaAbsN
namespace Go.Proofs.Ytadipihpgcelmaa.Ab
open Go
set_option linter.unusedVariables false
set_option linter.unusedSimpArgs false

/-- What a called function may look at. -/
theorem sim_enter {C : Ctx} {K : Nat → Option AObj} {w : World} (hS : Sim C K w) (fr : Bool) (rd : List Nat) : Sim (PC C fr rd) AH.empty.get w where
  at_ b o e := by rw [AH.get_empty] at e; cases e
  inj b b' o o' rb e := by rw [AH.get_empty] at e; cases e
  φlt b rb e := by cases e
  immlt rb e := by
    rcases e with ⟨_, e⟩ | ⟨b, _, e⟩
    · exact hS.immlt rb e
    · exact hS.φlt b rb e

section
variable {C Cx C1 : Ctx} {K Kx : Nat → Option AObj} {w w1 : World} {h1 h2 : AH} {fr : Bool} {L : List Nat}

theorem step_out (hX : Sim Cx Kx w) (O : Over C1 Cx h1 h2 fr w.heap.size w1 L) {C0 : Ctx} (h0 : ∀ b, C0.φ b = none) (hs : Step C0 w C1 w1) {φ4 : Nat → Option Nat}
    (hk : ∀ b rb, Cx.φ b = some rb → φ4 b = some rb) (hf : ∀ b rb, φ4 b = some rb → Cx.φ b = some rb ∨ ∃ x, C1.φ x = some rb) : Step Cx w ⟨φ4, imm3 C1 Cx h2 fr w.heap.size⟩ w1 where
  φ := hk
  φnew b rb e := by
    rcases hf b rb e with g | ⟨x, g⟩
    · exact .inl g
    · exact .inr (.inl (O.fresh x rb g))
  imm b e := .inl e
  immnew b e := by
    rcases e with e | ⟨e, _⟩
    · exact .inl e
    · exact .inr (.inl e)
  size := hs.size
  keep b hb _ := hs.keep b hb fun i e => by rw [h0] at e; cases e
  immkeep b hb := hs.keep b (hX.immlt b hb) fun i e => by rw [h0] at e; cases e
  sizes := hs.sizes
  env := hs.env

theorem sofar_init (hX : Sim Cx Kx w) (O : Over C1 Cx h1 h2 fr w.heap.size w1 L) {C0 : Ctx} (h0 : ∀ b, C0.φ b = none) (hs : Step C0 w C1 w1) (h : AH) :
    Sofar C1 Cx h1 h2 fr w.heap.size w1 L h.nx Cx.φ Kx h [] := by
  have hst := step_out (φ4 := Cx.φ) hX O h0 hs (fun _ _ e => e) (fun _ _ e => .inl e)
  refine ⟨⟨fun b o e => ?_, hX.inj, fun b rb e => ?_, fun b e => ?_⟩, Nat.le_refl _, fun _ _ e => .inl e, fun _ _ e => e, fun _ e _ => e, fun b h1 h2 => absurd h2 (Nat.not_lt.2 h1)⟩
  · rcases hX.at_ b o e with ⟨g, g'⟩ | ⟨rb, g1, g2, g3⟩
    · exact .inl ⟨g, g'⟩
    · have hlt := hX.φlt b rb g1
      refine .inr ⟨rb, g1, g2.step hst (hs.keep rb hlt fun i e => by rw [h0] at e; cases e), fun h => .inl (g3.1 h), fun h => g3.2 ?_⟩
      rcases h with h | ⟨h, _⟩
      · exact h
      · omega
  · exact Nat.lt_of_lt_of_le (hX.φlt b rb e) hs.size
  · rcases e with e | ⟨_, ⟨_, e⟩ | ⟨x, _, e⟩⟩
    · exact Nat.lt_of_lt_of_le (hX.immlt b e) hs.size
    · exact O.S1.immlt b e
    · exact O.S1.φlt x b e
end

/-- Back from a call. -/
theorem backA_rel {C C1 : Ctx} {K : Nat → Option AObj} {w w1 : World} {h h1 : AH} {fr : Bool} {th : Option (List (List Nat))} {rd : List Nat} {v : AV} {x : Value} {r : CR} (hr : backA fr th h rd v h1 = some r) (hS : Sim C K w) (hK : ∀ b ∈ rd, K b = h.get b)
    (hcells : ∀ b ∈ rd, ∃ cs, h.cells b = some cs) (hs : Step (PC C false rd) w C1 w1) (hS1 : Sim C1 h1.get w1) (hv : VRel C1 w1 v x) (hfree : ∀ b, h.nx ≤ b → b < r.h.nx → C.φ b = none) :
    ∃ wr, r.wr = some wr ∧ r.rd = some rd ∧ ∃ C', Step C w C' w1 ∧ Sim C' (fun b => if b ∈ wr then r.h.get b else K b) w1 ∧ VRel C' w1 r.v x ∧ ∀ b, C.φ b = none → (b ∉ wr ∨ r.h.nx ≤ b) → C'.φ b = none := by
  -- the caller, behind what it gave away
  obtain ⟨Cx, Kx, hX, hsx, hφx, himx, hKx⟩ : ∃ Cx Kx, Sim Cx Kx w ∧ Step C w Cx w ∧ (∀ b, Cx.φ b = C.φ b) ∧ ((fr && !rd.isEmpty) = false → ∀ b ∈ rd, ∀ rb, C.φ b = some rb → Cx.imm rb) ∧
      (∀ b, Kx b = if b ∈ (if fr = true then [] else rd) then (if (fr || rd.isEmpty) = true then h else fixAll h rd).get b else K b) := by
    by_cases hc : (fr || rd.isEmpty) = true
    · refine ⟨C, K, hS, Step.refl C w, fun _ => rfl, fun hf b hb => ?_, fun b => ?_⟩
      · cases fr with
        | true => cases rd with
          | nil => cases hb
          | cons _ _ => simp at hf
        | false => cases rd with
          | nil => cases hb
          | cons _ _ => simp at hc
      · cases fr with
        | true => simp
        | false => cases rd with
          | nil => simp
          | cons _ _ => simp at hc
    · have hf : fr = false := by cases fr <;> simp_all
      subst hf
      refine ⟨fixC C K rd, fixK K rd, sim_fix hS rd, step_fix rd, fun _ => rfl, fun _ b hb rb e => ?_, fun b => ?_⟩
      · obtain ⟨cs, hcs⟩ := hcells b hb
        rcases cells_spec hcs with g | g
        · exact .inr ⟨b, hb, ⟨cs, by rw [hK b hb, g]⟩, e⟩
        · rcases hS.at_ b (.ro cs) (by rw [hK b hb, g]) with ⟨g1, _⟩ | ⟨rb', g1, _, g3⟩
          · rw [g1] at e; cases e
          · rw [g1] at e; injection e with e; subst e; exact .inl (g3.1 rfl)
      · simp only [Bool.false_eq_true, if_false]
        rw [if_neg hc, get_fixAll]
        unfold fixK
        by_cases hb : b ∈ rd
        · simp only [hb, if_true]; rw [hK b hb]
        · simp only [hb, if_false]
  have hnx : (if (fr || rd.isEmpty) = true then h else fixAll h rd).nx = h.nx := by split <;> first | rfl | exact nx_fixAll _ _
  have h0 : ∀ b, (PC C false rd).φ b = none := fun _ => rfl
  have hover : ∀ {h2 : AH} {L : List Nat}, Less h1 h2 L → Over C1 Cx h1 h2 (fr && !rd.isEmpty) w.heap.size w1 L := by
    intro h2 L hl
    refine ⟨hS1, hl, fun b rb e => ?_, hX.immlt, hX.φlt, fun rb hf e => ?_⟩
    · rcases hs.φnew b rb e with g | g | ⟨i, g⟩
      · cases g
      · exact g
      · cases g
    · rcases hs.immnew rb e with g | g | ⟨i, g⟩
      · rcases g with ⟨_, g⟩ | ⟨b, hb, g⟩
        · exact .inl (hsx.imm rb g)
        · exact .inl (himx hf b hb rb g)
      · exact .inr g
      · cases g
  have hfree' : ∀ b, h.nx ≤ b → b < r.h.nx → Cx.φ b = none := fun b h1 h2 => by rw [hφx]; exact hfree b h1 h2
  generalize hH : (if (fr || rd.isEmpty) = true then h else fixAll h rd) = H at *
  unfold backA at hr
  simp only [hH] at hr
  split at hr
  · -- taken over
    rename_i hth
    split at hr
    · rename_i h2 hg
      split at hr
      · rename_i r' h'' ht
        injection hr with hr; subst hr
        have O := hover (grab_less hg)
        have hn : ∀ b, H.nx ≤ b → b < h''.nx → Cx.φ b = none := fun b h1 h2 => hfree' b (by omega) h2
        obtain ⟨φ4, K4, t1, t2⟩ := thaw_rel O (sofar_init hX O h0 hs H) hn ht hv (grab_less hg).1 (fun _ hb => hb)
        have hgrow := thaw_frm ht
        refine ⟨_, rfl, rfl, ⟨φ4, imm3 C1 Cx h2 (fr && !rd.isEmpty) w.heap.size⟩, hsx.trans (step_out hX O h0 hs t1.S.keep fun b rb e => (t1.S.from_ b rb e).imp id fun ⟨x, _, g⟩ => ⟨x, g⟩), t1.S.S3.congr fun b => ?_, t2, fun b e hb => ?_⟩
        · simp only [List.mem_append, List.mem_map, List.mem_range]
          by_cases hin : H.nx ≤ b ∧ b < h''.nx
          · rw [if_pos (.inr ⟨b - H.nx, by omega, by omega⟩), t1.S.view b hin.1 hin.2]
          · have ho := t1.old b (by omega)
            rw [ho, hKx b]
            have hno : ¬ ∃ a, a < h''.nx - H.nx ∧ H.nx + a = b := fun ⟨a, h1, h2⟩ => hin ⟨by omega, by omega⟩
            by_cases hb : b ∈ (if fr = true then [] else rd)
            · rw [if_pos (.inl hb), if_pos hb, hgrow.2 b (by omega)]
            · rw [if_neg hb, if_neg (fun g => g.elim hb hno)]
        · refine t1.S.none_ b (by rw [hφx]; exact e) ?_
          rcases hb with hb | hb
          · simp only [List.mem_append, List.mem_map, List.mem_range, not_or] at hb
            have := hb.2
            rcases Nat.lt_or_ge b H.nx with g | g
            · exact .inl g
            · rcases Nat.lt_or_ge b h''.nx with g' | g'
              · exact absurd ⟨b - H.nx, by omega, by omega⟩ this
              · exact .inr g'
          · exact .inr hb
      · cases hr
    · cases hr
  · split at hr
    · rename_i r' bs hp
      injection hr with hr; subst hr
      have O := hover (Less.nil h1)
      have T := sofar_init hX O h0 hs H
      refine ⟨_, rfl, rfl, ⟨Cx.φ, imm3 C1 Cx h1 (fr && !rd.isEmpty) w.heap.size⟩, hsx.trans (step_out hX O h0 hs (fun _ _ e => e) fun b rb e => .inl e), T.S3.congr fun b => (hKx b).symm, over_pure O Cx.φ hp hv, fun b e _ => by rw [← hφx b] at e; exact e⟩
    · cases hr
end Go.Proofs.Ytadipihpgcelmaa.Ab
