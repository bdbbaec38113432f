/- ZoneMay, in plain words: whatever comes in, true. -/
import Derived.Test.YtanncjfbollofaaFlMay
import Derived.Test.YtanncjfbollofaaPlainM
import Derived.Test.YtanncjfbollofaaAbsZ
namespace Go.Proofs.Ytanncjfbollofaa
open Go Go.Proofs.Ytanncjfbollofaa.Ab
set_option linter.unusedVariables false
set_option linter.unusedSimpArgs false
namespace Ab
theorem clones : CloneOk Try.prog cf.clone :=
  cloneOk_cons (clone_at Try.func29 rfl rfl rfl (by kernel_rfl) (t := 23) (by kernel_rfl)) (cloneOk_nil _)
abbrev zo (s : Int × Int × Int × List UInt8 × Int) : Zo := ⟨s.2.1, s.2.2.1, s.2.2.2.1, s.2.2.2.2⟩
theorem step_eq (z : Zo) (size : Int) (l : List Sp) (b1 b2 : Bool) (s : Int × Int × Int × List UInt8 × Int) (hc : Ab.chk (zo s) size = true) (h1 : 0 ≤ s.1) (h2 : s.1 < l.length) (h3 : s.1 < 50) (h4 : (spAt l s.1.toNat).d.length ≤ 300) :
    lMay_L0_step z size l b1 b2 s = some (s.1 + 1, (dn (zo s) size (spAt l s.1.toNat)).st, (dn (zo s) size (spAt l s.1.toNat)).rs, (dn (zo s) size (spAt l s.1.toNat)).d, (dn (zo s) size (spAt l s.1.toNat)).la) := by
  obtain ⟨i, st, rs, d, la⟩ := s
  simp only at h1 h2 h3 h4 hc ⊢
  have hz := chk_size hc
  have hm := dn_may (spAt l i.toNat) hc
  simp only at hz hm
  have hil : i.toNat < l.length := by omega
  have e1 : decide (i < (l.length : Int)) = true := by simp; omega
  have e2 : decide (i < 50) = true := by simp; omega
  have e3 : decide (((spAt l i.toNat).d.length : Int) > 300) = false := by simp; omega
  have hlen : (List.flatMap Sp.cells l).length = l.length * 3 := sps_len l
  have hw : wr (i + 1) = i + 1 := wrap_id (by omega) (by omega)
  have hD : lDone ⟨st, rs, d, la⟩ size (spAt l i.toNat) = some (dn ⟨st, rs, d, la⟩ size (spAt l i.toNat)) := lDone_eq (z := ⟨st, rs, d, la⟩) size (by simp only; omega) (by omega)
  unfold lMay_L0_step
  simp only [tb, tp, tc, e1, e2, e3, cond_true, cond_false, hD, Option.bind_some, hw]
  generalize hy : dn ⟨st, rs, d, la⟩ size (spAt l i.toNat) = y at hm
  have hmin : imin (y.d.length : Int) (d.length : Int) = ((min y.d.length d.length : Nat) : Int) := by rw [imin_eq]; omega
  have hmt : (imin (y.d.length : Int) (d.length : Int)).toNat = min y.d.length d.length := by rw [hmin]; omega
  have hb := hm.begins
  simp only at hb
  rw [if_pos ⟨h1, h2⟩, if_pos (by simp only [List.length_drop, hlen]; omega), if_pos (by simp only [List.length_drop, hlen]; omega), if_pos (by rw [hmin]; omega), if_pos (by rw [hmt]; first | (simp; done) | (simp; omega)), if_pos (by rw [hmt]; first | (simp; done) | (simp; omega)), if_pos (by rw [hmt]; first | (simp; done) | (simp; omega)), if_pos (by rw [hmt]; first | (simp; done) | (simp; omega)), if_pos (by simp only [List.length_drop, hlen]; omega)]
  simp only [hmt, Nat.sub_zero, Nat.mul_one, hb, beq_self_eq_true, Bool.not_true, cond_false, pCheck_eq, Option.bind_some, hm.chk]
  have hr : decide (y.rs < rs) = false := by have := hm.rs; simp at this ⊢; omega
  have hla := hm.lasts
  simp only at hla
  have hl2 := hm.len
  simp only at hl2
  simp only [hr, cond_false]
  by_cases k1 : (spAt l i.toNat).k = 1
  · have n1 : ((spAt l i.toNat).k == 1) = true := by simp [k1]
    have n2 : ((spAt l i.toNat).k != 1) = false := by simp [k1]
    simp only [n1, n2, cond_true, cond_false]
  · have n1 : ((spAt l i.toNat).k == 1) = false := by simp [k1]
    have n2 : ((spAt l i.toNat).k != 1) = true := by simp [k1]
    have hl1 := hla.resolve_left k1
    have g1 : decide ((y.d.length : Int) ≥ la) = true := decide_eq_true (by omega)
    have g2 : decide (y.la ≥ la) = true := decide_eq_true (by omega)
    by_cases k4 : (spAt l i.toNat).k = 4
    · have n4 : ((spAt l i.toNat).k != 4) = false := by simp [k4]
      simp only [n1, n2, n4, g1, g2, cond_true, cond_false, Bool.not_true]
    · have n4 : ((spAt l i.toNat).k != 4) = true := by simp [k4]
      have g3 : decide ((y.d.length : Int) < (d.length : Int)) = false := decide_eq_false (by have := hl2 k1 k4; omega)
      simp only [n1, n2, n4, g1, g2, g3, cond_true, cond_false, Bool.not_true]
theorem lMay_true (z : Zo) (size : Int) (l : List Sp) : lMay z size l = some true := by
  unfold lMay awake
  simp only [tc, Option.bind_some, pCheck_eq]
  simp only [tb]
  by_cases h0 : decide ((z.d.length : Int) > 300) = true
  · simp only [h0, cond_true]
  simp only [h0, cond_false]
  cases hc : Ab.chk z size with
  | false => simp
  | true =>
    simp only [Bool.not_true, cond_false]
    refine th_inv (fun s => Ab.chk (zo s) size = true ∧ 0 ≤ s.1 ∧ s.1 ≤ 50) (fun s => (50 - s.1).toNat) ⟨hc, by simp, by simp⟩ ?_ ?_
    · intro s s' ⟨i1, i2, i3⟩ he
      by_cases a1 : s.1 < (l.length : Int)
      · by_cases a2 : s.1 < 50
        · by_cases a3 : (spAt l s.1.toNat).d.length ≤ 300
          · rw [step_eq z size l _ _ s i1 i2 a1 a2 a3] at he
            injection he with he
            subst he
            exact ⟨⟨(dn_may _ i1).chk, by simp only; omega, by simp only; omega⟩, by simp only; omega⟩
          · exfalso
            have e3 : decide (((spAt l s.1.toNat).d.length : Int) > 300) = true := by simp; omega
            unfold lMay_L0_step at he
            simp only [tb, tp, e3, cond_true] at he
            revert he
            cases decide (s.1 < (l.length : Int)) <;> cases decide (s.1 < (50 : Int)) <;> simp
        · exfalso
          have e2 : decide (s.1 < (50 : Int)) = false := by simp; omega
          unfold lMay_L0_step at he
          simp only [tb, e2, cond_false] at he
          revert he
          cases decide (s.1 < (l.length : Int)) <;> simp
      · exfalso
        have e1 : decide (s.1 < (l.length : Int)) = false := by simp; omega
        unfold lMay_L0_step at he
        simp only [tb, e1, cond_false] at he
        cases he
    · intro s ⟨i1, i2, i3⟩ he
      by_cases a1 : s.1 < (l.length : Int)
      · have e1 : decide (s.1 < (l.length : Int)) = true := by simp; omega
        by_cases a2 : s.1 < 50
        · have e2 : decide (s.1 < (50 : Int)) = true := by simp; omega
          by_cases a3 : (spAt l s.1.toNat).d.length ≤ 300
          · rw [step_eq z size l _ _ s i1 i2 a1 a2 a3] at he; cases he
          · have e3 : decide (((spAt l s.1.toNat).d.length : Int) > 300) = true := by simp; omega
            simp only [e1, e2, e3, cond_true, tp]
            rw [if_pos ⟨i2, a1⟩, if_pos (by simp only [List.length_drop, sps_len]; omega)]
        · have e2 : decide (s.1 < (50 : Int)) = false := by simp; omega
          simp only [e1, e2, cond_true, cond_false]
      · have e1 : decide (s.1 < (l.length : Int)) = false := by simp; omega
        simp only [e1, cond_false]
theorem zoneMay_call (z : Zo) (size : Int) (l : List Sp) (h1 : Zo.ok z) (h2 : I64 size) (h3 : ∀ x ∈ l, Sp.ok x) : EvFr Try.prog cf false 9 [.ag (Zo.cells z), .i size, .sl l.length (l.flatMap Sp.cells)] (.b true) :=
  lMay_ok z size l true (lMay_true z size l)
end Ab
end Go.Proofs.Ytanncjfbollofaa
