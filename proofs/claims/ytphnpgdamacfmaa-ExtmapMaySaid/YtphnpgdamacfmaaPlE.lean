/- What the functions of extents answer, in plain words. -/
import Derived.Test.YtphnpgdamacfmaaPlG
import Derived.Test.YtphnpgdamacfmaaFnA
namespace Go.Proofs.Ytphnpgdamacfmaa
open Go Go.Proofs.Ytphnpgdamacfmaa.Ab
set_option linter.unusedVariables false
set_option linter.unusedSimpArgs false
namespace Ab
/-- May an extent be? -/
def Ck (x : Ex) : Prop := 0 ≤ x.lba ∧ x.lba ≤ 64 ∧ 1 ≤ x.len ∧ x.len ≤ 64 - x.lba ∧ 0 ≤ x.kind ∧ x.kind ≤ 2 ∧ 0 ≤ x.gen ∧ x.gen ≤ 2147483647 ∧ (x.kind = 2 → (x.d.length : Int) = 32 * x.len) ∧ (x.kind ≠ 2 → x.d = [])
instance (x : Ex) : Decidable (Ck x) := by unfold Ck; infer_instance
def ck (x : Ex) : Bool := decide (Ck x)
theorem ck_iff {x : Ex} : ck x = true ↔ Ck x := decide_eq_true_iff
theorem len0 {α : Type} {l : List α} : ((l.length : Int) = 0) ↔ l = [] := by
  rw [← List.length_eq_zero_iff]; omega
theorem ck_t {x : Ex} (h : Ck x) : ck x = true := ck_iff.2 h
theorem ck_f {x : Ex} (h : ¬ Ck x) : ck x = false := decide_eq_false_iff_not.2 h
theorem eCheck_eq (x : Ex) : eCheck x = some (ck x) := by
  unfold eCheck
  simp only [tb_dec, tb_beq]
  by_cases h1 : x.lba ≥ 0
  case neg => rw [if_neg h1, ck_f (by unfold Ck; omega)]
  by_cases h2 : x.lba ≤ 64
  case neg => rw [if_pos h1, if_neg h2, ck_f (by unfold Ck; omega)]
  have hw : wr (64 - x.lba) = 64 - x.lba := wr_id (by omega) (by omega)
  rw [hw, if_pos h1, if_pos h2]
  by_cases h3 : x.len ≥ 1
  case neg => rw [if_neg h3, ck_f (by unfold Ck; omega)]
  by_cases h4 : x.len ≤ 64 - x.lba
  case neg => rw [if_pos h3, if_neg h4, ck_f (by unfold Ck; omega)]
  have hw2 : wr (x.len * 32) = x.len * 32 := wr_id (by omega) (by omega)
  rw [hw2, if_pos h3, if_pos h4]
  by_cases h5 : x.kind ≥ 0
  case neg => rw [if_neg h5, ck_f (by unfold Ck; omega)]
  by_cases h6 : x.kind ≤ 2
  case neg => rw [if_pos h5, if_neg h6, ck_f (by unfold Ck; omega)]
  by_cases h7 : x.gen ≥ 0
  case neg => rw [if_pos h5, if_pos h6, if_neg h7, ck_f (by unfold Ck; omega)]
  by_cases h8 : x.gen ≤ 2147483647
  case neg => rw [if_pos h5, if_pos h6, if_pos h7, if_neg h8, ck_f (by unfold Ck; omega)]
  rw [if_pos h5, if_pos h6, if_pos h7, if_pos h8]
  by_cases h9 : x.kind = 2
  · rw [if_pos h9]
    congr 1
    rw [Bool.eq_iff_iff, ck_iff, beq_iff_eq]
    exact ⟨fun h => ⟨h1, h2, h3, h4, h5, h6, h7, h8, fun _ => by omega, fun h' => absurd h9 h'⟩, fun h => by have := h.2.2.2.2.2.2.2.2.1 h9; omega⟩
  · rw [if_neg h9]
    congr 1
    rw [Bool.eq_iff_iff, ck_iff, beq_iff_eq, len0]
    exact ⟨fun h => ⟨h1, h2, h3, h4, h5, h6, h7, h8, fun h' => absurd h' h9, fun _ => h⟩, fun h => h.2.2.2.2.2.2.2.2.2 h9⟩
/-- Does one go on another one? -/
def Jn (a b : Ex) : Prop := Ck a ∧ Ck b ∧ a.lba + a.len = b.lba ∧ a.kind = b.kind ∧ a.gen = b.gen
instance (a b : Ex) : Decidable (Jn a b) := by unfold Jn; infer_instance
def jn (a b : Ex) : Bool := decide (Jn a b)
theorem jn_iff {a b : Ex} : jn a b = true ↔ Jn a b := decide_eq_true_iff
theorem jn_f {a b : Ex} (h : ¬ Jn a b) : jn a b = false := decide_eq_false_iff_not.2 h
theorem jn_t {a b : Ex} (h : Jn a b) : jn a b = true := jn_iff.2 h
theorem eJoins_eq (a b : Ex) : eJoins a b = some (jn a b) := by
  unfold eJoins
  simp only [eCheck_eq, tc_some]
  by_cases ha : Ck a
  case neg => rw [ck_f ha, jn_f (fun h => ha h.1)]; first | rfl | (cases ck b <;> rfl)
  by_cases hb : Ck b
  case neg => rw [ck_t ha, ck_f hb, jn_f (fun h => hb h.2.1)]; rfl
  have : wr (a.lba + a.len) = a.lba + a.len := by unfold Ck at ha; exact wr_id (by omega) (by omega)
  rw [ck_t ha, ck_t hb, this]
  simp only [tb_t, tb_beq]
  by_cases h1 : a.lba + a.len = b.lba
  case neg => rw [if_neg h1, jn_f (fun h => h1 h.2.2.1)]
  by_cases h2 : a.kind = b.kind
  case neg => rw [if_pos h1, if_neg h2, jn_f (fun h => h2 h.2.2.2.1)]
  rw [if_pos h1, if_pos h2]
  congr 1
  rw [Bool.eq_iff_iff, jn_iff, beq_iff_eq]
  exact ⟨fun h => ⟨ha, hb, h1, h2, h⟩, fun h => h.2.2.2.2⟩
theorem r7Same_eq (a b : Ex) : r7Same a b = some (decide (a = b)) := by
  unfold r7Same
  simp only [tb_beq]
  obtain ⟨a1, a2, a3, a4, a5⟩ := a
  obtain ⟨b1, b2, b3, b4, b5⟩ := b
  simp only [Ex.mk.injEq]
  repeat' split
  all_goals (congr 1; rw [Bool.eq_iff_iff]; simp_all)
theorem exAt_all (l : List Ex) (p : Ex → Prop) : (∀ i, i < l.length → p (exAt l i)) ↔ ∀ x ∈ l, p x := by
  unfold exAt; exact getD_all _ l p
theorem few_eq (l : List Ex) : few l = some (decide (l.length ≤ 70 ∧ ∀ x ∈ l, x.d.length ≤ 3000)) := by
  unfold few
  rw [tb_dec]
  by_cases hl : (l.length : Int) > 70
  · rw [if_pos hl]; congr 1; symm; rw [decide_eq_false_iff_not]; omega
  rw [if_neg hl]
  rw [th_all (some false) (some true) l.length (fun i => (exAt l i).d.length ≤ 3000) (∀ x ∈ l, x.d.length ≤ 3000) (exAt_all l (fun x => x.d.length ≤ 3000))]
  · split
    · rename_i h; congr 1; symm; rw [decide_eq_true_iff]; exact ⟨by omega, h⟩
    · rename_i h; congr 1; symm; rw [decide_eq_false_iff_not]; exact fun g => h g.2
  · intro i hi hp
    unfold few_L0_step
    simp only [tb_dec, Int.toNat_natCast]
    rw [if_pos (by omega), tp_pos (by omega), if_neg (by omega), wr_id (by omega) (by omega)]
  · intro i hi hp
    unfold few_L0_step
    simp only [tb_dec, Int.toNat_natCast]
    rw [if_pos (by omega), tp_pos (by omega), if_pos (by omega), if_pos (by omega), tp_pos (by omega), if_pos (by omega)]
    exact ⟨rfl, rfl⟩
  · unfold few_L0_step
    simp only [tb_dec]
    rw [if_neg (by omega), if_neg (by omega)]
    exact ⟨rfl, rfl⟩
theorem r7All_eq (a b : List Ex) (ha : a.length ≤ 4294967296) : r7All a b = some (decide (a = b)) := by
  unfold r7All
  rw [tb_bne]
  by_cases hl : (a.length : Int) = b.length
  · rw [if_pos hl]
    rw [th_all (some false) (some true) a.length (fun i => exAt a i = exAt b i) (a = b)]
    · split <;> rename_i h <;> simp [h]
    · constructor
      · intro h
        refine List.ext_getElem (by omega) fun i h1 h2 => ?_
        have := h i h1
        simpa [exAt, h1, h2] using this
      · rintro rfl; exact fun _ _ => rfl
    · intro i hi hp
      unfold r7All_L0_step
      simp only [tb_dec, Int.toNat_natCast, r7Same_eq, tc_some]
      rw [if_pos (by omega), tp_pos (by omega), tp_pos (by omega), hp, wr_id (by omega) (by omega)]
      simp
    · intro i hi hp
      unfold r7All_L0_step
      simp only [tb_dec, Int.toNat_natCast, r7Same_eq, tc_some]
      rw [if_pos (by omega), tp_pos (by omega), tp_pos (by omega), if_pos (by omega), tp_pos (by omega)]
      simp [hp]
    · unfold r7All_L0_step
      simp only [tb_dec]
      rw [if_neg (by omega), if_neg (by omega)]
      exact ⟨rfl, rfl⟩
  · rw [if_neg hl]
    congr 1; symm; rw [decide_eq_false_iff_not]; rintro rfl; exact hl rfl
end Ab
end Go.Proofs.Ytphnpgdamacfmaa
