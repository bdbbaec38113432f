/- What the functions of zeros answer, in plain words: whether bytes are zeros; runs, by definition; extents of bytes. -/
import Derived.Test.YtiaelfmohamipaaPlZ
import Derived.Test.YtiaelfmohamipaaFnD
namespace Go.Proofs.Ytiaelfmohamipaa
open Go Go.Proofs.Ytiaelfmohamipaa.Ab
set_option linter.unusedVariables false
set_option linter.unusedSimpArgs false
namespace Ab
def isz (b : List UInt8) : Bool := b.all (· == 0)
theorem isz_iff (b : List UInt8) : (∀ i, i < b.length → b.getD i 0 = 0) ↔ isz b = true := by
  rw [getD_all 0 b (fun x => x = 0)]; unfold isz; simp
theorem u0 (x : UInt8) : ((x.toNat : Int) = 0) ↔ x = 0 := by
  constructor
  · intro h; exact UInt8.toNat_inj.1 (by simpa using h)
  · rintro rfl; rfl
theorem pIs_eq (b : List UInt8) (h : b.length ≤ 4294967296) : pIs b = some (isz b) := by
  unfold pIs
  rw [th_all (some false) (some true) b.length (fun i => b.getD i 0 = 0) (isz b = true) (isz_iff b)]
  · cases isz b <;> rfl
  · intro i hi hp
    unfold pIs_L0_step
    simp only [tb_dec, tb_bne, Int.toNat_natCast, Nat.mul_one]
    have := (u0 _).2 hp
    rw [if_pos (by omega), tp_pos (by omega), if_pos this, wr_id (by omega) (by omega)]
  · intro i hi hp
    unfold pIs_L0_step
    simp only [tb_dec, tb_bne, Int.toNat_natCast, Nat.mul_one]
    have hn : ¬ (((b.getD i 0).toNat : Int) = 0) := fun h => hp ((u0 _).1 h)
    rw [if_pos (by omega), tp_pos (by omega), if_neg hn, if_pos (by omega), tp_pos (by omega), if_neg hn]
    exact ⟨rfl, rfl⟩
  · unfold pIs_L0_step
    simp only [tb_dec]
    rw [if_neg (by omega), if_neg (by omega)]
    exact ⟨rfl, rfl⟩
theorem rIs_eq (b : List UInt8) (h : b.length ≤ 4294967296) : rIs b = some (isz b) := pIs_eq b h
theorem isz_zb {b : List UInt8} (h : b.length = 32) : isz b = zb b := by
  unfold isz zb
  rw [Bool.eq_iff_iff, List.all_eq_true, beq_iff_eq, List.eq_replicate_iff]
  simp [h]
theorem numbers_eq (a b : List Int) (h : a.length ≤ 4294967296) : numbers a b = some (decide (a = b)) := by
  unfold numbers
  rw [tb_bne]
  by_cases hl : (a.length : Int) = b.length
  · rw [if_pos hl]
    rw [th_all (some false) (some true) a.length (fun i => a.getD i 0 = b.getD i 0) (a = b)]
    · split <;> rename_i h <;> simp [h]
    · constructor
      · intro h
        refine List.ext_getElem (by omega) fun i h1 h2 => ?_
        have := h i h1
        simpa [h1, h2] using this
      · rintro rfl; exact fun _ _ => rfl
    · intro i hi hp
      unfold numbers_L0_step
      simp only [tb_dec, tb_bne, Int.toNat_natCast, Nat.mul_one]
      rw [if_pos (by omega), tp_pos (by omega), tp_pos (by omega), if_pos hp, wr_id (by omega) (by omega)]
    · intro i hi hp
      unfold numbers_L0_step
      simp only [tb_dec, tb_bne, Int.toNat_natCast, Nat.mul_one]
      rw [if_pos (by omega), tp_pos (by omega), tp_pos (by omega), if_neg hp, if_pos (by omega), tp_pos (by omega), if_neg hp]
      exact ⟨rfl, rfl⟩
    · unfold numbers_L0_step
      simp only [tb_dec]
      rw [if_neg (by omega), if_neg (by omega)]
      exact ⟨rfl, rfl⟩
  · rw [if_neg hl]
    congr 1; symm; rw [decide_eq_false_iff_not]; rintro rfl; exact hl rfl
def rsp (out : List Int) (fs : List Bool) : List Int := out.dropLast ++ rn (decide (out.length % 2 = 0)) (out.getLastD 0) fs
theorem tmod2 (n : Nat) : ((Int.tmod (n : Int) 2) == 0) = decide (n % 2 = 0) := by
  rw [Int.tmod_eq_emod_of_nonneg (by omega), Bool.eq_iff_iff, beq_iff_eq, decide_eq_true_iff]; omega
theorem set_last (pre : List Int) (n v : Int) (k : Nat) (h : k = pre.length) : (pre ++ [n]).set (0 + k * 1) v = pre ++ [v] := by
  subst h; rw [Nat.zero_add, Nat.mul_one, List.set_append_right _ _ (Nat.le_refl _)]; simp
theorem get_last (pre : List Int) (n : Int) (k : Nat) (h : k = pre.length) : (pre ++ [n]).getD (0 + k * 1) 0 = n := by
  subst h; simp
theorem rSplit_eq (b : List UInt8) (hb : b.length ≤ 4294967000) : rSplit b = some (if b.length % 32 = 0 then (Ab.runs (flags b), 0) else ([], 150)) := by
  unfold rSplit
  rw [tb_bne]
  by_cases hm : b.length % 32 = 0
  case neg => rw [if_neg (fun h => hm ((tmod32 _).1 h)), if_neg hm]
  rw [if_pos ((tmod32 _).2 hm), if_pos hm, tb_beq]
  by_cases h0 : (b.length : Int) = 0
  · rw [if_pos h0, flags_nil (by omega)]; rfl
  rw [if_neg h0]
  rw [th_rec (fun s : List Int × Int => some (rsp s.1 (flags (b.drop s.2.toNat)), (0 : Int)))
    (fun s => (∃ pre n, s.1 = pre ++ [n] ∧ 0 ≤ n ∧ n + b.length - s.2 ≤ 4294967000) ∧ 0 ≤ s.2 ∧ s.2 % 32 = 0 ∧ s.2 ≤ b.length ∧ s.1.length + b.length - s.2 ≤ 4294967001) (fun s => (b.length - s.2).toNat)]
  · have : flags b ≠ [] := by rw [flags_cons (by omega)]; simp
    simp [rsp, Ab.runs, this]
  · exact ⟨⟨[], 0, rfl, by omega, by simp only; omega⟩, by simp, by simp, by simp only; omega, by simp only [List.length_singleton]; omega⟩
  rintro ⟨out, i⟩ ⟨⟨pre, n, e, hn, hnb⟩, h1, h2, h3, h4⟩
  simp only at e hn hnb h1 h2 h3 h4 ⊢
  subst e
  have hlen : (pre ++ [n]).length = pre.length + 1 := by simp
  rw [hlen] at h4
  unfold rSplit_L0_step
  simp only [tb_dec]
  by_cases hi : i < (b.length : Int)
  · left
    have hw : wr (i + 32) = i + 32 := wr_id (by omega) (by omega)
    have ht : (i + 32).toNat = i.toNat + 32 := by omega
    have hblk : List.take (((i + 32).toNat - i.toNat) * 1) (List.drop (i.toNat * 1) b) = (b.drop i.toNat).take 32 := by
      rw [ht, Nat.mul_one, Nat.mul_one, show i.toNat + 32 - i.toNat = 32 by omega]
    have hbl : ((b.drop i.toNat).take 32).length = 32 := by rw [List.length_take, List.length_drop]; omega
    rw [if_pos hi, tp_pos h1, hw, tp_pos (by omega), tp_pos (by rw [List.length_map]; omega), hblk, rIs_eq _ (by omega), tc_some, isz_zb hbl, tmod2, hlen]
    have hf := flags_cons (b := b.drop i.toNat) (by rw [List.length_drop]; omega)
    rw [List.drop_drop] at hf
    have hd : (i + 32).toNat = i.toNat + 32 := ht
    generalize zb ((b.drop i.toNat).take 32) = z at hf ⊢
    have hw1 : wr ((((pre.length + 1 : Nat) : Int) + 1 : Int)) = ((pre.length + 1 : Nat) : Int) + 1 := wr_id (by omega) (by omega)
    have hw2 : wr (((pre.length + 1 : Nat) : Int) - 1) = pre.length := by rw [wr_id (by omega) (by omega)]; omega
    have hw3 : wr (((pre.length + 1 + 1 : Nat) : Int) - 1) = ((pre.length + 1 : Nat) : Int) := by rw [wr_id (by omega) (by omega)]; omega
    by_cases hz : z = decide ((pre.length + 1) % 2 = 0)
    · have e1 : (!(z == decide ((pre.length + 1) % 2 = 0))) = false := by rw [hz]; simp
      rw [e1, tb_f, hw2]
      have ht2 : (pre.length : Int).toNat = pre.length := by omega
      rw [tp_pos (by omega), tp_pos (by simp), ht2, get_last _ _ _ rfl, wr_id (x := n + 1) (by omega) (by omega), set_last _ _ _ _ rfl]
      refine ⟨_, rfl, ⟨⟨pre, n + 1, rfl, by omega, by simp only; omega⟩, by simp only; omega, by simp only; omega, by simp only; omega, by simp only [List.length_append, List.length_singleton]; omega⟩, by simp only; omega, ?_⟩
      simp only [rsp, hd, hf, Option.some.injEq, Prod.mk.injEq, and_true, List.dropLast_concat, List.length_append, List.length_singleton]
      simp [rn, hz]
    · have e1 : (!(z == decide ((pre.length + 1) % 2 = 0))) = true := by simp [hz]
      rw [e1, tb_t, tp_pos (by simp; omega), hw3]
      have ht2 : (((pre.length + 1 : Nat) : Int)).toNat = pre.length + 1 := by omega
      rw [tp_pos (by omega), tp_pos (by simp), ht2, get_last _ _ _ hlen.symm, wr_id (x := 0 + 1) (by omega) (by omega), set_last _ _ _ _ hlen.symm]
      refine ⟨_, rfl, ⟨⟨pre ++ [n], 0 + 1, rfl, by omega, by simp only; omega⟩, by simp only; omega, by simp only; omega, by simp only; omega, by simp only [List.length_append, List.length_singleton]; omega⟩, by simp only; omega, ?_⟩
      have hz2 : z = decide ((pre.length + 1 + 1) % 2 = 0) := by
        rw [Bool.eq_iff_iff, decide_eq_true_iff]
        have : ¬ (z = true ↔ (pre.length + 1) % 2 = 0) := fun h => hz (by rw [Bool.eq_iff_iff, decide_eq_true_iff]; exact h)
        cases z <;> simp at this ⊢ <;> omega
      simp only [rsp, hd, hf, Option.some.injEq, Prod.mk.injEq, and_true, List.dropLast_concat, List.length_append, List.length_singleton]
      rw [← hz2]
      simp only [rn]
      rw [if_neg hz]
      simp
  · right
    rw [if_neg hi, if_neg hi]
    refine ⟨rfl, ?_⟩
    rw [flags_nil (by rw [List.length_drop]; omega)]
    simp [rsp, rn]
end Ab
end Go.Proofs.Ytiaelfmohamipaa
