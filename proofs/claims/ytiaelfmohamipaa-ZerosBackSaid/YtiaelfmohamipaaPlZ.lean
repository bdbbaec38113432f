/- What the functions of zeros answer, in plain words: blocks told apart. -/
import Derived.Test.YtiaelfmohamipaaPlE
import Derived.Test.YtiaelfmohamipaaPlR
import Derived.Test.YtiaelfmohamipaaFnZ
import Derived.Test.YtiaelfmohamipaaFnB
namespace Go.Proofs.Ytiaelfmohamipaa
open Go Go.Proofs.Ytiaelfmohamipaa.Ab
set_option linter.unusedVariables false
set_option linter.unusedSimpArgs false
namespace Ab
theorem zb_eq (b : List UInt8) : (List.take 32 (List.take 32 b) == List.replicate (32 : Nat) (UInt8.ofNat 0)) = zb (b.take 32) := by
  unfold zb; rw [List.take_take]; rfl
theorem rest_eq {α : Type} (l : List α) (k : Nat) : List.take ((l.length - k) * 1) (l.drop k) = l.drop k := by
  rw [Nat.mul_one]; exact List.take_of_length_le (by simp)
def spl (c : Bool) (n : Int) (b : List UInt8) (out : List Int) : List Int :=
  if n = 0 then Ab.runs (flags b) else (if out = [] ∧ c = true then [0] else out) ++ rn c n (flags b)
theorem tmod32 (n : Nat) : (Int.tmod (n : Int) 32 = 0) ↔ n % 32 = 0 := by
  rw [Int.tmod_eq_emod_of_nonneg (by omega)]; omega
def yl (c : Bool) (n : Int) (out : List Int) : List Int := (if out = [] ∧ c = true then [0] else out) ++ [n]
theorem pSplit_B1_eq (b : List UInt8) (s : Bool × Int × List UInt8 × List Int) (h : s.2.2.2.length + 1 ≤ 4294967296) : pSplit_B1 b s = some (yl s.1 s.2.1 s.2.2.2) := by
  obtain ⟨c, n, b', out⟩ := s
  simp only at h
  unfold pSplit_B1 yl
  rw [tb_beq]
  by_cases ho : out = []
  · subst ho
    cases c <;> simp
  · have ho' : ¬ (out.length : Int) = 0 := fun h => ho (len0.1 h)
    simp only
    rw [if_neg ho', tp_pos (by simp; omega)]
    simp [ho]
theorem pSplit_B3_eq (b : List UInt8) (s : Bool × Int × List UInt8 × List Int) (h : s.2.2.2.length + 1 ≤ 4294967296) : pSplit_B3 b s = some (yl s.1 s.2.1 s.2.2.2) := pSplit_B1_eq b s h
theorem yl_len (c : Bool) (n : Int) (out : List Int) : (yl c n out).length ≤ out.length + 2 := by
  unfold yl; split
  · simp
  · simp
theorem yl_ne (c : Bool) (n : Int) (out : List Int) : yl c n out ≠ [] := by unfold yl; simp
theorem pSplit_eq (b : List UInt8) (hb : b.length ≤ 4294967000) : pSplit b = some (if b.length % 32 = 0 then (Ab.runs (flags b), 0) else ([], 150)) := by
  unfold pSplit
  rw [tb_bne]
  by_cases hm : b.length % 32 = 0
  case neg => rw [if_neg (fun h => hm ((tmod32 _).1 h)), if_neg hm]
  rw [if_pos ((tmod32 _).2 hm), if_pos hm]
  rw [th_rec (fun s : Bool × Int × List UInt8 × List Int => some (spl s.1 s.2.1 s.2.2.1 s.2.2.2, (0 : Int)))
    (fun s => 0 ≤ s.2.1 ∧ s.2.1 + s.2.2.1.length ≤ 4294967000 ∧ s.2.2.2.length + s.2.2.1.length ≤ 4294967000 ∧ (s.2.1 = 0 → s.1 = false ∧ s.2.2.2 = [])) (fun s => s.2.2.1.length)]
  · simp [spl]
  · exact ⟨by simp, by simp only; omega, by simp only [List.length_nil]; omega, fun _ => ⟨rfl, rfl⟩⟩
  rintro ⟨c, n, b', out⟩ ⟨h1, h2, h3, h4⟩
  simp only at h1 h2 h3 h4 ⊢
  unfold pSplit_L0_step
  rw [pSplit_B1_eq _ _ (by simp only; omega), pSplit_B3_eq _ _ (by simp only; omega)]
  simp only [tb_dec, zb_eq, rest_eq, tc_some]
  by_cases hl : (b'.length : Int) ≥ 32
  · left
    rw [if_pos hl, tp_pos (by simp; omega)]
    have hf := flags_cons (b := b') (by omega)
    have hw : wr (n + 1) = n + 1 := wr_id (by omega) (by omega)
    rw [hw]
    have hdl : (b'.drop 32).length = b'.length - 32 := List.length_drop
    by_cases hz : zb (b'.take 32) = c
    · have e1 : (!(zb (b'.take 32) == c)) = false := by rw [hz]; simp
      rw [e1, tb_f]
      refine ⟨_, rfl, ⟨by simp only; omega, by simp only [hdl]; omega, by simp only [hdl]; omega, by simp only; omega⟩, by simp only [hdl]; omega, ?_⟩
      simp only [spl, Option.some.injEq, Prod.mk.injEq, and_true]
      rw [if_neg (show ¬ n + 1 = 0 by omega), hf, hz]
      by_cases hn : n = 0
      · obtain ⟨rfl, rfl⟩ := h4 hn
        subst hn
        simp [Ab.runs, rn]
      · rw [if_neg hn]
        simp [rn]
    · have e1 : (!(zb (b'.take 32) == c)) = true := by simp [hz]
      rw [e1, tb_t]
      by_cases hn : n > 0
      · rw [if_pos hn]
        have hy := yl_len c n out
        refine ⟨_, rfl, ⟨by simp, by simp only [hdl]; omega, by simp only [hdl]; omega, by simp⟩, by simp only [hdl]; omega, ?_⟩
        simp only [spl, Option.some.injEq, Prod.mk.injEq, and_true]
        rw [if_neg (show ¬ (1 : Int) = 0 by omega), if_neg (show ¬ n = 0 by omega), hf, if_neg (fun h => yl_ne c n out h.1)]
        simp only [rn]
        rw [if_neg hz]
        unfold yl
        simp
      · rw [if_neg hn]
        obtain ⟨rfl, rfl⟩ := h4 (by omega)
        have hn0 : n = 0 := by omega
        subst hn0
        refine ⟨_, rfl, ⟨by simp, by simp only [hdl]; omega, by simp only [hdl, List.length_nil]; omega, by simp⟩, by simp only [hdl]; omega, ?_⟩
        have hzt : zb (b'.take 32) = true := by cases hq : zb (b'.take 32) <;> simp_all
        simp [spl, hf, hzt, Ab.runs, rn]
  · right
    rw [if_neg hl, if_neg hl]
    refine ⟨rfl, ?_⟩
    have hf : flags b' = [] := flags_nil (by omega)
    by_cases hn : n > 0
    · rw [if_pos hn]
      simp only [spl, Option.some.injEq, Prod.mk.injEq, and_true]
      rw [if_neg (show ¬ n = 0 by omega), hf]
      simp only [rn]
      rfl
    · rw [if_neg hn]
      have hn0 : n = 0 := by omega
      obtain ⟨rfl, rfl⟩ := h4 hn0
      unfold spl
      rw [if_pos hn0, hf]; rfl
theorem sm_tail (l : List Int) : (sm l).2 = (sm l.tail).1 := by cases l <;> rfl
theorem sum_eq (l : List Int) (k : Nat) (hp : ∀ x ∈ l, 0 ≤ x) (hs : (sm l).1 + (sm l).2 ≤ 1000000000000) (hl : l.length ≤ 4294967296) (hk : k ≤ 2) : sum l k = some (sm (l.drop k)).1 := by
  have hpd : ∀ j, ∀ x ∈ l.drop j, 0 ≤ x := fun j x hx => hp x (List.mem_of_mem_drop hx)
  have hsd : ∀ j, (sm (l.drop j)).1 + (sm (l.drop j)).2 ≤ (sm l).1 + (sm l).2 := by
    intro j
    induction j with
    | zero => simp
    | succ j ih =>
      by_cases hj : j < l.length
      · have e := drop_at 0 l j hj
        rw [e] at ih
        have := hpd j (l.getD j 0) (by rw [e]; simp)
        simp only [sm] at ih
        omega
      · rw [List.drop_of_length_le (by omega)] at ih ⊢; exact ih
  unfold sum
  rw [th_rec (fun s : Int × Int => some (s.1 + (sm (l.drop s.2.toNat)).1)) (fun s => 0 ≤ s.2 ∧ 0 ≤ s.1 ∧ s.1 + (sm (l.drop s.2.toNat)).1 ≤ 1000000000000) (fun s => (l.length - s.2).toNat)]
  · simp
  · have h1 := hsd k
    have h2 := sm_pos _ (hpd k)
    simp only [Int.toNat_natCast]
    omega
  rintro ⟨n, i⟩ ⟨h1, h2, h3⟩
  simp only at h1 h2 h3 ⊢
  unfold sum_L0_step
  simp only [tb_dec, Nat.mul_one]
  by_cases hi : i < (l.length : Int)
  · left
    have e := drop_at 0 l i.toNat (by omega)
    have h4 := sm_pos _ (hpd (i.toNat + 1))
    have h5 := hpd i.toNat (l.getD i.toNat 0) (by rw [e]; simp)
    have e2 : (sm (l.drop i.toNat)).1 = l.getD i.toNat 0 + (sm (l.drop (i + 2).toNat)).1 := by
      rw [e]
      simp only [sm, sm_tail, List.tail_drop]
      rw [show (i + 2).toNat = i.toNat + 1 + 1 by omega]
    have h6 := sm_pos _ (hpd (i + 2).toNat)
    rw [if_pos hi, tp_pos ⟨h1, hi⟩, wr_id (x := n + l.getD i.toNat 0) (by omega) (by omega), wr_id (x := i + 2) (by omega) (by omega)]
    refine ⟨_, rfl, ⟨by simp only; omega, by simp only; omega, by simp only; omega⟩, by simp only; omega, ?_⟩
    simp only [Option.some.injEq]
    omega
  · right
    rw [if_neg hi, if_neg hi]
    refine ⟨rfl, ?_⟩
    rw [List.drop_of_length_le (by omega)]
    simp [sm]
end Ab
end Go.Proofs.Ytiaelfmohamipaa
