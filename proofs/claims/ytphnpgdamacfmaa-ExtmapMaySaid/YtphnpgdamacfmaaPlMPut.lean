/- What extmap.Put answers. -/
import Derived.Test.YtphnpgdamacfmaaPlMPcs
import Derived.Test.YtphnpgdamacfmaaFnD
namespace Go.Proofs.Ytphnpgdamacfmaa
open Go Go.Proofs.Ytphnpgdamacfmaa.Ab
set_option linter.unusedVariables false
set_option linter.unusedSimpArgs false
namespace Ab
theorem add_nil (y : Ex) : add [] y = [y] := by unfold add; simp
theorem add_jn {out : List Ex} {y : Ex} (h0 : out ≠ []) (h : Jn (out.getLastD ⟨0, 0, 0, 0, []⟩) y) : add out y = out.dropLast ++ [jnx (out.getLastD ⟨0, 0, 0, 0, []⟩) y] := by unfold add; rw [if_pos ⟨h0, h⟩]
theorem add_no {out : List Ex} {y : Ex} (h : ¬ Jn (out.getLastD ⟨0, 0, 0, 0, []⟩) y) : add out y = out ++ [y] := by unfold add; rw [if_neg fun g => h g.2]
noncomputable def putB (out : List Ex) (y : Ex) : Option (List Ex × List Ex) :=
 (tb ((decide ((↑(List.length out) : Int) > (0 : Int))))
  (tp ((((0 : Int) ≤ (wr ((↑(List.length out) : Int) - (1 : Int)))) ∧ ((wr ((↑(List.length out) : Int) - (1 : Int))) < (↑(List.length out) : Int))))
   (tc (eJoin ((exAt out (Int.toNat (wr ((↑(List.length out) : Int) - (1 : Int)))))) (y)) fun s13 =>
    (tb ((s13.2 == (0 : Int)))
     (tp ((((List.length (xc s13.1)) = (5 : Nat)) ∧ ((((0 : Nat) + ((Int.toNat (wr ((↑(List.length out) : Int) - (1 : Int)))) * (5 : Nat))) + (List.length (xc s13.1))) ≤ (List.length (List.flatMap Ex.cells out)))))
      (some ((([] : List Ex), (List.set out (Int.toNat (wr ((↑(List.length out) : Int) - (1 : Int)))) s13.1)))))
     (tp ((((List.length (List.flatMap Ex.cells out)) = ((List.length out) * (5 : Nat))) ∧ (((List.length out) + (1 : Nat)) ≤ (4294967296 : Nat))))
      (some ((([] : List Ex), (out ++ [y]))))))))
  (tp ((((List.length (List.flatMap Ex.cells out)) = ((List.length out) * (5 : Nat))) ∧ (((List.length out) + (1 : Nat)) ≤ (4294967296 : Nat))))
   (some ((([] : List Ex), (out ++ [y]))))))
theorem putB_eq (out : List Ex) (y : Ex) (ho : out.length ≤ 1000000) : putB out y = some ([], add out y) := by
  unfold putB
  simp only [tb_dec, tb_beq]
  by_cases h0 : out = []
  · subst h0
    rw [if_neg (by simp), tp_pos ⟨by simp, by simp⟩, add_nil]; rfl
  · have hl : 0 < out.length := List.length_pos_iff.2 h0
    have hw : wr ((out.length : Int) - 1) = ((out.length - 1 : Nat) : Int) := by rw [wr_id (by omega) (by omega)]; omega
    rw [if_pos (by omega), hw, tp_pos (by omega), Int.toNat_natCast, last_at out h0 _ rfl, eJoin_eq, tc_some]
    by_cases hj : Jn (out.getLastD ⟨0, 0, 0, 0, []⟩) y
    · have e : jnv (out.getLastD ⟨0, 0, 0, 0, []⟩) y = (jnx (out.getLastD ⟨0, 0, 0, 0, []⟩) y, 0) := if_pos hj
      rw [e, if_pos rfl, tp_pos ⟨rfl, by rw [exs_len]; simp; omega⟩, add_jn h0 hj, set_last_ex out h0 _ rfl]
    · have e : jnv (out.getLastD ⟨0, 0, 0, 0, []⟩) y = (⟨0, 0, 0, 0, []⟩, 70) := if_neg hj
      rw [e, if_neg (by simp), tp_pos ⟨exs_len _, by omega⟩, add_no hj]
section
variable (blocks : Int) (l : List Ex) (x : Ex) (s0 s2 : Bool)
theorem b1_eq (s5 : Bool × Int × List Ex) (s8 : Ex × Bool) (h : s5.2.2.length ≤ 1000000) : mPut_B1 blocks l x s0 s2 s5 s8 = some ([], add s5.2.2 s8.1) := putB_eq s5.2.2 s8.1 h
theorem b2_eq (s5 : Bool × Int × List Ex) (s8 : Ex × Bool) (s10 : List Ex × List Ex) (h : s10.2.length ≤ 1000000) : mPut_B2 blocks l x s0 s2 s5 s8 s10 = some ([], add s10.2 x) := putB_eq s10.2 x h
theorem b3_eq (s5 : Bool × Int × List Ex) (s8 : Ex × Bool) (s10 s13 : List Ex × List Ex) (s14 : Ex × Bool) (h : s13.2.length ≤ 1000000) : mPut_B3 blocks l x s0 s2 s5 s8 s10 s13 s14 = some ([], add s13.2 s14.1) := putB_eq s13.2 s14.1 h
theorem b4_eq (s5 : Bool × Int × List Ex) (s8 : Ex × Bool) (s10 : List Ex × List Ex) (s13 : Ex × Bool) (h : s10.2.length ≤ 1000000) : mPut_B4 blocks l x s0 s2 s5 s8 s10 s13 = some ([], add s10.2 s13.1) := putB_eq s10.2 s13.1 h
theorem b5_eq (s5 : Bool × Int × List Ex) (s8 : Ex × Bool) (s10 : List Ex × List Ex) (s12 : Ex × Bool) (h : s10.2.length ≤ 1000000) : mPut_B5 blocks l x s0 s2 s5 s8 s10 s12 = some ([], add s10.2 s12.1) := putB_eq s10.2 s12.1 h
theorem b6_eq (s5 : Bool × Int × List Ex) (s8 : Ex × Bool) (h : s5.2.2.length ≤ 1000000) : mPut_B6 blocks l x s0 s2 s5 s8 = some ([], add s5.2.2 x) := putB_eq s5.2.2 x h
theorem b7_eq (s5 : Bool × Int × List Ex) (s8 : Ex × Bool) (s12 : List Ex × List Ex) (s13 : Ex × Bool) (h : s12.2.length ≤ 1000000) : mPut_B7 blocks l x s0 s2 s5 s8 s12 s13 = some ([], add s12.2 s13.1) := putB_eq s12.2 s13.1 h
theorem b8_eq (s5 : Bool × Int × List Ex) (s8 s12 : Ex × Bool) (h : s5.2.2.length ≤ 1000000) : mPut_B8 blocks l x s0 s2 s5 s8 s12 = some ([], add s5.2.2 s12.1) := putB_eq s5.2.2 s12.1 h
theorem b9_eq (s5 : Bool × Int × List Ex) (s8 s11 : Ex × Bool) (h : s5.2.2.length ≤ 1000000) : mPut_B9 blocks l x s0 s2 s5 s8 s11 = some ([], add s5.2.2 s11.1) := putB_eq s5.2.2 s11.1 h
theorem step_eq (fl : Bool) (i : Nat) (out : List Ex) (hi : i < l.length) (hl : l.length ≤ 1000000) (he : Ck (exAt l i)) (hx : Ck x) (ho : out.length ≤ 900000) :
    mPut_L0_step blocks l x s0 s2 (fl, (i : Int), out) = some ((stp x (fl, out) (exAt l i)).1, (i : Int) + 1, (stp x (fl, out) (exAt l i)).2) := by
  have px := ck_pos hx
  have pe := ck_pos he
  unfold mPut_L0_step
  simp only [tb_dec, Int.toNat_natCast, eCut_eq, tc_some, tb_not]
  have w1 : wr ((i : Int) + 1) = (i : Int) + 1 := wr_id (by omega) (by omega)
  have w2 : wr (x.lba + x.len) = x.lba + x.len := wr_id (by omega) (by omega)
  have w3 : wr ((exAt l i).lba + (exAt l i).len) = (exAt l i).lba + (exAt l i).len := wr_id (by omega) (by omega)
  simp only [w1, w2, w3]
  rw [if_pos (by omega), tp_pos (by omega)]
  clear w1 w2 w3
  generalize exAt l i = e at he pe ⊢
  unfold stp F1 P1
  have a1 := add_len out (cu e 0 x.lba)
  have a2 := add_len out x
  have a3 := add_len (add out (cu e 0 x.lba)) x
  by_cases g1 : Cu e 0 x.lba <;> by_cases g3 : Cu e (x.lba + x.len) 64 <;> by_cases g2 : e.lba + e.len > x.lba <;> cases fl
  all_goals
    simp only [cutv_pos, cutv_neg, cut_pos, cut_neg, g1, g2, g3, not_false_eq_true, tb_t, tb_f, if_true, if_false, decide_true, decide_false, Bool.true_or, Bool.false_or, Bool.or_false, Option.toList_some, Option.toList_none, List.nil_append, List.append_nil, List.cons_append, List.foldl_cons, List.foldl_nil, and_true, and_false, true_and, false_and, Bool.true_eq_false, reduceCtorEq]
  all_goals first
    | rfl
    | (first
        | (rw [b1_eq _ _ _ _ _ _ _ (by first | assumption | (simp only; omega))]; simp only [tc_some])
        | (rw [b6_eq _ _ _ _ _ _ _ (by first | assumption | (simp only; omega))]; simp only [tc_some])
        | (rw [b8_eq _ _ _ _ _ _ _ _ (by first | assumption | (simp only; omega))]; simp only [tc_some]; done)
        | (rw [b9_eq _ _ _ _ _ _ _ _ (by first | assumption | (simp only; omega))]; simp only [tc_some]; done)
        | skip)
      <;> (try (rw [b2_eq _ _ _ _ _ _ _ _ (by simp only; omega)]; simp only [tc_some]))
      <;> (try (rw [b3_eq _ _ _ _ _ _ _ _ _ _ (by simp only; omega)]; simp only [tc_some]))
      <;> (try (rw [b4_eq _ _ _ _ _ _ _ _ _ (by simp only; omega)]; simp only [tc_some]))
      <;> (try (rw [b5_eq _ _ _ _ _ _ _ _ _ (by simp only; omega)]; simp only [tc_some]))
      <;> (try (rw [b7_eq _ _ _ _ _ _ _ _ _ (by simp only; omega)]; simp only [tc_some]))
end
end Ab
end Go.Proofs.Ytphnpgdamacfmaa
