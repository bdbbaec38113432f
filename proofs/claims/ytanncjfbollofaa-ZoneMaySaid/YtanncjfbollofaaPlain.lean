/- What the functions of zones answer, in plain words. -/
import Derived.Test.YtanncjfbollofaaFnB
namespace Go.Proofs.Ytanncjfbollofaa
open Go Go.Proofs.Ytanncjfbollofaa.Ab
set_option linter.unusedVariables false
set_option linter.unusedSimpArgs false
namespace Ab
theorem ite_of {α : Type} {c : Prop} [Decidable c] {a b r : α} (h1 : c → a = r) (h2 : ¬ c → b = r) : (if c then a else b) = r := by
  split
  · exact h1 ‹_›
  · exact h2 ‹_›
theorem wrap_id {x : Int} (h1 : -9223372036854775808 ≤ x) (h2 : x ≤ 9223372036854775807) : IntKind.i64.wrap x = x := by
  simp [IntKind.wrap, IntKind.bits, IntKind.signed]
  omega
def chk (z : Zo) (size : Int) : Bool :=
  decide (1 ≤ size ∧ size ≤ 1048576 ∧ 0 ≤ z.st ∧ z.st ≤ 3 ∧ 0 ≤ z.rs ∧ z.rs ≤ 1073741824 ∧ (z.d.length : Int) ≤ size ∧ 0 ≤ z.la ∧ z.la ≤ (z.d.length : Int) ∧ (z.st = 0 → z.d.length = 0) ∧ (z.st = 1 ∨ z.st = 2 → 0 < z.d.length ∧ (z.d.length : Int) < size))
def room (z : Zo) (size : Int) : Int := if chk z size = true ∧ z.st ≠ 3 then size - z.d.length else 0
def app (z : Zo) (size : Int) (b : List UInt8) : Zo × Int :=
  if chk z size = true ∧ b ≠ [] then
    if (b.length : Int) > room z size then (z, 30)
    else ({ z with st := if ((z.d ++ b).length : Int) = size then 3 else 1, d := z.d ++ b }, 0)
  else (z, 1)
def rst (z : Zo) : Zo × Int := if 0 ≤ z.st ∧ z.st ≤ 3 ∧ 0 ≤ z.rs ∧ z.rs < 1073741824 then (⟨0, z.rs + 1, [], 0⟩, 0) else (z, 30)
def fin (z : Zo) : Zo × Int := if z.st = 1 ∨ z.st = 2 then ({ z with st := 3 }, 0) else (z, 30)
def clo (z : Zo) : Zo × Int := if z.st = 1 then ({ z with st := 2 }, 0) else (z, 30)
def flu (z : Zo) : Zo := { z with la := z.d.length }
def cra (z : Zo) (size keep : Int) : Zo :=
  if chk z size = true then
    let n := min (max keep z.la) z.d.length
    ⟨if n = 0 then 0 else if n = size ∨ z.st = 3 then 3 else 2, z.rs, z.d.take n.toNat, n⟩
  else z

theorem pCheck_eq (z : Zo) (size : Int) : pCheck z size = some (chk z size) := by
  unfold pCheck chk
  simp only [tb, Bool.cond_decide, cond_eq_ite, beq_iff_eq, decide_eq_true_eq]
  repeat' (refine ite_of (fun _ => ?_) (fun _ => ?_))
  all_goals (congr 1; first | (symm; rw [decide_eq_false_iff_not]; omega) | (rw [Bool.eq_iff_iff]; simp only [beq_iff_eq, decide_eq_true_eq]; omega))
theorem rCheck_eq (z : Zo) (size : Int) : rCheck z size = some (chk z size) := by
  unfold rCheck chk
  simp only [tb, Bool.cond_decide, cond_eq_ite, beq_iff_eq, decide_eq_true_eq]
  repeat' (refine ite_of (fun _ => ?_) (fun _ => ?_))
  all_goals (congr 1; first | (symm; rw [decide_eq_false_iff_not]; omega) | (symm; rw [decide_eq_true_iff]; omega) | (rw [Bool.eq_iff_iff]; simp only [beq_iff_eq, decide_eq_true_eq]; omega))
theorem chk_size {z : Zo} {size : Int} (h : chk z size = true) : 1 ≤ size ∧ size ≤ 1048576 ∧ 0 ≤ z.st ∧ z.st ≤ 3 ∧ 0 ≤ z.rs ∧ z.rs ≤ 1073741824 ∧ (z.d.length : Int) ≤ size ∧ 0 ≤ z.la ∧ z.la ≤ (z.d.length : Int) ∧ (z.st = 0 → z.d.length = 0) ∧ (z.st = 1 ∨ z.st = 2 → 0 < z.d.length ∧ (z.d.length : Int) < size) := by
  unfold chk at h
  exact of_decide_eq_true h
theorem pRoom_eq (z : Zo) (size : Int) : pRoom z size = some (room z size) := by
  unfold pRoom room
  simp only [wr, tc, tb, pCheck_eq, Option.bind_some, cond_eq_ite, beq_iff_eq]
  cases hc : chk z size with
  | false => simp
  | true =>
    have := chk_size hc
    have hw : IntKind.i64.wrap (size - (z.d.length : Int)) = size - z.d.length := wrap_id (by omega) (by omega)
    simp only [hw]
    repeat' (refine ite_of (fun _ => ?_) (fun _ => ?_))
    all_goals first | rfl | (simp_all; done) | (simp_all; omega) | (exfalso; simp_all; omega)
theorem rRoom_eq (z : Zo) (size : Int) : rRoom z size = some (room z size) := by
  unfold rRoom room
  simp only [wr, tc, tb, rCheck_eq, Option.bind_some, cond_eq_ite, beq_iff_eq]
  cases hc : chk z size with
  | false => simp
  | true =>
    have := chk_size hc
    have hw : IntKind.i64.wrap (size - (z.d.length : Int)) = size - z.d.length := wrap_id (by omega) (by omega)
    simp only [hw]
    repeat' (refine ite_of (fun _ => ?_) (fun _ => ?_))
    all_goals first | rfl | (simp_all; done) | (simp_all; omega)
theorem room_le (z : Zo) (size : Int) : 0 ≤ room z size ∧ room z size ≤ 1048576 := by
  unfold room
  split
  · rename_i h; have := chk_size h.1; omega
  · omega
theorem pAppend_eq {z : Zo} (size : Int) {b : List UInt8} (h : z.d.length ≤ 2147483648) (hb : b.length ≤ 2147483648) : pAppend z size b = some (app z size b) := by
  unfold pAppend app
  simp only [wr, tc, tb, tp, pCheck_eq, pRoom_eq, Option.bind_some, cond_eq_ite]
  have hz : z.d.length ≤ 4294967296 := by omega
  simp only [hz, if_true]
  cases hc : chk z size with
  | false => simp
  | true =>
    have := chk_size hc
    by_cases hb0 : b = []
    · subst hb0; simp
    · have hbl : 0 < b.length := by cases b with | nil => exact absurd rfl hb0 | cons _ _ => simp
      rw [if_neg (by simp), if_neg (by simp; omega)]
      simp only [List.length_append, List.length_map, hb0, ne_eq, not_false_eq_true, and_self, if_true, Bool.not_eq_true', decide_eq_false_iff_not, beq_iff_eq]
      by_cases hr : (b.length : Int) > room z size
      · rw [if_pos (show ¬ (b.length : Int) ≤ room z size by omega), if_pos hr]
      · have := room_le z size
        rw [if_neg (show ¬ ¬ (b.length : Int) ≤ room z size by omega), if_neg hr, if_pos (show z.d.length = z.d.length * 1 ∧ z.d.length + b.length ≤ 4294967296 by omega), if_neg (show ¬ ((z.d.length + b.length : Nat) : Int) = 0 by omega)]
        split <;> rfl
theorem rAppend_eq {z : Zo} (size : Int) {b : List UInt8} (h : z.d.length ≤ 2147483648) (hb : b.length ≤ 2147483648) : rAppend z size b = some (app z size b) := by
  unfold rAppend app
  simp only [wr, tc, tb, tp, rCheck_eq, rRoom_eq, Option.bind_some, cond_eq_ite]
  have hz : z.d.length ≤ 4294967296 := by omega
  simp only [hz, if_true]
  cases hc : chk z size with
  | false => simp
  | true =>
    have := chk_size hc
    by_cases hb0 : b = []
    · subst hb0; simp
    · have hbl : 0 < b.length := by cases b with | nil => exact absurd rfl hb0 | cons _ _ => simp
      rw [if_neg (by simp), if_neg (by simp; omega)]
      simp only [List.length_append, List.length_map, hb0, ne_eq, not_false_eq_true, and_self, if_true, decide_eq_true_eq, beq_iff_eq]
      by_cases hr : (b.length : Int) > room z size
      · rw [if_pos hr, if_pos hr]
      · rw [if_neg hr, if_neg hr, if_pos (show z.d.length = z.d.length * 1 ∧ z.d.length + b.length ≤ 4294967296 by omega)]
        split <;> rfl
theorem pReset_eq {z : Zo} (h : z.d.length ≤ 4294967296) : pReset z = some (rst z) := by
  unfold pReset rst
  simp only [wr, tc, tb, tp, cond_eq_ite, beq_iff_eq, Bool.not_eq_true', decide_eq_false_iff_not, decide_eq_true_eq]
  repeat' (refine ite_of (fun _ => ?_) (fun _ => ?_))
  all_goals (try split)
  all_goals first | rfl | (exfalso; omega) | (rw [wrap_id (by omega) (by omega)])
theorem rReset_eq {z : Zo} (h : z.d.length ≤ 4294967296) : rReset z = some (rst z) := by
  unfold rReset rst
  simp only [wr, tc, tb, tp, cond_eq_ite, beq_iff_eq, Bool.not_eq_true', decide_eq_false_iff_not, decide_eq_true_eq]
  repeat' (refine ite_of (fun _ => ?_) (fun _ => ?_))
  all_goals (try split)
  all_goals first | rfl | (exfalso; omega) | (rw [wrap_id (by omega) (by omega)])
theorem pFinish_eq {z : Zo} (h : z.d.length ≤ 4294967296) : pFinish z = some (fin z) := by
  unfold pFinish fin
  simp only [wr, tc, tb, tp, cond_eq_ite, beq_iff_eq, Bool.not_eq_true', bne_iff_ne, bne_eq_false_iff_eq, decide_eq_true_eq]
  repeat' (refine ite_of (fun _ => ?_) (fun _ => ?_))
  all_goals (try split)
  all_goals first | rfl | (exfalso; omega)
theorem rFinish_eq {z : Zo} (h : z.d.length ≤ 4294967296) : rFinish z = some (fin z) := by
  unfold rFinish fin
  simp only [wr, tc, tb, tp, cond_eq_ite, beq_iff_eq, Bool.not_eq_true', bne_iff_ne, bne_eq_false_iff_eq, decide_eq_true_eq]
  repeat' (refine ite_of (fun _ => ?_) (fun _ => ?_))
  all_goals (try split)
  all_goals first | rfl | (exfalso; omega)
theorem pClose_eq {z : Zo} (h : z.d.length ≤ 4294967296) : pClose z = some (clo z) := by
  unfold pClose clo
  simp only [wr, tc, tb, tp, cond_eq_ite, Bool.not_eq_true', beq_eq_false_iff_ne]
  repeat' (refine ite_of (fun _ => ?_) (fun _ => ?_))
  all_goals (try split)
  all_goals first | rfl | (exfalso; omega)
theorem rClose_eq {z : Zo} (h : z.d.length ≤ 4294967296) : rClose z = some (clo z) := by
  unfold rClose clo
  simp only [wr, tc, tb, tp, cond_eq_ite, bne_iff_ne]
  repeat' (refine ite_of (fun _ => ?_) (fun _ => ?_))
  all_goals (try split)
  all_goals first | rfl | (exfalso; omega)
theorem pFlush_eq {z : Zo} (h : z.d.length ≤ 4294967296) : pFlush z = some (flu z) := by
  unfold pFlush flu tp; rw [if_pos h]
theorem rFlush_eq {z : Zo} (h : z.d.length ≤ 4294967296) : rFlush z = some (flu z) := by
  unfold rFlush flu tp; rw [if_pos h]
theorem pCrash_eq {z : Zo} (size keep : Int) (h : z.d.length ≤ 4294967296) : pCrash z size keep = some (cra z size keep) := by
  unfold pCrash cra
  simp only [wr, tc, tb, tp, pCheck_eq, Option.bind_some, cond_eq_ite, imin_eq, imax_eq]
  rw [if_pos h]
  cases hc : chk z size with
  | false => simp
  | true =>
    have := chk_size hc
    simp only [if_true, List.length_map, Nat.sub_zero, Nat.mul_one, beq_iff_eq, Bool.not_true, Bool.false_eq_true, if_false]
    generalize hn : min (max keep z.la) (z.d.length : Int) = n
    have hn1 : 0 ≤ n ∧ n ≤ z.d.length := by omega
    have hn2 : ((n.toNat : Nat) : Int) = n := by omega
    rw [hn2]
    repeat' (refine ite_of (fun _ => ?_) (fun _ => ?_))
    all_goals (try split)
    all_goals (try split)
    all_goals first | (exfalso; omega) | rfl | (simp_all; done) | (simp_all; omega)
theorem rCrash_eq {z : Zo} (size keep : Int) (h : z.d.length ≤ 4294967296) : rCrash z size keep = some (cra z size keep) := by
  unfold rCrash cra
  simp only [wr, tc, tb, tp, rCheck_eq, Option.bind_some, cond_eq_ite, imin_eq, imax_eq]
  rw [if_pos h]
  cases hc : chk z size with
  | false => simp
  | true =>
    have := chk_size hc
    simp only [if_true, List.length_map, Nat.sub_zero, Nat.mul_one, beq_iff_eq, Bool.not_true, Bool.false_eq_true, if_false]
    generalize hn : min (max keep z.la) (z.d.length : Int) = n
    have hn1 : 0 ≤ n ∧ n ≤ z.d.length := by omega
    repeat' (refine ite_of (fun _ => ?_) (fun _ => ?_))
    all_goals (try split)
    all_goals (try split)
    all_goals first | (exfalso; omega) | rfl | (simp_all; done) | (simp_all; omega)
theorem rSame_eq (a b : Zo) : rSame a b = some (decide (a = b)) := by
  unfold rSame
  simp only [tb, cond_eq_ite, beq_iff_eq]
  obtain ⟨a1, a2, a3, a4⟩ := a
  obtain ⟨b1, b2, b3, b4⟩ := b
  simp only [Zo.mk.injEq]
  repeat' (refine ite_of (fun _ => ?_) (fun _ => ?_))
  all_goals (try split)
  all_goals (congr 1; rw [Bool.eq_iff_iff]; simp_all)
end Ab
end Go.Proofs.Ytanncjfbollofaa
