/- ZoneOwn, in plain words: whatever comes in, true. -/
import Derived.Test.YtanncjfbollofaaPlG
import Derived.Test.YtanncjfbollofaaFlOwn
import Derived.Test.YtanncjfbollofaaAbsZ
namespace Go.Proofs.Ytanncjfbollofaa
open Go Go.Proofs.Ytanncjfbollofaa.Ab
set_option linter.unusedVariables false
set_option linter.unusedSimpArgs false
namespace Ab
theorem ite_of {α : Type} {c : Prop} [Decidable c] {a b r : α} (h1 : c → a = r) (h2 : ¬ c → b = r) : (if c then a else b) = r := by
  split
  · exact h1 ‹_›
  · exact h2 ‹_›
def chk (z : Zo) (size : Int) : Bool :=
  decide (1 ≤ size ∧ size ≤ 1048576 ∧ 0 ≤ z.st ∧ z.st ≤ 3 ∧ 0 ≤ z.rs ∧ z.rs ≤ 1073741824 ∧ (z.d.length : Int) ≤ size ∧ 0 ≤ z.la ∧ z.la ≤ (z.d.length : Int) ∧ (z.st = 0 → z.d.length = 0) ∧ (z.st = 1 ∨ z.st = 2 → 0 < z.d.length ∧ (z.d.length : Int) < size))
def room (z : Zo) (size : Int) : Int := if chk z size = true ∧ z.st ≠ 3 then size - z.d.length else 0
def app (z : Zo) (size : Int) (b : List UInt8) : Zo × Int :=
  if chk z size = true ∧ b ≠ [] then
    if (b.length : Int) > room z size then (z, 30)
    else ({ z with st := if ((z.d ++ b).length : Int) = size then 3 else 1, d := z.d ++ b }, 0)
  else (z, 1)
theorem zCheck_eq (z : Zo) (size : Int) : zCheck z size = some (chk z size) := by
  unfold zCheck chk
  simp only [tb, Bool.cond_decide, cond_eq_ite, beq_iff_eq, decide_eq_true_eq]
  repeat' (refine ite_of (fun _ => ?_) (fun _ => ?_))
  all_goals (congr 1; first | (symm; rw [decide_eq_false_iff_not]; omega) | (rw [Bool.eq_iff_iff]; simp only [beq_iff_eq, decide_eq_true_eq]; omega))
theorem chk_size {z : Zo} {size : Int} (h : chk z size = true) : 1 ≤ size ∧ size ≤ 1048576 ∧ 0 ≤ z.st ∧ z.st ≤ 3 ∧ 0 ≤ z.rs ∧ z.rs ≤ 1073741824 ∧ (z.d.length : Int) ≤ size ∧ 0 ≤ z.la ∧ z.la ≤ (z.d.length : Int) ∧ (z.st = 0 → z.d.length = 0) ∧ (z.st = 1 ∨ z.st = 2 → 0 < z.d.length ∧ (z.d.length : Int) < size) := by
  unfold chk at h
  exact of_decide_eq_true h
theorem zRoom_eq (z : Zo) (size : Int) : zRoom z size = some (room z size) := by
  unfold zRoom room
  simp only [tc, tb, zCheck_eq, Option.bind_some, cond_eq_ite, beq_iff_eq]
  cases hc : chk z size with
  | false => simp
  | true =>
    have := chk_size hc
    have hw : wr (size - (z.d.length : Int)) = size - z.d.length := wr_id (by omega) (by omega)
    simp only [hw]
    repeat' (refine ite_of (fun _ => ?_) (fun _ => ?_))
    all_goals first | rfl | (simp_all; done) | (simp_all; omega) | (exfalso; simp_all; omega)
theorem room_le (z : Zo) (size : Int) : 0 ≤ room z size ∧ room z size ≤ 1048576 := by
  unfold room
  split
  · rename_i h; have := chk_size h.1; omega
  · omega
theorem zAppend_eq {z : Zo} (size : Int) {b : List UInt8} (h : z.d.length ≤ 2147483648) (hb : b.length ≤ 2147483648) : zAppend z size b = some (app z size b) := by
  unfold zAppend app
  simp only [tc, tb, tp, zCheck_eq, zRoom_eq, Option.bind_some, cond_eq_ite]
  have hz : z.d.length ≤ 4294967296 := by omega
  simp only [hz, if_true]
  cases hc : chk z size with
  | false => simp
  | true =>
    have := chk_size hc
    by_cases hb0 : b = []
    · subst hb0; simp
    · have hbl : 0 < b.length := by cases b with | nil => exact absurd rfl hb0 | cons _ _ => simp
      rw [if_neg (by simp), if_neg (by simp; omega)]
      simp only [List.length_append, List.length_map, hb0, ne_eq, not_false_eq_true, and_self, if_true, Bool.not_eq_true', decide_eq_false_iff_not, beq_iff_eq]
      by_cases hr : (b.length : Int) > room z size
      · rw [if_pos (show ¬ (b.length : Int) ≤ room z size by omega), if_pos hr]
      · have := room_le z size
        rw [if_neg (show ¬ ¬ (b.length : Int) ≤ room z size by omega), if_neg hr, if_pos (show z.d.length = z.d.length * 1 ∧ z.d.length + b.length ≤ 4294967296 by omega), if_neg (show ¬ ((z.d.length + b.length : Nat) : Int) = 0 by omega)]
        split <;> rfl
theorem r3Same_eq (a b : Zo) : r3Same a b = some (decide (a = b)) := by
  unfold r3Same
  simp only [tb, cond_eq_ite, beq_iff_eq]
  obtain ⟨a1, a2, a3, a4⟩ := a
  obtain ⟨b1, b2, b3, b4⟩ := b
  simp only [Zo.mk.injEq]
  repeat' (refine ite_of (fun _ => ?_) (fun _ => ?_))
  all_goals (try split)
  all_goals (congr 1; rw [Bool.eq_iff_iff]; simp_all)
theorem app_no {z : Zo} {size : Int} {b : List UInt8} (hc : chk z size = true) (hb : b ≠ []) (h : (b.length : Int) > room z size) : app z size b = (z, 30) := by
  unfold app; rw [if_pos ⟨hc, hb⟩, if_pos h]
theorem app_yes {z : Zo} {size : Int} {b : List UInt8} (hc : chk z size = true) (hb : b ≠ []) (h : ¬ (b.length : Int) > room z size) : app z size b = (⟨if ((z.d ++ b).length : Int) = size then 3 else 1, z.rs, z.d ++ b, z.la⟩, 0) := by
  unfold app; rw [if_pos ⟨hc, hb⟩, if_neg h]
theorem app_chk {z : Zo} {size : Int} {b : List UInt8} (hc : chk z size = true) (hb : b ≠ []) (h : ¬ (b.length : Int) > room z size) : chk ⟨if ((z.d ++ b).length : Int) = size then 3 else 1, z.rs, z.d ++ b, z.la⟩ size = true ∧ z.st ≠ 3 ∧ room z size = size - z.d.length := by
  have hbl : 0 < b.length := by cases b with | nil => exact absurd rfl hb | cons _ _ => simp
  have hr : room z size = if z.st ≠ 3 then size - z.d.length else 0 := by unfold room; simp [hc]
  have := chk_size hc
  have h3 : z.st ≠ 3 := by intro h3; rw [if_neg (by simp [h3])] at hr; omega
  rw [if_pos h3] at hr
  refine ⟨?_, h3, hr⟩
  unfold chk
  simp only [decide_eq_true_eq, List.length_append]
  split <;> omega
/-- Bytes turned over, so many of them. -/
def turn (d : List UInt8) : Nat → List UInt8
  | 0 => d
  | i + 1 => List.set (turn d i) (0 + i * 1) (HXor.hXor (List.getD (turn d i) (0 + i * 1) (OfNat.ofNat 0)) (UInt8.ofNat 255))
theorem turn_len (d : List UInt8) : ∀ i, (turn d i).length = d.length
  | 0 => rfl
  | i + 1 => by simp only [turn, List.length_set, turn_len d i]
theorem lZoneOwn_L0_eq {α : Type} (z : Zo) (size : Int) (a b : List UInt8) (s0 : Bool) (s4 s5 s6 : Zo × Int) (hd : s5.1.d.length ≤ 4294967296) (f : Int × List UInt8 → Option α) :
    th (lZoneOwn_L0_step z size a b s0 s4 s5 s6) (0, s5.1.d) f = f ((s5.1.d.length : Int), turn s5.1.d s5.1.d.length) := by
  refine th_run (f := f) (step := lZoneOwn_L0_step z size a b s0 s4 s5 s6) (fun i => ((i : Int), turn s5.1.d i)) s5.1.d.length (fun i hi => ?_) ?_
  · unfold lZoneOwn_L0_step
    have hl := turn_len s5.1.d i
    simp only [tb_dec, Int.toNat_natCast]
    rw [if_pos (by omega), tp_pos (by omega), tp_pos (by rw [List.length_map]; omega), tp_pos ⟨rfl, by rw [List.length_map, List.length_singleton]; omega⟩, wr_id (by omega) (by omega)]
    simp [turn]
  · unfold lZoneOwn_L0_step
    simp only [tb_dec]
    rw [if_neg (by omega)]
theorem app_len (z : Zo) (size : Int) (b : List UInt8) : (app z size b).1.d.length ≤ z.d.length + b.length := by
  unfold app
  split
  · split
    · simp only; omega
    · simp only [List.length_append]; omega
  · simp only; omega
theorem app_ok {z : Zo} {size : Int} {b : List UInt8} : (app z size b).2 = 0 ↔ chk z size = true ∧ b ≠ [] ∧ ¬ (b.length : Int) > room z size := by
  unfold app
  by_cases h : chk z size = true ∧ b ≠ []
  · rw [if_pos h]
    by_cases g : (b.length : Int) > room z size
    · rw [if_pos g]; simp [g]
    · rw [if_neg g]; simp only [true_iff]; exact ⟨h.1, h.2, g⟩
  · rw [if_neg h]
    simp only [Int.one_ne_zero, false_iff]
    exact fun g => h ⟨g.1, g.2.1⟩
theorem app_parts {z : Zo} {size : Int} {a b : List UInt8} (h1 : (app z size a).2 = 0) (h2 : (app (app z size a).1 size b).2 = 0) : app z size (a ++ b) = app (app z size a).1 size b := by
  obtain ⟨hc, na, g1⟩ := app_ok.1 h1
  obtain ⟨hc2, nb, g2⟩ := app_ok.1 h2
  have nab : a ++ b ≠ [] := by simp [na]
  have lab : (a ++ b).length = a.length + b.length := List.length_append
  obtain ⟨hcx, hst, hroom⟩ := app_chk hc na g1
  rw [app_yes hc na g1] at g2 ⊢
  simp only at g2 ⊢
  generalize hx' : (⟨if ((z.d ++ a).length : Int) = size then 3 else 1, z.rs, z.d ++ a, z.la⟩ : Zo) = x at hcx g2 ⊢
  have hxd : x.d = z.d ++ a := by rw [← hx']
  have hxst : x.st = if ((z.d ++ a).length : Int) = size then 3 else 1 := by rw [← hx']
  have hxrs : x.rs = z.rs := by rw [← hx']
  have hxla : x.la = z.la := by rw [← hx']
  have lza : (z.d ++ a).length = z.d.length + a.length := List.length_append
  have hz := chk_size hc
  have hrx : room x size = size - z.d.length - a.length := by
    unfold room
    rw [hxst, hxd, lza]
    by_cases he : ((z.d.length + a.length : Nat) : Int) = size
    · rw [if_neg (by rintro ⟨_, h⟩; rw [if_pos he] at h; exact h rfl)]; omega
    · rw [if_pos ⟨hcx, by rw [if_neg he]; decide⟩]; omega
  rw [app_yes hcx nb g2, app_yes hc nab (by omega)]
  simp only [hxd, hxrs, hxla, List.append_assoc]
theorem app_first {z : Zo} {size : Int} {a b : List UInt8} (h1 : (app z size (a ++ b)).2 = 0) (na : a ≠ []) : (app z size a).2 = 0 := by
  obtain ⟨hc, _, g⟩ := app_ok.1 h1
  have lab : (a ++ b).length = a.length + b.length := List.length_append
  exact app_ok.2 ⟨hc, na, by omega⟩
theorem lZoneOwn_true (z : Zo) (size : Int) (a b : List UInt8) : lZoneOwn z size a b = some true := by
  unfold lZoneOwn aw3
  simp only [tc_some, tb_dec, tb_t, tb_beq, tb_bne]
  by_cases h0 : (z.d.length : Int) > 300
  · rw [if_pos h0]
  by_cases h1 : (a.length : Int) > 300
  · rw [if_neg h0, if_pos h1]
  by_cases h2 : (b.length : Int) > 300
  · rw [if_neg h0, if_neg h1, if_pos h2]
  rw [if_neg h0, if_neg h1, if_neg h2]
  have hl := app_len z size a
  have hab : (a ++ b).length = a.length + b.length := List.length_append
  rw [zAppend_eq (z := z) size (b := a ++ b) (by omega) (by omega), zAppend_eq (z := z) size (b := a) (by omega) (by omega)]
  simp only [tc_some]
  rw [zAppend_eq (z := (app z size a).1) size (b := b) (by omega) (by omega)]
  simp only [tc_some]
  rw [lZoneOwn_L0_eq _ _ _ _ _ _ _ _ (by omega)]
  rw [if_neg (by omega)]
  have hfin : (if (app z size (a ++ b)).2 = 0 then (if (a.length : Int) = 0 then some true else some ((app z size a).2 == 0)) else some true) = some true := by
    by_cases g : (app z size (a ++ b)).2 = 0
    · rw [if_pos g]
      by_cases ha : (a.length : Int) = 0
      · rw [if_pos ha]
      · rw [if_neg ha, app_first g (by intro e; subst e; exact ha rfl)]; rfl
    · rw [if_neg g]
  simp only [beq_self_eq_true, tb_t, hfin]
  by_cases f0 : (app z size a).2 = 0
  · rw [if_pos f0]
    by_cases g0 : (app (app z size a).1 size b).2 = 0
    · have hp := app_parts f0 g0
      rw [if_pos g0, hp, if_pos g0, r3Same_eq, tc_some]
      simp only [decide_true, tb_t]
    · rw [if_neg g0]
  · rw [if_neg f0]
theorem zoneOwn_call (z : Zo) (size : Int) (a b : List UInt8) (_ : Zo.ok z) (_ : I64 size) (_ _ : True) : EvFr Try.prog cf false 4 [.ag (Zo.cells z), .i size, .sl a.length (a.map AV.y), .sl b.length (b.map AV.y)] (.b true) := lZoneOwn_ok z size a b true (lZoneOwn_true z size a b)
end Ab
end Go.Proofs.Ytanncjfbollofaa
