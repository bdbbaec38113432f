/- ZoneAppends, in plain words: whatever comes in, true. -/
import Derived.Test.YtanncjfbollofaaFlAppends
import Derived.Test.YtanncjfbollofaaPlain
import Derived.Test.YtanncjfbollofaaAbsZ
namespace Go.Proofs.Ytanncjfbollofaa
open Go Go.Proofs.Ytanncjfbollofaa.Ab
set_option linter.unusedVariables false
set_option linter.unusedSimpArgs false
namespace Ab
theorem clones : CloneOk Try.prog cf.clone :=
  cloneOk_cons (clone_at Try.func29 rfl rfl rfl (by kernel_rfl) (t := 23) (by kernel_rfl)) (cloneOk_nil _)
theorem app_no {z : Zo} {size : Int} {b : List UInt8} (hc : chk z size = true) (hb : b ≠ []) (h : (b.length : Int) > room z size) : app z size b = (z, 30) := by
  unfold app; rw [if_pos ⟨hc, hb⟩, if_pos h]
theorem app_yes {z : Zo} {size : Int} {b : List UInt8} (hc : chk z size = true) (hb : b ≠ []) (h : ¬ (b.length : Int) > room z size) : app z size b = (⟨if ((z.d ++ b).length : Int) = size then 3 else 1, z.rs, z.d ++ b, z.la⟩, 0) := by
  unfold app; rw [if_pos ⟨hc, hb⟩, if_neg h]
theorem app_chk {z : Zo} {size : Int} {b : List UInt8} (hc : chk z size = true) (hb : b ≠ []) (h : ¬ (b.length : Int) > room z size) : chk ⟨if ((z.d ++ b).length : Int) = size then 3 else 1, z.rs, z.d ++ b, z.la⟩ size = true ∧ z.st ≠ 3 ∧ room z size = size - z.d.length := by
  have hbl : 0 < b.length := by cases b with | nil => exact absurd rfl hb | cons _ _ => simp
  have hr : room z size = if z.st ≠ 3 then size - z.d.length else 0 := by unfold room; simp [hc]
  have := chk_size hc
  have h3 : z.st ≠ 3 := by intro h3; rw [if_neg (by simp [h3])] at hr; omega
  rw [if_pos h3] at hr
  refine ⟨?_, h3, hr⟩
  unfold chk
  simp only [decide_eq_true_eq, List.length_append]
  split <;> omega
theorem lAppends_true (z : Zo) (size : Int) (a b : List UInt8) : lAppends z size a b = some true := by
  unfold lAppends awake
  simp only [tc, tb, tp, Option.bind_some, pCheck_eq]
  by_cases h0 : decide ((z.d.length : Int) > 300) = true
  · simp only [h0, cond_true]
  by_cases h1 : ((a.length : Int) == 0) = true
  · simp only [h0, h1, cond_true, cond_false]
  by_cases h2 : decide ((a.length : Int) > 300) = true
  · simp only [h0, h1, h2, cond_true, cond_false]
  by_cases h3 : ((b.length : Int) == 0) = true
  · simp only [h0, h1, h2, h3, cond_true, cond_false]
  by_cases h4 : decide ((b.length : Int) > 300) = true
  · simp only [h0, h1, h2, h3, h4, cond_true, cond_false]
  simp only [h0, h1, h2, h3, h4, cond_true, cond_false]
  simp only [beq_iff_eq, decide_eq_true_eq] at h0 h1 h2 h3 h4
  cases hc : chk z size with
  | false => simp
  | true =>
    have hz := chk_size hc
    have la : 0 < a.length ∧ a.length ≤ 300 := by omega
    have lb : 0 < b.length ∧ b.length ≤ 300 := by omega
    have na : a ≠ [] := by intro h; subst h; simp at la
    have nb : b ≠ [] := by intro h; subst h; simp at lb
    have nab : a ++ b ≠ [] := by simp [na]
    have lab : (a ++ b).length = a.length + b.length := List.length_append
    simp only [Bool.not_true, cond_false]
    rw [pAppend_eq (z := z) size (b := a) (by omega) (by omega)]
    simp only [Option.bind_some]
    have hx : (app z size a).1.d.length ≤ 600 := by
      unfold app; split
      · split
        · simp; omega
        · simp; omega
      · simp; omega
    rw [pAppend_eq (z := (app z size a).1) size (b := b) (by omega) (by omega)]
    simp only [Option.bind_some]
    rw [if_pos (show a.length ≤ 4294967296 by omega), if_pos (show (List.map AV.y a).length = a.length * 1 ∧ a.length + b.length ≤ 4294967296 by simp; omega)]
    rw [pAppend_eq (z := z) size (b := a ++ b) (by omega) (by omega), pReset_eq (z := z) (by omega)]
    simp only [Option.bind_some]
    have hw1 : IntKind.i64.wrap (z.rs + 1) = z.rs + 1 := wrap_id (by omega) (by omega)
    have hw2 : IntKind.i64.wrap ((z.d.length : Int) + a.length) = (z.d.length : Int) + a.length := wrap_id (by omega) (by omega)
    have hw3 : IntKind.i64.wrap ((z.d.length : Int) + a.length + b.length) = (z.d.length : Int) + a.length + b.length := wrap_id (by omega) (by omega)
    simp only [hw1, hw2, hw3]
    -- the part behind a refusal
    have tail : (bif (rst z).2 != 0 then some true else bif ((rst z).1.d.length : Int) == 0 then bif (rst z).1.rs == z.rs + 1 then (pRoom (rst z).1 size).bind fun s => bif s == size then some ((rst z).1.la == 0) else none else none else none) = some true := by
      unfold rst
      split
      · rename_i hr
        have hc' : chk ⟨0, z.rs + 1, [], 0⟩ size = true := by
          unfold chk; simp; omega
        have hr' : room ⟨0, z.rs + 1, [], 0⟩ size = size := by
          unfold room; rw [if_pos ⟨hc', by simp⟩]; simp
        simp [pRoom_eq, hr']
      · simp
    by_cases g1 : (a.length : Int) > room z size
    · have e1 := app_no hc na g1
      have e3 := app_no hc nab (by omega)
      rw [e1, e3]
      simp only [beq_self_eq_true, cond_true]
      cases hf : ((app z size b).2 == 0) with
      | true => simpa using tail
      | false => simpa using tail
    · obtain ⟨hcx, hst, hroom⟩ := app_chk hc na g1
      rw [app_yes hc na g1]
      simp only
      generalize hx' : (⟨if ((z.d ++ a).length : Int) = size then 3 else 1, z.rs, z.d ++ a, z.la⟩ : Zo) = x at hcx
      have hxd : x.d = z.d ++ a := by rw [← hx']
      have hxst : x.st = if ((z.d ++ a).length : Int) = size then 3 else 1 := by rw [← hx']
      have hxrs : x.rs = z.rs := by rw [← hx']
      have hxla : x.la = z.la := by rw [← hx']
      have lza : (z.d ++ a).length = z.d.length + a.length := List.length_append
      have hrx : room x size = size - z.d.length - a.length := by
        unfold room
        rw [hxst, hxd, lza]
        by_cases he : ((z.d.length + a.length : Nat) : Int) = size
        · rw [if_neg (by rintro ⟨_, h⟩; rw [if_pos he] at h; exact h rfl)]; omega
        · rw [if_pos ⟨hcx, by rw [if_neg he]; decide⟩]; omega
      by_cases g2 : (b.length : Int) > room x size
      · rw [app_no hcx nb g2, app_no hc nab (by omega)]
        simpa using tail
      · rw [app_yes hcx nb g2, app_yes hc nab (by omega)]
        simp only [hxd, hxrs, hxla, List.append_assoc, beq_self_eq_true, cond_true, List.length_append]
        simp
        omega
theorem zoneAppends_call (z : Zo) (size : Int) (a b : List UInt8) (h1 : Zo.ok z) (h2 : I64 size) (_ _ : True) : EvFr Try.prog cf false 7 [.ag (Zo.cells z), .i size, bys a, bys b] (.b true) :=
  (lAppends_ok z size a b true (lAppends_true z size a b)).any
end Ab
end Go.Proofs.Ytanncjfbollofaa
