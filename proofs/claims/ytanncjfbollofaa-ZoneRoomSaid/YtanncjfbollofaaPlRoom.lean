/- ZoneRoom, in plain words: whatever comes in, true. -/
import Derived.Test.YtanncjfbollofaaFlRoom
import Derived.Test.YtanncjfbollofaaPlain
import Derived.Test.YtanncjfbollofaaAbsZ
namespace Go.Proofs.Ytanncjfbollofaa
open Go Go.Proofs.Ytanncjfbollofaa.Ab
set_option linter.unusedVariables false
set_option linter.unusedSimpArgs false
namespace Ab
theorem clones : CloneOk Try.prog cf.clone :=
  cloneOk_cons (clone_at Try.func29 rfl rfl rfl (by kernel_rfl) (t := 23) (by kernel_rfl)) (cloneOk_nil _)
theorem lRoom_true (z : Zo) (size : Int) : lRoom z size = some true := by
  unfold lRoom awake
  simp only [tc, tb, tp, Option.bind_some, pCheck_eq]
  cases hc : chk z size with
  | false => simp
  | true =>
    have hz := chk_size hc
    simp only [Bool.not_true, cond_false, cond_true]
    by_cases hs : decide (size > 300) = true
    · simp only [hs, cond_true]
    simp only [hs, cond_false, pRoom_eq, Option.bind_some]
    simp only [decide_eq_true_eq] at hs
    have hr := room_le z size
    have hroom : room z size = if z.st ≠ 3 then size - z.d.length else 0 := by unfold room; simp [hc]
    generalize hn : room z size = n at hr hroom
    have hn3 : n ≤ 300 := by split at hroom <;> omega
    have hw : IntKind.i64.wrap (n + 1) = n + 1 := wrap_id (by omega) (by omega)
    simp only [hw, true_and]
    have c1 : 0 ≤ n + 1 ∧ n + 1 ≤ 4294967296 := by omega
    have c2 : 0 ≤ n ∧ n ≤ 4294967296 := by omega
    simp only [if_pos c1, if_pos c2]
    have l1 : (List.replicate (n + 1).toNat (UInt8.ofNat 0)).length = (n + 1).toNat := List.length_replicate
    have ne1 : List.replicate (n + 1).toNat (UInt8.ofNat 0) ≠ [] := by intro h; rw [h] at l1; simp at l1; omega
    have a1 : app z size (List.replicate (n + 1).toNat (UInt8.ofNat 0)) = (z, 30) := by
      unfold app; rw [if_pos ⟨hc, ne1⟩, hn, if_pos (by rw [l1]; omega)]
    rw [pAppend_eq (z := z) size (b := List.replicate (n + 1).toNat (UInt8.ofNat 0)) (by omega) (by omega), a1]
    simp only [Option.bind_some, beq_self_eq_true, cond_true]
    by_cases h0 : n > 0
    · have hst : z.st ≠ 3 := by intro h; rw [if_neg (by simp [h])] at hroom; omega
      rw [if_pos hst] at hroom
      have l2 : (List.replicate n.toNat (UInt8.ofNat 0)).length = n.toNat := List.length_replicate
      have ne2 : List.replicate n.toNat (UInt8.ofNat 0) ≠ [] := by intro h; rw [h] at l2; simp at l2; omega
      have l3 : (z.d ++ List.replicate n.toNat (UInt8.ofNat 0)).length = z.d.length + n.toNat := by rw [List.length_append, l2]
      have a2 : app z size (List.replicate n.toNat (UInt8.ofNat 0)) = (⟨3, z.rs, z.d ++ List.replicate n.toNat (UInt8.ofNat 0), z.la⟩, 0) := by
        unfold app; rw [if_pos ⟨hc, ne2⟩, hn, if_neg (by rw [l2]; omega), if_pos (by rw [l3]; omega)]
      generalize hd : z.d ++ List.replicate n.toNat (UInt8.ofNat 0) = dd at a2 l3
      have c3 : chk ⟨3, z.rs, dd, z.la⟩ size = true := by unfold chk; simp only [decide_eq_true_eq]; refine ⟨by omega, by omega, by omega, by omega, by omega, by omega, by omega, by omega, by omega, by omega, by omega⟩
      have r3 : room ⟨3, z.rs, dd, z.la⟩ size = 0 := by unfold room; rw [if_neg (by simp)]
      have a3 : app ⟨3, z.rs, dd, z.la⟩ size [UInt8.ofNat 1] = (⟨3, z.rs, dd, z.la⟩, 30) := by
        unfold app; rw [if_pos ⟨c3, by simp⟩, r3, if_pos (by simp)]
      simp only [decide_eq_true h0, cond_true]
      rw [pAppend_eq (z := z) size (b := List.replicate n.toNat (UInt8.ofNat 0)) (by omega) (by omega), a2]
      simp only [Option.bind_some]
      rw [pAppend_eq (z := ⟨3, z.rs, dd, z.la⟩) size (b := [UInt8.ofNat 1]) (by simp; omega) (by simp), a3, pReset_eq (z := ⟨3, z.rs, dd, z.la⟩) (by simp; omega)]
      simp only [Option.bind_some, beq_self_eq_true, cond_true]
      unfold rst
      by_cases hrs : z.rs < 1073741824
      · rw [if_pos ⟨by simp, by simp, hz.2.2.2.2.1, hrs⟩]
        have c4 : chk ⟨0, z.rs + 1, [], 0⟩ size = true := by unfold chk; simp; omega
        have r4 : room ⟨0, z.rs + 1, [], 0⟩ size = size := by unfold room; rw [if_pos ⟨c4, by simp⟩]; simp
        simp [pRoom_eq, r4]
      · rw [if_neg (by rintro ⟨_, _, _, h⟩; exact hrs h)]
        simp; omega
    · have hst : z.st = 3 := by
        refine Classical.byContradiction fun h => ?_
        rw [if_pos h] at hroom; omega
      have hn0 : n = 0 := by omega
      have a3 : app z size [UInt8.ofNat 1] = (z, 30) := by
        unfold app; rw [if_pos ⟨hc, by simp⟩, hn, if_pos (by simp; omega)]
      simp only [decide_eq_false h0, cond_false]
      rw [pAppend_eq (z := z) size (b := [UInt8.ofNat 1]) (by omega) (by simp), a3, pReset_eq (z := z) (by omega)]
      simp only [Option.bind_some, beq_self_eq_true, cond_true, hst]
      unfold rst
      by_cases hrs : z.rs < 1073741824
      · rw [if_pos ⟨by omega, by omega, hz.2.2.2.2.1, hrs⟩]
        have c4 : chk ⟨0, z.rs + 1, [], 0⟩ size = true := by unfold chk; simp; omega
        have r4 : room ⟨0, z.rs + 1, [], 0⟩ size = size := by unfold room; rw [if_pos ⟨c4, by simp⟩]; simp
        simp [pRoom_eq, r4]
      · rw [if_neg (by rintro ⟨_, _, _, h⟩; exact hrs h)]
        simp; omega
theorem zoneRoom_call (z : Zo) (size : Int) (h1 : Zo.ok z) (h2 : I64 size) : EvFr Try.prog cf false 5 [.ag (Zo.cells z), .i size] (.b true) :=
  (lRoom_ok z size true (lRoom_true z size)).any
end Ab
end Go.Proofs.Ytanncjfbollofaa
