/- The law 'StateNames' of the package 'waggonerlaw11': it returns true, and nothing that was there changes. No condition. -/
import Derived.Test.YtimcbhhebnikiaaRows
import Derived.Test.YtimcbhhebnikiaaAbsV
import Derived.WalkKit
import Derived.ProofKit
import Derived.OpenShut
import Derived.ShutString
import Derived.ChangeOld
import Derived.Below
import Derived.SizedLaws
namespace Go.Proofs.Ytimcbhhebnikiaa
open Go.ChangeShapes Go.WideShapes Go.ChangeAt Go.RowKit
namespace stateNames
set_option linter.unusedVariables false
set_option linter.unusedSimpArgs false

theorem own : ownKnob Try.prog.godebug = none := by kernel_rfl
def cf : Ab.Cfg := { inl := [60, 62, 63, 66, 67, 75, 76, 77, 78, 79, 80, 81, 82, 89, 94, 95, 96, 97, 98, 99, 100, 103, 104, 107, 109, 111], thaw := [18, 19, 41, 44, 52, 65], move := [13, 15, 16, 18, 19, 27, 28, 29, 30, 32, 39, 41, 44, 54, 55, 56, 59, 65, 84, 101, 105, 106, 108], clone := [(42, 3, 40), (43, 1, 1), (88, 34, 48)] }
theorem mixed : Try.prog.follows .mixedOrders = true := by kernel_rfl
theorem clones : Ab.CloneOk Try.prog cf.clone :=
  (Ab.cloneOk_cons (Ab.clone_at Try.func42 rfl rfl rfl (by kernel_rfl) (t := 24) (by kernel_rfl)) (Ab.cloneOk_cons (Ab.clone_at Try.func43 rfl rfl rfl (by kernel_rfl) (t := 25) (by kernel_rfl)) (Ab.cloneOk_cons (Ab.clone_at Try.func88 rfl rfl rfl (by kernel_rfl) (t := 63) (by kernel_rfl)) (Ab.cloneOk_nil _))))
set_option maxRecDepth 1000000 in
theorem said : Ab.aCall Try.prog cf 4000 3 [] = some (.b true) := by kernel_rfl
theorem walk (w : World) : Calls Try.prog 3 #[] w fun e w' => e = .returned (.bool true) ∧ Below w.heap.size w w' :=
  Ab.true_below mixed clones said (vs := []) Ab.LRel.nil

set_option maxRecDepth 100000 in
theorem lifted (os : Os) (started : os.Started) (H : Type) (enc : TypeId × Value → H) :
    ReturnsInHanded {} Try.checked os 3 .any (Rows.stateNamesSpec.pre6 enc Try.prog Try.f3 Rows.stateNamesRow.domain false) (Rows.stateNamesSpec.post enc Try.prog Try.f3 false true false false) := by
  refine returnsInHanded_of_change_sized (C := Try.checked) own started (by kernel_rfl) Try.func3
    (ChangeSpec.witness6 (enc := enc) (C := Try.checked) false ⟨#[], #[], []⟩ 8 (by kernel_rfl) (by kernel_rfl) (by kernel_rfl) (by kernel_rfl)) ?_
  intro W base args ds gs before hval0 hW hcnd hsz0 _
  have hval : ∀ (j : Nat) t v, Try.f3.params[j]? = some t → args[j]? = some v → Value.okWide Try.prog W .any base t v := hval0
  have hW' := hW
  obtain ⟨p, q, hA0, hV, rfl, hfz, hnd⟩ := hW
  have hA : DataW.TrodAll enc Try.prog W 0 (fun _ => true) true Try.f3.params.toList args.toList ds p := hA0
  rw [Try.params3] at hA hval
  obtain ⟨rfl, rfl, rfl⟩ := trodAll_none hA
  obtain ⟨rfl, rfl⟩ := trodVars_none hV
  refine (walk W).mono fun e W' ⟨he, bel⟩ => ?_
  subst he
  exact ⟨_, rfl, _, _, _, [], _, [], hW', trodAll_mk1 (shut_bool Try.underlying4 _), trodAll_mk0, rfl, bel.frame _, fun h => by cases h⟩

theorem over : Rows.stateNamesRow.holds Try.pinned (OpenSpec.ofChange Rows.stateNamesSpec) :=
  OpenClaim.holds_of_wide 3 Try.f3 rfl rfl rfl rfl rfl rfl rfl ⟨rfl, rfl, rfl, rfl, rfl⟩ rfl rfl rfl rfl rfl (by kernel_rfl) Try.func3 (by kernel_rfl)
    (of_decide_eq_true (by kernel_rfl)) (by unfold Func.isWrapper; first | (rw [if_pos (by decide +kernel)]; kernel_rfl) | (rw [if_neg (by decide +kernel)]; exact ⟨rfl, rfl⟩))
    (fun os started H enc _ => lifted os started H enc)
theorem proved : Rows.StateNamesSaid := over
end stateNames
end Go.Proofs.Ytimcbhhebnikiaa
