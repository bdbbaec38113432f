/- The law 'ImageBack': it returns true, and nothing that was there changes. No condition. (Part 12 of 12.) -/
import Derived.Test.YtadipihpgcelmaaBa11
import Derived.Test.YtadipihpgcelmaaRows
import Derived.WalkKit
import Derived.ProofKit
import Derived.OpenShut
import Derived.ShutString
import Derived.ChangeOld
import Derived.Below
import Derived.SizedLaws
namespace Go.Proofs.Ytadipihpgcelmaa
open Go.ChangeShapes Go.WideShapes Go.ChangeAt Go.RowKit
namespace imageBack
set_option linter.unusedVariables false
set_option linter.unusedSimpArgs false
theorem own : ownKnob Try.prog.godebug = none := by kernel_rfl
theorem mixed : Try.prog.follows .mixedOrders = true := by kernel_rfl
set_option maxRecDepth 100000 in
theorem lifted (os : Os) (started : os.Started) (H : Type) (enc : TypeId × Value → H) :
    ReturnsInHanded {} Try.checked os 8 .any (Rows.imageBackSpec.pre6 enc Try.prog Try.f8 Rows.imageBackRow.domain false) (Rows.imageBackSpec.post enc Try.prog Try.f8 false true false false) := by
  refine returnsInHanded_of_change_sized (C := Try.checked) own started (by kernel_rfl) Try.func8
    (ChangeSpec.witness6 (enc := enc) (C := Try.checked) false ⟨#[], #[.slice none 0 0, .int .i64 0, .slice none 0 0, .int .i64 0, .int .i64 0, .int .i64 0], []⟩ 8 (by kernel_rfl) (by kernel_rfl) (by kernel_rfl) (by kernel_rfl)) ?_
  intro W base args ds gs before hval0 hW hcnd hsz0 _
  have hval : ∀ (j : Nat) t v, Try.f8.params[j]? = some t → args[j]? = some v → Value.okWide Try.prog W .any base t v := hval0
  have hW' := hW
  obtain ⟨p, q, hA0, hV, rfl, hfz, hnd⟩ := hW
  have hA : DataW.TrodAll enc Try.prog W 0 (fun _ => true) true Try.f8.params.toList args.toList ds p := hA0
  have hAk := hA
  rw [Try.params8] at hA hval
  obtain ⟨v0, vs0, d0, ds0, p0, q0, e0, rfl, rfl, hd0, hA0⟩ := trodAll_cons hA
  obtain ⟨v1, vs1, d1, ds1, p1, q1, e1, rfl, rfl, hd1, hA1⟩ := trodAll_cons hA0
  obtain ⟨v2, vs2, d2, ds2, p2, q2, e2, rfl, rfl, hd2, hA2⟩ := trodAll_cons hA1
  obtain ⟨v3, vs3, d3, ds3, p3, q3, e3, rfl, rfl, hd3, hA3⟩ := trodAll_cons hA2
  obtain ⟨v4, vs4, d4, ds4, p4, q4, e4, rfl, rfl, hd4, hA4⟩ := trodAll_cons hA3
  obtain ⟨v5, vs5, d5, ds5, p5, q5, e5, rfl, rfl, hd5, hA5⟩ := trodAll_cons hA4
  obtain ⟨rfl, rfl, rfl⟩ := trodAll_nil hA5
  have hargs : args = #[v0, v1, v2, v3, v4, v5] := by cases args; simp_all
  subst hargs
  obtain ⟨rfl, rfl⟩ := trodVars_none hV
  obtain ⟨a0, ok0, r0⟩ := Ab.arg_slice Try.underlying22 (Ab.opn_slice (z := 34) (P := Try.prog) (t := 22) (e := 43) Try.underlying22 (by kernel_rfl) (by decide) (Ab.opn_ce (P := Try.prog) (t := 43) Try.underlying43 (by kernel_rfl) rfl rfl rfl (by kernel_rfl) (by kernel_rfl) (by kernel_rfl) Try.underlying3 Try.underlying3 Try.underlying41 Try.underlying5 (by kernel_rfl))) (hval 0 _ _ rfl rfl) hd0
  obtain ⟨a1, ok1, r1⟩ := Ab.arg_int Try.underlying3 (hval 1 _ _ rfl rfl) hd1
  obtain ⟨a2, ok2, r2⟩ := Ab.arg_slice Try.underlying23 (Ab.opn_slice (z := 5) (P := Try.prog) (t := 23) (e := 50) Try.underlying23 (by kernel_rfl) (by decide) (Ab.opn_ex (P := Try.prog) (t := 50) Try.underlying50 (by kernel_rfl) rfl rfl rfl rfl rfl (by kernel_rfl) (by kernel_rfl) (by kernel_rfl) (by kernel_rfl) (by kernel_rfl) Try.underlying3 Try.underlying3 Try.underlying3 Try.underlying3 (Ab.opn_bys (P := Try.prog) (t := 35) (e := 5) Try.underlying35 Try.underlying5 (by kernel_rfl)))) (hval 2 _ _ rfl rfl) hd2
  obtain ⟨a3, ok3, r3⟩ := Ab.arg_int Try.underlying3 (hval 3 _ _ rfl rfl) hd3
  obtain ⟨a4, ok4, r4⟩ := Ab.arg_int Try.underlying3 (hval 4 _ _ rfl rfl) hd4
  obtain ⟨a5, ok5, r5⟩ := Ab.arg_int Try.underlying3 (hval 5 _ _ rfl rfl) hd5
  have hc : Calls Try.prog 8 #[v0, v1, v2, v3, v4, v5] W fun e w' => e = .returned (.bool true) ∧ Below W.heap.size W w' :=
    Ab.true_below' mixed Ab.clones (Ab.imageBack_call a0 a1 a2 a3 a4 a5 ok0 ok1 ok2 ok3 ok4 ok5) (Ab.LRel.cons' r0 (Ab.LRel.cons' r1 (Ab.LRel.cons' r2 (Ab.LRel.cons' r3 (Ab.LRel.cons' r4 (Ab.LRel.cons' r5 Ab.LRel.nil))))))
  refine hc.mono fun e W' ⟨he, bel⟩ => ?_
  subst he
  exact ⟨_, rfl, _, _, _, [], _, [], hW', trodAll_mk1 (shut_bool Try.underlying4 _), Ab.again_of (by kernel_rfl) (by kernel_rfl) (by kernel_rfl) (by kernel_rfl) hAk bel, rfl, bel.frame _, fun h => by cases h⟩
theorem over : Rows.imageBackRow.holds Try.pinned (OpenSpec.ofChange Rows.imageBackSpec) :=
  OpenClaim.holds_of_wide 8 Try.f8 rfl rfl rfl rfl rfl rfl rfl ⟨rfl, rfl, rfl, rfl, rfl⟩ rfl rfl rfl rfl rfl (by kernel_rfl) Try.func8 (by kernel_rfl)
    (of_decide_eq_true (by kernel_rfl)) (by unfold Func.isWrapper; first | (rw [if_pos (by decide +kernel)]; kernel_rfl) | (rw [if_neg (by decide +kernel)]; exact ⟨rfl, rfl⟩))
    (fun os started H enc _ => lifted os started H enc)
theorem proved : Rows.ImageBackSaid := over
end imageBack
end Go.Proofs.Ytadipihpgcelmaa
