/- The law 'StateDoes': it returns true, and nothing that was there changes. No condition. (Part 12 of 12.) -/
import Derived.Test.YtimcbhhebnikiaaSd11
import Derived.Test.YtimcbhhebnikiaaRows
import Derived.WalkKit
import Derived.ProofKit
import Derived.OpenShut
import Derived.ShutString
import Derived.ChangeOld
import Derived.Below
import Derived.SizedLaws
namespace Go.Proofs.Ytimcbhhebnikiaa
open Go.ChangeShapes Go.WideShapes Go.ChangeAt Go.RowKit
namespace stateDoes
set_option linter.unusedVariables false
set_option linter.unusedSimpArgs false
theorem own:ownKnob Try.prog.godebug=none:=by kernel_rfl
theorem mixed:Try.prog.follows .mixedOrders=true:=by kernel_rfl
set_option maxRecDepth 100000 in
theorem lifted (os:Os) (started:os.Started) (H:Type) (enc:TypeId×Value→H):
 ReturnsInHanded {} Try.checked os 5 .any (Rows.stateDoesSpec.pre6 enc Try.prog Try.f5 Rows.stateDoesRow.domain false) (Rows.stateDoesSpec.post enc Try.prog Try.f5 false true false false):=by
 refine returnsInHanded_of_change_sized (C:=Try.checked) own started (by kernel_rfl) Try.func5
  (ChangeSpec.witness6 (enc:=enc) (C:=Try.checked) false ⟨#[],#[.agg #[.int .i64 0,.int .i64 0,.slice none 0 0,.slice none 0 0,.int .i64 0,.slice none 0 0],.slice none 0 0],[]⟩ 8 (by kernel_rfl) (by kernel_rfl) (by kernel_rfl) (by kernel_rfl)) ?_
 intro W base args ds gs before hval0 hW hcnd hsz0 _
 have hval:∀(j:Nat) t v,Try.f5.params[j]? =some t→args[j]? =some v→Value.okWide Try.prog W .any base t v:=hval0
 have hW':=hW
 obtain ⟨p,q,hA0,hV,rfl,hfz,hnd⟩:=hW
 have hA:DataW.TrodAll enc Try.prog W 0 (fun _=> true) true Try.f5.params.toList args.toList ds p:=hA0
 have hAk:=hA
 rw [Try.params5] at hA hval
 obtain ⟨v0,vs0,d0,ds0,p0,q0,e0,rfl,rfl,hd0,hA0⟩:=trodAll_cons hA
 obtain ⟨v1,vs1,d1,ds1,p1,q1,e1,rfl,rfl,hd1,hA1⟩:=trodAll_cons hA0
 obtain ⟨rfl,rfl,rfl⟩:=trodAll_nil hA1
 have hargs:args=#[v0,v1]:=by cases args;simp_all
 subst hargs
 obtain ⟨rfl,rfl⟩:=trodVars_none hV
 obtain ⟨a0,ok0,r0⟩:=Ab.arg_struct Try.underlying27 (Ab.opn_sa (P:=Try.prog) (t:=27) Try.underlying27 (by kernel_rfl) rfl rfl rfl rfl rfl rfl (by kernel_rfl) (by kernel_rfl) (by kernel_rfl) (by kernel_rfl) (by kernel_rfl) (by kernel_rfl) Try.underlying3 Try.underlying3 (Ab.opn_slice (z:=5) (P:=Try.prog) (t:=23) (e:=59) Try.underlying23 (by kernel_rfl) (by decide) (Ab.opn_ex (P:=Try.prog) (t:=59) Try.underlying59 (by kernel_rfl) rfl rfl rfl rfl rfl (by kernel_rfl) (by kernel_rfl) (by kernel_rfl) (by kernel_rfl) (by kernel_rfl) Try.underlying3 Try.underlying3 Try.underlying3 Try.underlying3 (Ab.opn_bys (P:=Try.prog) (t:=25) (e:=5) Try.underlying25 Try.underlying5 (by kernel_rfl)))) (Ab.opn_slice (z:=3) (P:=Try.prog) (t:=24) (e:=33) Try.underlying24 (by kernel_rfl) (by decide) (Ab.opn_po (P:=Try.prog) (t:=33) Try.underlying33 (by kernel_rfl) rfl rfl rfl (by kernel_rfl) (by kernel_rfl) (by kernel_rfl) Try.underlying3 Try.underlying3 (Ab.opn_slice (z:=5) (P:=Try.prog) (t:=23) (e:=59) Try.underlying23 (by kernel_rfl) (by decide) (Ab.opn_ex (P:=Try.prog) (t:=59) Try.underlying59 (by kernel_rfl) rfl rfl rfl rfl rfl (by kernel_rfl) (by kernel_rfl) (by kernel_rfl) (by kernel_rfl) (by kernel_rfl) Try.underlying3 Try.underlying3 Try.underlying3 Try.underlying3 (Ab.opn_bys (P:=Try.prog) (t:=25) (e:=5) Try.underlying25 Try.underlying5 (by kernel_rfl)))))) Try.underlying3 (Ab.opn_bys (P:=Try.prog) (t:=25) (e:=5) Try.underlying25 Try.underlying5 (by kernel_rfl))) (hval 0 _ _ rfl rfl) hd0
 obtain ⟨a1,ok1,r1⟩:=Ab.arg_slice Try.underlying44 (Ab.opn_slice (z:=6) (P:=Try.prog) (t:=44) (e:=51) Try.underlying44 (by kernel_rfl) (by decide) (Ab.opn_ch (P:=Try.prog) (t:=51) Try.underlying51 (by kernel_rfl) rfl rfl rfl rfl rfl rfl (by kernel_rfl) (by kernel_rfl) (by kernel_rfl) (by kernel_rfl) (by kernel_rfl) (by kernel_rfl) Try.underlying3 Try.underlying3 Try.underlying3 Try.underlying3 (Ab.opn_bys (P:=Try.prog) (t:=25) (e:=5) Try.underlying25 Try.underlying5 (by kernel_rfl)) (Ab.opn_slice (z:=5) (P:=Try.prog) (t:=23) (e:=59) Try.underlying23 (by kernel_rfl) (by decide) (Ab.opn_ex (P:=Try.prog) (t:=59) Try.underlying59 (by kernel_rfl) rfl rfl rfl rfl rfl (by kernel_rfl) (by kernel_rfl) (by kernel_rfl) (by kernel_rfl) (by kernel_rfl) Try.underlying3 Try.underlying3 Try.underlying3 Try.underlying3 (Ab.opn_bys (P:=Try.prog) (t:=25) (e:=5) Try.underlying25 Try.underlying5 (by kernel_rfl)))))) (hval 1 _ _ rfl rfl) hd1
 have hc:Calls Try.prog 5 #[v0,v1] W fun e w'=> e=.returned (.bool true)∧Below W.heap.size W w':=
  Ab.true_below' mixed Ab.clones (Ab.stateDoes_call a0 a1 ok0 ok1) (Ab.LRel.cons' r0 (Ab.LRel.cons' r1 Ab.LRel.nil))
 refine hc.mono fun e W' ⟨he,bel⟩=> ?_
 subst he
 exact ⟨_,rfl,_,_,_,[],_,[],hW',trodAll_mk1 (shut_bool Try.underlying4 _),Ab.again_of (by kernel_rfl) (by kernel_rfl) (by kernel_rfl) (by kernel_rfl) hAk bel,rfl,bel.frame _,fun h=> by cases h⟩
theorem over:Rows.stateDoesRow.holds Try.pinned (OpenSpec.ofChange Rows.stateDoesSpec):=
 OpenClaim.holds_of_wide 5 Try.f5 rfl rfl rfl rfl rfl rfl rfl ⟨rfl,rfl,rfl,rfl,rfl⟩ rfl rfl rfl rfl rfl (by kernel_rfl) Try.func5 (by kernel_rfl)
  (of_decide_eq_true (by kernel_rfl)) (by unfold Func.isWrapper;first | (rw [if_pos (by decide+kernel)];kernel_rfl) | (rw [if_neg (by decide+kernel)];exact ⟨rfl,rfl⟩))
  (fun os started H enc _=> lifted os started H enc)
theorem proved:Rows.StateDoesSaid:=over
end stateDoes
end Go.Proofs.Ytimcbhhebnikiaa
