/- What operations leave of the heap. -/
import Derived.Test.YtadipihpgcelmaaAbsP
import Derived.RangeFuncRecord
namespace Go.Proofs.Ytadipihpgcelmaa.Ab
open Go
set_option linter.unusedVariables false
set_option linter.unusedSimpArgs false

def inF : Option (List Nat) → Nat → Prop
  | none, _ => True
  | some l, b => b ∈ l
/-- From one heap to a later one, blocks written or made being among these. -/
def Frm (h h' : AH) (wr : Option (List Nat)) : Prop := h.nx ≤ h'.nx ∧ (∀ b, h.nx ≤ b → b < h'.nx → inF wr b) ∧ ∀ b, ¬ inF wr b → h'.get b = h.get b
theorem Frm.same (h : AH) : Frm h h (some []) := ⟨Nat.le_refl _, fun b h1 h2 => by omega, fun _ _ => rfl⟩
theorem Frm.new (h : AH) (o : AObj) : Frm h (h.new o) (some [h.nx]) :=
  ⟨by simp, fun b h1 h2 => by simp only [AH.nx_new] at h2; simp [inF]; omega, fun b hb => by simp only [inF, List.mem_singleton] at hb; rw [AH.get_new, if_neg (fun e => hb e.symm)]⟩
theorem Frm.put (h : AH) (b : Nat) (o : AObj) : Frm h (h.put b o) (some [b]) :=
  ⟨Nat.le_refl _, fun x h1 h2 => by simp only [AH.nx_put] at h2; omega, fun x hb => by simp only [inF, List.mem_singleton] at hb; rw [AH.get_put, if_neg (fun e => hb e.symm)]⟩
theorem Frm.move (h : AH) (b : Nat) (o : AObj) : Frm h ((h.kill b).new o) (some [b, h.nx]) :=
  ⟨by simp, fun x h1 h2 => by simp only [AH.nx_new, AH.nx_kill] at h2; simp [inF]; omega, fun x hb => by
    simp only [inF, List.mem_cons, List.not_mem_nil, or_false, not_or] at hb
    rw [AH.get_new, AH.nx_kill, if_neg (fun e => hb.2 e.symm), AH.get_kill, if_neg (fun e => hb.1 e.symm)]⟩
theorem quiet_frm {h : AH} {v : AV} {r : OR} (hr : quiet h v = some r) : Frm h r.h (some r.wr) := by
  simp only [quiet, Option.some.injEq] at hr; subst hr; exact Frm.same h
theorem bindq_frm {α : Type} {h : AH} {x : Option α} {g : α → AV} {r : OR} (hr : (x.bind fun n => quiet h (g n)) = some r) : Frm h r.h (some r.wr) := by
  cases x with
  | none => cases hr
  | some n => exact quiet_frm hr

section
variable {P : Program} {h : AH} {r : OR}
theorem append_frm {t : TypeId} {t1 : Option TypeId} {s x : AV} (hr : appendA P h t t1 s x = some r) : Frm h r.h (some r.wr) := by
  unfold appendA at hr
  repeat' first
    | exact quiet_frm hr
    | exact bindq_frm hr
    | (cases hr; done)
    | (simp only [Option.some.injEq] at hr; subst hr; first | exact Frm.same _ | exact Frm.new _ _ | exact Frm.put _ _ _ | exact Frm.move _ _ _)
    | split at hr
theorem copy_frm {t : TypeId} {s x : AV} (hr : copyA P h t s x = some r) : Frm h r.h (some r.wr) := by
  unfold copyA at hr
  repeat' first
    | exact quiet_frm hr
    | exact bindq_frm hr
    | (cases hr; done)
    | (simp only [Option.some.injEq] at hr; subst hr; first | exact Frm.same _ | exact Frm.new _ _ | exact Frm.put _ _ _ | exact Frm.move _ _ _)
    | split at hr
theorem slice_frm {t : TypeId} {x : AV} {lo hi mx : Option AV} (hr : sliceA P h t x lo hi mx = some r) : Frm h r.h (some r.wr) := by
  unfold sliceA at hr
  repeat' first
    | exact quiet_frm hr
    | exact bindq_frm hr
    | (cases hr; done)
    | (simp only [Option.some.injEq] at hr; subst hr; first | exact Frm.same _ | exact Frm.new _ _ | exact Frm.put _ _ _ | exact Frm.move _ _ _)
    | split at hr
theorem idx_frm {t : TypeId} {x ix : AV} (hr : idxAddr P h t x ix = some r) : Frm h r.h (some r.wr) := by
  unfold idxAddr at hr
  repeat' first
    | exact quiet_frm hr
    | exact bindq_frm hr
    | (cases hr; done)
    | (simp only [Option.some.injEq] at hr; subst hr; first | exact Frm.same _ | exact Frm.new _ _ | exact Frm.put _ _ _ | exact Frm.move _ _ _)
    | split at hr
theorem conv_frm {s d : TypeId} {x : AV} (hr : conv P h s d x = some r) : Frm h r.h (some r.wr) := by
  unfold conv at hr
  repeat' first
    | exact quiet_frm hr
    | exact bindq_frm hr
    | (cases hr; done)
    | (simp only [Option.some.injEq] at hr; subst hr; first | exact Frm.same _ | exact Frm.new _ _ | exact Frm.put _ _ _ | exact Frm.move _ _ _)
    | split at hr
theorem builtin_frm {b : Builtin} {ts : Array TypeId} {args : List AV} (hr : builtinA P h b ts args = some r) : Frm h r.h (some r.wr) := by
  unfold builtinA at hr
  repeat' first
    | exact quiet_frm hr
    | exact bindq_frm hr
    | exact append_frm hr
    | exact copy_frm hr
    | (cases hr; done)
    | split at hr
theorem store_frm {t : TypeId} {a v : AV} {h' : AH} {bs : List Nat} (hr : storeA P h t a v = (some h', bs)) : Frm h h' (some bs) := by
  unfold storeA at hr
  repeat' first
    | (cases hr; done)
    | (simp only [Prod.mk.injEq, Option.some.injEq] at hr; obtain ⟨rfl, rfl⟩ := hr; exact Frm.put _ _ _)
    | split at hr
theorem aOp_frm {T : Tm} {op : Op} (hr : aOp P h T op = some r) : Frm h r.h (some r.wr) := by
  cases op <;> simp only [aOp] at hr <;> first
    | (cases hr; done)
    | exact quiet_frm hr
    | exact conv_frm hr
    | exact slice_frm hr
    | exact idx_frm hr
    | skip
  all_goals repeat' first
    | exact quiet_frm hr
    | exact bindq_frm hr
    | exact builtin_frm hr
    | exact conv_frm hr
    | exact slice_frm hr
    | exact idx_frm hr
    | (cases hr; done)
    | (simp only [Option.some.injEq] at hr; subst hr; first | exact Frm.same _ | exact Frm.new _ _ | exact Frm.put _ _ _ | exact Frm.move _ _ _ | exact store_frm (by assumption))
    | split at hr
end
end Go.Proofs.Ytadipihpgcelmaa.Ab
