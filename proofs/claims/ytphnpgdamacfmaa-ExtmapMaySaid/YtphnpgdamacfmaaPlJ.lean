/- Extents joined, in plain words. -/
import Derived.Test.YtphnpgdamacfmaaPlE
import Derived.Test.YtphnpgdamacfmaaFnB
import Derived.Test.YtphnpgdamacfmaaFnC
namespace Go.Proofs.Ytphnpgdamacfmaa
open Go Go.Proofs.Ytphnpgdamacfmaa.Ab
set_option linter.unusedVariables false
set_option linter.unusedSimpArgs false
namespace Ab
def jnx (a b : Ex) : Ex := ⟨a.lba, a.len + b.len, a.kind, a.gen, a.d ++ b.d⟩
def jnv (a b : Ex) : Ex × Int := if Jn a b then (jnx a b, 0) else (⟨0, 0, 0, 0, []⟩, 70)
theorem ck_dlen {x : Ex} (h : Ck x) : x.d.length ≤ 2048 := by
  unfold Ck at h
  by_cases hk : x.kind = 2
  · have := h.2.2.2.2.2.2.2.2.1 hk; omega
  · have := h.2.2.2.2.2.2.2.2.2 hk; rw [this]; simp
theorem eJoin_eq (a b : Ex) : eJoin a b = some (jnv a b) := by
  unfold eJoin jnv
  rw [eJoins_eq, tc_some, tb_not]
  by_cases h : Jn a b
  case neg => rw [jn_f h, tb_f, if_neg h]
  have ha := ck_dlen h.1
  have hb := ck_dlen h.2.1
  have ca := h.1
  have cb := h.2.1
  unfold Ck at ca cb
  rw [jn_t h, tb_t, if_pos h, wr_id (by omega) (by omega), tp_pos (by omega), tp_pos (by rw [List.length_map]; omega)]
  rfl
/-- Behind others: joined with the last one, if it goes on it. -/
def add (out : List Ex) (y : Ex) : List Ex := if out ≠ [] ∧ Jn (out.getLastD ⟨0, 0, 0, 0, []⟩) y then out.dropLast ++ [jnx (out.getLastD ⟨0, 0, 0, 0, []⟩) y] else out ++ [y]
theorem add_len (out : List Ex) (y : Ex) : (add out y).length ≤ out.length + 1 := by
  unfold add
  split
  · first | (simp; done) | (simp; omega)
  · simp
theorem adds_len : ∀ (ys out : List Ex), (ys.foldl add out).length ≤ out.length + ys.length
  | [], out => by simp
  | y :: ys, out => by
    have := adds_len ys (add out y)
    have := add_len out y
    simp only [List.foldl_cons, List.length_cons]; omega
theorem last_at (out : List Ex) (h : out ≠ []) (k : Nat) (hk : k = out.length - 1) : exAt out k = out.getLastD ⟨0, 0, 0, 0, []⟩ := by
  subst hk
  have : 0 < out.length := List.length_pos_iff.2 h
  unfold exAt
  rw [List.getD_eq_getElem?_getD, List.getLastD_eq_getLast?, List.getLast?_eq_getElem?]
theorem set_last_ex (out : List Ex) (h : out ≠ []) (k : Nat) (hk : k = out.length - 1) (v : Ex) : out.set k v = out.dropLast ++ [v] := by
  subst hk
  have e : out = out.dropLast ++ [out.getLast h] := (List.dropLast_concat_getLast h).symm
  have hl : out.length - 1 = out.dropLast.length := by simp
  rw [hl]
  conv => lhs; rw [e]
  rw [List.set_append_right _ _ (by simp)]
  simp
end Ab
end Go.Proofs.Ytphnpgdamacfmaa
