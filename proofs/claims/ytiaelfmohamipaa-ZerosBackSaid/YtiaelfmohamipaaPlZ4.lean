/- What the functions of zeros answer, in plain words: extents packed. -/
import Derived.Test.YtiaelfmohamipaaPlZ3
import Derived.Test.YtiaelfmohamipaaPlJ
import Derived.Test.YtiaelfmohamipaaFnE
namespace Go.Proofs.Ytiaelfmohamipaa
open Go Go.Proofs.Ytiaelfmohamipaa.Ab
set_option linter.unusedVariables false
set_option linter.unusedSimpArgs false
namespace Ab
theorem r7Copy_eq (x : Ex) (h : x.d.length ≤ 4294967295) : r7Copy x = some x := by
  unfold r7Copy
  first
    | (rw [tp_pos (by first | omega | (simp; omega))])
    | (rw [tp_pos (by first | omega | (simp; omega)), tp_pos (by first | omega | (simp; omega))])
theorem r7Join_eq (a b : Ex) : r7Join a b = some (jnv a b) := by
  unfold r7Join jnv
  rw [r7Joins_eq, tc_some, tb_not]
  by_cases h : Jn a b
  case neg => rw [jn_f h, tb_f, if_neg h]
  have ha := ck_dlen h.1
  have hb := ck_dlen h.2.1
  have ca := h.1
  have cb := h.2.1
  unfold Ck at ca cb
  rw [jn_t h, tb_t, if_pos h, r7Copy_eq a (by omega), tc_some, wr_id (by omega) (by omega), tp_pos (by rw [List.length_map]; omega)]
  rfl
theorem ly_len : ∀ (zs : List Bool) (lba : Int) (b : List UInt8) (c : Bool) (n : Int), (ly lba b c n zs).length ≤ zs.length + 1
  | [], lba, b, c, n => by simp only [ly]; split <;> simp
  | z :: zs, lba, b, c, n => by
    simp only [ly]
    have h1 := ly_len zs lba b c (n + 1)
    have h2 := ly_len zs lba b z 1
    have h3 := ly_len zs (lba + n) (b.drop (32 * n).toNat) z 1
    split
    · simp only [List.length_cons]; omega
    · split
      · simp only [List.length_cons]; omega
      · simp only [List.length_cons]; omega
def sg (g : Int) (x : Ex) : Ex := ⟨x.lba, x.len, x.kind, g, x.d⟩
/-- An extent, zeros in its data told apart. -/
def told (x : Ex) : List Ex := if x.kind = 2 then (ly x.lba x.d false 0 (flags x.d)).map (sg x.gen) else [⟨x.lba, x.len, x.kind, x.gen, []⟩]
theorem ck_lo {x : Ex} (h : Ck x) (hk : x.kind = 2) : Lo x.lba x.d := by
  unfold Ck at h
  have := h.2.2.2.2.2.2.2.2.1 hk
  exact ⟨by omega, h.1, h.2.1, by omega⟩
theorem told_len {x : Ex} (h : Ck x) : (told x).length ≤ 65 := by
  unfold told
  split
  · have h1 := ly_len (flags x.d) x.lba x.d false 0
    have h2 : (flags x.d).length = x.d.length / 32 := fl_length _ _
    have h3 := ck_dlen h
    rw [List.length_map]; omega
  · simp
theorem map_set (f : Ex → Ex) (l : List Ex) (i : Nat) (hi : i < l.length) : ((l.take i).map f ++ l.drop i).set i (f (exAt l i)) = (l.take (i + 1)).map f ++ l.drop (i + 1) := by
  have h1 : l.drop i = exAt l i :: l.drop (i + 1) := by unfold exAt; exact drop_at _ l i hi
  have h2 : l.take (i + 1) = l.take i ++ [exAt l i] := by unfold exAt; exact take_at _ l i hi
  have hl : ((l.take i).map f).length = i := by simp; omega
  rw [List.set_append_right _ _ (by omega), hl, Nat.sub_self, h1, h2]
  simp
theorem map_at (f : Ex → Ex) (l : List Ex) (i : Nat) (hi : i < l.length) : exAt ((l.take i).map f ++ l.drop i) i = exAt l i := by
  have hl : ((l.take i).map f).length = i := by simp; omega
  unfold exAt
  rw [List.getD_eq_getElem?_getD, List.getElem?_append_right (by omega), hl, Nat.sub_self, drop_at ⟨0, 0, 0, 0, []⟩ l i hi]
  rfl
theorem pTold_eq (x : Ex) (h : Ck x) : pTold x = some (told x) := by
  unfold pTold told
  rw [tb_bne]
  by_cases hk : x.kind = 2
  case neg => rw [if_neg hk, if_neg hk]
  rw [if_pos hk, if_pos hk, pLay_eq _ _ (by have := ck_dlen h; omega), tc_some]
  have hlay : lay x.lba x.d = (ly x.lba x.d false 0 (flags x.d), 0) := if_pos (ck_lo h hk)
  rw [hlay]
  have h1 := ly_len (flags x.d) x.lba x.d false 0
  have h2 : (flags x.d).length = x.d.length / 32 := fl_length _ _
  have h3 := ck_dlen h
  generalize ly x.lba x.d false 0 (flags x.d) = l at h1 ⊢
  have hS := fun f => th_run (α := List Ex) (f := f) (step := pTold_L0_step x (l, 0)) (fun i => ((i : Int), (l.take i).map (sg x.gen) ++ l.drop i)) l.length (fun i hi => ?_) ?_
  · simp only [List.take_zero, List.map_nil, List.nil_append, List.drop_zero, Int.natCast_zero] at hS
    rw [hS]
    simp only [tb_dec]
    rw [if_neg (by omega), tp_pos (by first | exact ⟨rfl, by rw [exs_len]; simp⟩ | exact ⟨trivial, by rw [exs_len]; simp⟩)]
    simp
  · unfold pTold_L0_step
    simp only [tb_dec, Int.toNat_natCast]
    have hlen : ((l.take i).map (sg x.gen) ++ l.drop i).length = l.length := by simp; omega
    rw [if_pos (by omega), tp_pos (by omega), tp_pos ⟨rfl, by rw [exs_len, hlen]; simp; omega⟩, wr_id (by omega) (by omega), map_at _ _ _ hi]
    have e := map_set (sg x.gen) l i hi
    unfold sg at e ⊢
    rw [e]
    simp
  · unfold pTold_L0_step
    simp only [tb_dec]
    rw [if_neg (by omega)]
end Ab
end Go.Proofs.Ytiaelfmohamipaa
