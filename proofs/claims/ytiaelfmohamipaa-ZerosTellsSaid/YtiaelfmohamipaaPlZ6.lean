/- What the record's functions of zeros answer: extents packed by the record; and the law that tells them apart. -/
import Derived.Test.YtiaelfmohamipaaPlZ5
import Derived.Test.YtiaelfmohamipaaFlTells
import Derived.Test.YtiaelfmohamipaaAbsZ
namespace Go.Proofs.Ytiaelfmohamipaa
open Go Go.Proofs.Ytiaelfmohamipaa.Ab
set_option linter.unusedVariables false
set_option linter.unusedSimpArgs false
namespace Ab
theorem told_one {x : Ex} (h : Ck x) (hk : x.kind ≠ 2) : told x = [x] := by
  unfold told
  rw [if_neg hk]
  have := h.2.2.2.2.2.2.2.2.2 hk
  cases x with
  | mk a b c e d => simp_all
theorem rPack_L1_eq {α : Type} (l : List Ex) (s0 : Bool) (out : List Ex) (i : Nat) (hi : i < l.length) (q : List Ex) (e : Int) (f : Int × List Ex → Option α) (hq : q.length ≤ 1000000) :
    th (rPack_L1_step l s0 (out, (i : Int)) (q, e)) (0, q) f = f ((q.length : Int), q.map (sg (exAt l i).gen)) := by
  have := th_run (f := f) (step := rPack_L1_step l s0 (out, (i : Int)) (q, e)) (fun j => ((j : Int), (q.take j).map (sg (exAt l i).gen) ++ q.drop j)) q.length (fun j hj => ?_) ?_
  · simpa using this
  · unfold rPack_L1_step
    simp only [tb_dec, Int.toNat_natCast]
    have hlen : ((q.take j).map (sg (exAt l i).gen) ++ q.drop j).length = q.length := by simp; omega
    rw [if_pos (by omega), tp_pos (by omega), tp_pos (by omega), tp_pos ⟨rfl, by rw [exs_len, hlen]; simp; omega⟩, wr_id (by omega) (by omega), map_at _ _ _ hj]
    have e := map_set (sg (exAt l i).gen) q j hj
    unfold sg at e ⊢
    rw [e]
    simp
  · unfold rPack_L1_step
    simp only [tb_dec]
    rw [if_neg (by omega)]
theorem rPack_L0_step_eq (l : List Ex) (s0 : Bool) (out : List Ex) (i : Nat) (hi : i < l.length) (hl : l.length ≤ 64) (hc : Ck (exAt l i)) (ho : out.length ≤ 1000000) :
    rPack_L0_step l s0 (out, (i : Int)) = some (out ++ told (exAt l i), ((i + 1 : Nat) : Int)) := by
  unfold rPack_L0_step
  simp only [tb_dec, tb_bne, Int.toNat_natCast]
  rw [if_pos (by omega), tp_pos (by omega), wr_id (x := (i : Int) + 1) (by omega) (by omega)]
  by_cases hk : (exAt l i).kind = 2
  case neg => rw [if_neg hk, tp_pos ⟨exs_len _, by omega⟩, told_one hc hk]; rfl
  rw [if_pos hk, rLay_eq _ _ (by have := ck_dlen hc; omega), tc_some]
  have hlay : lay (exAt l i).lba (exAt l i).d = (ly (exAt l i).lba (exAt l i).d false 0 (flags (exAt l i).d), 0) := if_pos (ck_lo hc hk)
  rw [hlay]
  have h1 := ly_len (flags (exAt l i).d) (exAt l i).lba (exAt l i).d false 0
  have h2 : (flags (exAt l i).d).length = (exAt l i).d.length / 32 := fl_length _ _
  have h3 := ck_dlen hc
  rw [rPack_L1_eq _ _ _ _ hi _ _ _ (by omega)]
  simp only [tb_dec]
  rw [if_neg (by omega), tp_pos (by first | exact ⟨rfl, by rw [exs_len, List.length_map]⟩ | exact ⟨trivial, by rw [exs_len, List.length_map]⟩), tp_pos ⟨exs_len _, by omega⟩]
  unfold told
  rw [if_pos hk]; rfl
theorem rPack_L3_step_eq (l : List Ex) (s0 : Bool) (s7 : List Ex) (n : Int) (out : List Ex) (i : Nat) (hi : i < s7.length) (h7 : s7.length ≤ 4294967296) (ho : out.length + 1 ≤ 4294967296) :
    rPack_L3_step l s0 (s7, n) (out, (i : Int)) = some (add out (exAt s7 i), (i : Int) + 1) := by
  unfold rPack_L3_step
  simp only [tb_dec, tb_beq, Int.toNat_natCast]
  rw [if_pos (by omega), wr_id (x := (i : Int) + 1) (by omega) (by omega)]
  by_cases h0 : out = []
  · subst h0
    rw [if_neg (by simp), tp_pos (by omega), tp_pos ⟨by simp, by simp⟩, add_nil]; rfl
  · have hl : 0 < out.length := List.length_pos_iff.2 h0
    have hw : wr ((out.length : Int) - 1) = ((out.length - 1 : Nat) : Int) := by rw [wr_id (by omega) (by omega)]; omega
    rw [if_pos (by omega), hw, tp_pos (by omega), tp_pos (by omega), Int.toNat_natCast, last_at out h0 _ rfl, r7Join_eq, tc_some]
    by_cases hj : Jn (out.getLastD ⟨0, 0, 0, 0, []⟩) (exAt s7 i)
    · have e : jnv (out.getLastD ⟨0, 0, 0, 0, []⟩) (exAt s7 i) = (jnx (out.getLastD ⟨0, 0, 0, 0, []⟩) (exAt s7 i), 0) := if_pos hj
      rw [e, if_pos rfl, tp_pos ⟨rfl, by rw [exs_len]; simp; omega⟩, add_jn h0 hj, set_last_ex out h0 _ rfl]
    · have e : jnv (out.getLastD ⟨0, 0, 0, 0, []⟩) (exAt s7 i) = (⟨0, 0, 0, 0, []⟩, 70) := if_neg hj
      rw [e, if_neg (by simp), tp_pos ⟨exs_len _, ho⟩, add_no hj]
theorem rPack_eq (l : List Ex) : rPack l = some (pk l) := by
  unfold rPack pk
  rw [r10List_eq, tc_some, tb_not]
  by_cases h : Ls l
  case neg => rw [decide_eq_false h, tb_f, if_neg h]
  rw [decide_eq_true h, tb_t, if_pos h]
  have hl := h.1
  have hS := fun (f : List Ex × Int → Option (List Ex × Int)) => th_run (f := f) (step := rPack_L0_step l true) (fun i => ((l.take i).flatMap told, (i : Int))) l.length (fun i hi => ?_) ?_
  rotate_left
  · have hbd := tolds_len _ (lp_ck (Nat.le_of_lt hi) fun j hj => h.2 j (by omega))
    rw [List.length_take] at hbd
    rw [rPack_L0_step_eq _ _ _ _ hi hl (h.2 i hi).1 (by omega), flat_take _ _ hi]
  · unfold rPack_L0_step
    simp only [tb_dec]
    rw [if_neg (by omega)]
  refine (hS _).trans ?_
  have hbd := tolds_len _ (lp_ck (Nat.le_refl _) fun j hj => h.2 j (by omega))
  simp only [List.take_length] at hbd ⊢
  simp only [tb_dec]
  rw [if_neg (by omega)]
  generalize l.flatMap told = q at hbd ⊢
  have hT := fun (f : List Ex × Int → Option (List Ex × Int)) => th_run (f := f) (step := rPack_L3_step l true (q, (l.length : Int))) (fun i => ((q.take i).foldl add [], (i : Int))) q.length (fun i hi => ?_) ?_
  rotate_left
  · have hb := adds_len (q.take i) []
    rw [List.length_take] at hb
    simp only [List.length_nil] at hb
    rw [rPack_L3_step_eq _ _ _ _ _ _ hi (by omega) (by omega), fold_take _ _ _ hi]
    simp
  · unfold rPack_L3_step
    simp only [tb_dec]
    rw [if_neg (by omega)]
  refine (hT _).trans ?_
  simp only [List.take_length]
  rw [if_neg (by omega), tp_pos (by first | exact ⟨rfl, exs_len _⟩ | exact ⟨trivial, exs_len _⟩)]
theorem runs_lenc (zs : List Bool) : (Ab.runs zs).length ≤ zs.length + 1 := by
  unfold Ab.runs
  split
  · simp
  · exact rn_lenb zs false 0
theorem lZerosTells_true (b : List UInt8) (lba : Int) (l : List Ex) : lZerosTells b lba l = some true := by
  unfold lZerosTells aw15
  rw [tc_some, tb_dec]
  by_cases hb : (b.length : Int) > 5000
  · rw [if_pos hb]
  rw [if_neg hb, few_eq, tc_some, tb_not]
  by_cases hf : l.length ≤ 70 ∧ ∀ x ∈ l, x.d.length ≤ 3000
  case neg => rw [decide_eq_false hf]; rfl
  rw [decide_eq_true hf, tb_t, pSplit_eq _ (by omega), rSplit_eq _ (by omega), pLay_eq _ _ (by omega), rLay_eq _ _ (by omega), pPack_eq, rPack_eq]
  simp only [tc_some]
  have h0 : (if b.length % 32 = 0 then (Ab.runs (flags b), (0 : Int)) else ([], 150)).1.length ≤ 4294967296 := by
    have h2 := runs_lenc (flags b)
    have h3 : (flags b).length = b.length / 32 := fl_length _ _
    split
    · simp only; omega
    · simp
  have h1 : (lay lba b).1.length ≤ 4294967296 := by
    unfold lay
    have h2 := ly_len (flags b) lba b false 0
    have h3 : (flags b).length = b.length / 32 := fl_length _ _
    split
    · simp only; omega
    · simp
  have h2 : (pk l).1.length ≤ 4294967296 := by
    unfold pk
    split
    case isTrue h =>
      have hbd := tolds_len _ (lp_ck (Nat.le_refl _) fun j hj => h.2 j (by omega))
      have hb := adds_len (l.flatMap told) []
      have hl := h.1
      simp only [List.take_length, List.length_nil] at hbd hb ⊢
      omega
    · simp
  rw [numbers_eq _ _ h0, tc_some]
  simp only [tb_t, decide_true]
  rw [tp_pos (by first | exact ⟨rfl, exs_len _⟩ | exact ⟨trivial, exs_len _⟩), r7All_eq _ _ h1, r7All_eq _ _ h2, pIs_eq _ (by omega), rIs_eq _ (by omega)]
  simp
theorem zerosTells_call (b : List UInt8) (lba : Int) (l : List Ex) (_ : True) (_ : I64 lba) (_ : ∀ x ∈ l, Ex.ok x) : EvFr Try.prog cf false 3 [.sl b.length (b.map AV.y), .i lba, .sl l.length (l.flatMap Ex.cells)] (.b true) := lZerosTells_ok b lba l true (lZerosTells_true b lba l)
end Ab
end Go.Proofs.Ytiaelfmohamipaa
