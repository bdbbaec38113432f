/- What the functions of blocks answer, in plain words: whether they may be, and are alike. -/
import Derived.Test.YtadipihpgcelmaaPlIB
import Derived.Test.YtadipihpgcelmaaFnA
namespace Go.Proofs.Ytadipihpgcelmaa
open Go Go.Proofs.Ytadipihpgcelmaa.Ab
set_option linter.unusedVariables false
set_option linter.unusedSimpArgs false
namespace Ab
theorem u8z : UInt8.ofNat 0 = 0 := rfl
theorem ceAt_one (c : Ce) : ceAt [c] 0 = c := rfl
theorem tb_lb {α : Type} (a b : List UInt8) (x y : Option α) : tb (a == b) x y = if a = b then x else y := by
  by_cases h : a = b
  · rw [if_pos h]; exact tb_pos (beq_iff_eq.2 h)
  · rw [if_neg h]; exact tb_neg (beq_eq_false_iff_ne.2 h)
theorem iWithin_eq (n lo hi : Int) : iWithin n lo hi = some (decide (lo ≤ n ∧ n ≤ hi)) := by
  unfold iWithin
  rw [tb_dec]
  by_cases h : n ≥ lo
  · rw [if_pos h]; congr 1; exact decide_eq_decide.2 ⟨fun q => ⟨h, q⟩, fun q => q.2⟩
  · rw [if_neg h]; congr 1; symm; rw [decide_eq_false_iff_not]; exact fun q => h q.1
theorem key_i (c : Ce) {α : Type} (x y : Option α) : (if 0 ≤ c.kind ∧ c.kind ≤ 2 then (if 0 ≤ c.gen ∧ c.gen ≤ 2147483647 then (if c.kind = 2 then x else if pad 32 c.d = List.replicate 32 0 then x else y) else y) else y) = if CkC c then x else y := by
  by_cases h1 : 0 ≤ c.kind ∧ c.kind ≤ 2
  case neg => rw [if_neg h1, if_neg fun q : CkC c => h1 ⟨q.1, q.2.1⟩]
  by_cases h2 : 0 ≤ c.gen ∧ c.gen ≤ 2147483647
  case neg => rw [if_pos h1, if_neg h2, if_neg fun q : CkC c => h2 ⟨q.2.2.1, q.2.2.2.1⟩]
  rw [if_pos h1, if_pos h2]
  by_cases h3 : c.kind = 2
  · rw [if_pos h3, if_pos (show CkC c from ⟨h1.1, h1.2, h2.1, h2.2, fun q => absurd h3 q⟩)]
  rw [if_neg h3]
  by_cases h4 : pad 32 c.d = List.replicate 32 0
  · rw [if_pos h4, if_pos (show CkC c from ⟨h1.1, h1.2, h2.1, h2.2, fun _ => h4⟩)]
  · rw [if_neg h4, if_neg fun q : CkC c => h4 (q.2.2.2.2 h3)]
theorem key_r (c : Ce) {α : Type} (x y : Option α) : (if c.kind < 0 then y else if c.kind > 2 then y else if c.gen < 0 then y else if c.gen ≥ 2147483648 then y else if c.kind = 2 then x else if pad 32 c.d = List.replicate 32 0 then x else y) = if CkC c then x else y := by
  rw [← key_i]
  by_cases h1 : c.kind < 0
  · rw [if_pos h1, if_neg (by omega)]
  by_cases h2 : c.kind > 2
  · rw [if_neg h1, if_pos h2, if_neg (by omega)]
  by_cases h3 : c.gen < 0
  · rw [if_neg h1, if_neg h2, if_pos h3, if_pos (show 0 ≤ c.kind ∧ c.kind ≤ 2 by omega), if_neg (show ¬ (0 ≤ c.gen ∧ c.gen ≤ 2147483647) by omega)]
  by_cases h4 : c.gen ≥ 2147483648
  · rw [if_neg h1, if_neg h2, if_neg h3, if_pos h4, if_pos (show 0 ≤ c.kind ∧ c.kind ≤ 2 by omega), if_neg (show ¬ (0 ≤ c.gen ∧ c.gen ≤ 2147483647) by omega)]
  rw [if_neg h1, if_neg h2, if_neg h3, if_neg h4, if_pos (show 0 ≤ c.kind ∧ c.kind ≤ 2 by omega), if_pos (show 0 ≤ c.gen ∧ c.gen ≤ 2147483647 by omega)]
theorem iCheck_eq (l : List Ce) (hl : l.length ≤ 4294967296) : iCheck l = some (decide (CkI l)) := by
  unfold iCheck
  rw [iWithin_eq, tc_some, tb_dec]
  by_cases h1 : (1 : Int) ≤ l.length ∧ (l.length : Int) ≤ 64
  case neg => rw [if_neg h1]; congr 1; symm; rw [decide_eq_false_iff_not]; rintro ⟨q1, q2, _⟩; exact h1 (by omega)
  rw [if_pos h1]
  rw [th_all (some false) (some true) l.length (fun i => CkC (ceAt l i)) (∀ c ∈ l, CkC c) (ceAt_all l CkC)]
  · by_cases h : ∀ c ∈ l, CkC c
    · rw [if_pos h]; congr 1; symm; rw [decide_eq_true_iff]; exact ⟨by omega, by omega, h⟩
    · rw [if_neg h]; congr 1; symm; rw [decide_eq_false_iff_not]; exact fun q => h q.2.2
  · intro i hi hp
    unfold iCheck_L0_step
    simp only [iWithin_eq, tc_some, tb_not, tb_dec, tb_bne, tb_lb, u8z, ceAt_one, Int.toNat_natCast]
    rw [if_pos (by omega), tp_pos (by omega), key_i, if_pos hp, wr_id (by omega) (by omega)]
  · intro i hi hp
    unfold iCheck_L0_step
    simp only [iWithin_eq, tc_some, tb_not, tb_dec, tb_bne, tb_lb, u8z, ceAt_one, Int.toNat_natCast]
    refine ⟨by rw [if_pos (by omega), tp_pos (by omega), key_i, if_neg hp], ?_⟩
    rw [if_pos (by omega), tp_pos (by omega), key_i, if_neg hp, decide_eq_true (by omega)]; rfl
  · unfold iCheck_L0_step
    simp only [tb_dec]
    rw [if_neg (by omega), if_neg (by omega)]
    exact ⟨rfl, rfl⟩
theorem r9Check_eq (l : List Ce) (hl : l.length ≤ 4294967296) : r9Check l = some (decide (CkI l)) := by
  unfold r9Check
  simp only [tb_dec]
  by_cases h1 : (l.length : Int) < 1
  · rw [if_pos h1]; congr 1; symm; rw [decide_eq_false_iff_not]; rintro ⟨q1, q2, _⟩; omega
  by_cases h2 : (l.length : Int) > 64
  · rw [if_neg h1, if_pos h2]; congr 1; symm; rw [decide_eq_false_iff_not]; rintro ⟨q1, q2, _⟩; omega
  rw [if_neg h1, if_neg h2]
  rw [th_all (some false) (some true) l.length (fun i => CkC (ceAt l i)) (∀ c ∈ l, CkC c) (ceAt_all l CkC)]
  · by_cases h : ∀ c ∈ l, CkC c
    · rw [if_pos h]; congr 1; symm; rw [decide_eq_true_iff]; exact ⟨by omega, by omega, h⟩
    · rw [if_neg h]; congr 1; symm; rw [decide_eq_false_iff_not]; exact fun q => h q.2.2
  · intro i hi hp
    unfold r9Check_L0_step
    simp only [tc_some, tb_not, tb_dec, tb_bne, tb_lb, u8z, ceAt_one, Int.toNat_natCast]
    rw [if_pos (by omega), tp_pos (by omega), key_r, if_pos hp, wr_id (by omega) (by omega)]
  · intro i hi hp
    unfold r9Check_L0_step
    simp only [tc_some, tb_not, tb_dec, tb_bne, tb_lb, u8z, ceAt_one, Int.toNat_natCast]
    refine ⟨by rw [if_pos (by omega), tp_pos (by omega), key_r, if_neg hp], ?_⟩
    rw [if_pos (by omega), tp_pos (by omega), key_r, if_neg hp]
  · unfold r9Check_L0_step
    simp only [tb_dec]
    rw [if_neg (by omega), if_neg (by omega)]
    exact ⟨rfl, rfl⟩
/-- A block with just as many bytes as one has. -/
def cn (c : Ce) : Ce := ⟨c.kind, c.gen, pad 32 c.d⟩
def Cn (l : List Ce) : Prop := ∀ c ∈ l, c.d.length = 32
theorem cn_id {l : List Ce} (h : Cn l) : l.map cn = l := by
  conv => rhs; rw [← List.map_id l]
  refine List.map_congr_left fun c hc => ?_
  unfold cn
  rw [pad_of (h c hc)]; rfl
theorem all_eq {α β : Type} (d : α) (f : α → β) (a b : List α) (h : a.length = b.length) : (∀ i, i < a.length → f (a.getD i d) = f (b.getD i d)) ↔ a.map f = b.map f := by
  constructor
  · intro g
    refine List.ext_getElem (by simp [h]) fun i h1 h2 => ?_
    simp only [List.length_map] at h1 h2
    have := g i h1
    simp only [List.getElem_map]
    simpa [h1, h2] using this
  · intro g i hi
    have : (a.map f)[i]? = (b.map f)[i]? := by rw [g]
    rw [List.getElem?_map, List.getElem?_map, List.getElem?_eq_getElem hi, List.getElem?_eq_getElem (by omega)] at this
    simp only [Option.map_some, Option.some.injEq] at this
    simp only [List.getD_eq_getElem?_getD, List.getElem?_eq_getElem hi, List.getElem?_eq_getElem (show i < b.length by omega), Option.getD_some]
    exact this
theorem same_c (a b : Ce) {α : Type} (x y : Option α) : tb (a.kind == b.kind && (a.gen == b.gen && (pad 32 a.d == pad 32 b.d))) x y = if cn a = cn b then x else y := by
  by_cases h : cn a = cn b
  · rw [if_pos h]
    simp only [cn, Ce.mk.injEq] at h
    rw [h.1, h.2.1, h.2.2]; simp
  · rw [if_neg h]
    refine tb_neg ?_
    simp only [cn, Ce.mk.injEq] at h
    simp only [Bool.and_eq_false_iff, beq_eq_false_iff_ne, ne_eq]
    by_cases h1 : a.kind = b.kind
    · by_cases h2 : a.gen = b.gen
      · exact .inr (.inr fun h3 => h ⟨h1, h2, h3⟩)
      · exact .inr (.inl h2)
    · exact .inl h1
theorem r9Same_eq0 (a b : List Ce) (ha : a.length ≤ 4294967296) : r9Same a b = some (decide (a.map cn = b.map cn)) := by
  unfold r9Same
  rw [tb_bne]
  by_cases hl : (a.length : Int) = b.length
  case neg =>
    rw [if_neg hl]; congr 1; symm; rw [decide_eq_false_iff_not]
    intro h
    have := congrArg List.length h
    simp only [List.length_map] at this; omega
  rw [if_pos hl]
  have hl2 : a.length = b.length := by omega
  rw [th_all (some false) (some true) a.length (fun i => cn (ceAt a i) = cn (ceAt b i)) (a.map cn = b.map cn) (all_eq _ cn a b hl2)]
  · by_cases h : a.map cn = b.map cn
    · rw [if_pos h, decide_eq_true h]
    · rw [if_neg h, decide_eq_false h]
  · intro i hi hp
    unfold r9Same_L0_step
    simp only [tb_dec, tb_not, same_c, Int.toNat_natCast]
    rw [if_pos (by omega), tp_pos (by omega), tp_pos (by omega), if_pos hp, wr_id (by omega) (by omega)]
  · intro i hi hp
    unfold r9Same_L0_step
    simp only [tb_dec, tb_not, same_c, Int.toNat_natCast]
    refine ⟨by rw [if_pos (by omega), tp_pos (by omega), tp_pos (by omega), if_neg hp], ?_⟩
    rw [if_pos (by omega), tp_pos (by omega), if_neg hp]
  · unfold r9Same_L0_step
    simp only [tb_dec]
    rw [if_neg (by omega), if_neg (by omega)]
    exact ⟨rfl, rfl⟩
theorem r9Same_eq {a b : List Ce} (ha : a.length ≤ 4294967296) (h1 : Cn a) (h2 : Cn b) : r9Same a b = some (decide (a = b)) := by
  rw [r9Same_eq0 a b ha, cn_id h1, cn_id h2]
/-- What two blocks that are alike have. -/
def al (c : Ce) : Int × List UInt8 := (c.kind, pad 32 c.d)
theorem r9Alike_eq (a b : List Ce) (ha : a.length ≤ 4294967296) : r9Alike a b = some (decide (a.map al = b.map al)) := by
  unfold r9Alike
  rw [tb_bne]
  by_cases hl : (a.length : Int) = b.length
  case neg =>
    rw [if_neg hl]; congr 1; symm; rw [decide_eq_false_iff_not]
    intro h
    have := congrArg List.length h
    simp only [List.length_map] at this; omega
  rw [if_pos hl]
  have hl2 : a.length = b.length := by omega
  have hs : ∀ (c e : Ce) (x y : Option Int), (if c.kind = e.kind then (if pad 32 c.d = pad 32 e.d then x else y) else y) = if al c = al e then x else y := by
    intro c e x y
    simp only [al, Prod.mk.injEq]
    by_cases g1 : c.kind = e.kind <;> by_cases g2 : pad 32 c.d = pad 32 e.d <;> simp [g1, g2]
  have hs2 : ∀ (c e : Ce) (x y : Option Bool), (if c.kind = e.kind then (if pad 32 c.d = pad 32 e.d then x else y) else y) = if al c = al e then x else y := by
    intro c e x y
    simp only [al, Prod.mk.injEq]
    by_cases g1 : c.kind = e.kind <;> by_cases g2 : pad 32 c.d = pad 32 e.d <;> simp [g1, g2]
  rw [th_all (some false) (some true) a.length (fun i => al (ceAt a i) = al (ceAt b i)) (a.map al = b.map al) (all_eq _ al a b hl2)]
  · by_cases h : a.map al = b.map al
    · rw [if_pos h, decide_eq_true h]
    · rw [if_neg h, decide_eq_false h]
  · intro i hi hp
    unfold r9Alike_L0_step
    simp only [tb_dec, tb_not, tb_bne, tb_lb, Int.toNat_natCast, hs, hs2]
    rw [if_pos (by omega), tp_pos (by omega), tp_pos (by omega), if_pos hp, wr_id (by omega) (by omega)]
  · intro i hi hp
    unfold r9Alike_L0_step
    simp only [tb_dec, tb_not, tb_bne, tb_lb, Int.toNat_natCast, hs, hs2]
    refine ⟨by rw [if_pos (by omega), tp_pos (by omega), tp_pos (by omega), if_neg hp], ?_⟩
    rw [if_pos (by omega), tp_pos (by omega), if_neg hp]
  · unfold r9Alike_L0_step
    simp only [tb_dec]
    rw [if_neg (by omega), if_neg (by omega)]
    exact ⟨rfl, rfl⟩
/-- Are so many blocks there? -/
def Fits (l : List Ce) (lba n : Int) : Prop := 0 ≤ lba ∧ lba ≤ l.length ∧ 1 ≤ n ∧ n ≤ l.length - lba
instance (l : List Ce) (lba n : Int) : Decidable (Fits l lba n) := by unfold Fits; infer_instance
theorem r9fits_eq (l : List Ce) (lba n : Int) (hl : l.length ≤ 4294967296) : r9fits l lba n = some (decide (Fits l lba n)) := by
  unfold r9fits
  simp only [tb_dec]
  by_cases h1 : lba ≥ 0
  case neg => rw [if_neg h1]; congr 1; symm; rw [decide_eq_false_iff_not]; rintro ⟨q, _⟩; exact h1 q
  by_cases h2 : lba ≤ l.length
  case neg => rw [if_pos h1, if_neg h2]; congr 1; symm; rw [decide_eq_false_iff_not]; rintro ⟨_, q, _⟩; exact h2 q
  by_cases h3 : n ≥ 1
  case neg => rw [if_pos h1, if_pos h2, if_neg h3]; congr 1; symm; rw [decide_eq_false_iff_not]; rintro ⟨_, _, q, _⟩; exact h3 q
  rw [if_pos h1, if_pos h2, if_pos h3, wr_id (by omega) (by omega)]
  congr 1; exact decide_eq_decide.2 ⟨fun q => ⟨h1, h2, h3, q⟩, fun q => q.2.2.2⟩
end Ab
end Go.Proofs.Ytadipihpgcelmaa
