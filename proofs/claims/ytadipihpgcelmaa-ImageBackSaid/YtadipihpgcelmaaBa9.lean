/- The law 'ImageBack': it returns true, and nothing that was there changes. No condition. (Part 9 of 12.) -/
import Derived.Test.YtadipihpgcelmaaBa8
import Derived.Test.YtadipihpgcelmaaRows
namespace Go.Proofs.Ytadipihpgcelmaa
open Go Go.Proofs.Ytadipihpgcelmaa.Ab
set_option linter.unusedVariables false
set_option linter.unusedSimpArgs false
namespace Ab
/-- A block as extents hold it; one as a list holds what extents do. -/
def blk (c : Ce) : Int × Int × List UInt8 := (c.kind, c.gen, if c.kind = 2 then pad 32 c.d else [])
def cb (c : Int × Int × List UInt8) : Ce := ⟨c.1, c.2.1, pad 32 c.2.2⟩
/-- One block as an extent. -/
def sg (l : List Ce) (i : Nat) : Ex := ⟨i, 1, (ceAt l i).kind, (ceAt l i).gen, if (ceAt l i).kind = 2 then pad 32 (ceAt l i).d else []⟩
def sgs (l : List Ce) : List Ex := (List.range' 0 l.length).map (sg l)
def mapOf (l : List Ce) : List Ex := (sgs l).foldl add []
theorem ck_sg {l : List Ce} (h : CkI l) {i : Nat} (hi : i < l.length) : Ck (sg l i) := by
  obtain ⟨h1, h2, h3⟩ := h
  have hc := (ceAt_all l CkC).2 h3 i hi
  unfold CkC at hc
  refine ⟨by simp only [sg]; omega, by simp only [sg]; omega, by simp only [sg]; omega, by simp only [sg]; omega, by simp only [sg]; omega, by simp only [sg]; omega, by simp only [sg]; omega, by simp only [sg]; omega, fun hk => ?_, fun hk => ?_⟩
  · have hk : (ceAt l i).kind = 2 := hk
    simp only [sg, if_pos hk, pad_len]; rfl
  · have hk : (ceAt l i).kind ≠ 2 := hk
    simp only [sg, if_neg hk]
theorem cv_sg {l : List Ce} {i : Nat} {k : Int} {c : Int × Int × List UInt8} : Cv (sg l i) k c ↔ k = i ∧ c = blk (ceAt l i) := by
  have e : bAt (sg l i) i = blk (ceAt l i) := by
    simp only [bAt, sg, blk, Prod.mk.injEq, true_and, Int.sub_self, Int.mul_zero, Int.toNat_zero, List.drop_zero]
    split
    · rw [List.take_of_length_le (by simp)]
    · simp
  unfold Cv
  have e1 : (sg l i).lba = i := rfl
  have e2 : (sg l i).len = 1 := rfl
  rw [e1, e2]
  constructor
  · rintro ⟨a, b, q⟩
    have : k = i := by omega
    subst this
    exact ⟨rfl, by rw [q, e]⟩
  · rintro ⟨rfl, q⟩
    exact ⟨by omega, by omega, by rw [q, e]⟩
theorem den_sgs {l : List Ce} {k : Int} {c : Int × Int × List UInt8} : Den (sgs l) k c ↔ ∃ i : Nat, i < l.length ∧ k = i ∧ c = blk (ceAt l i) := by
  unfold Den sgs
  constructor
  · rintro ⟨x, hx, h⟩
    obtain ⟨i, hi, rfl⟩ := List.mem_map.1 hx
    obtain ⟨a, b⟩ := cv_sg.1 h
    refine ⟨i, ?_, a, b⟩
    have := List.mem_range'_1.1 hi
    omega
  · rintro ⟨i, hi, a, b⟩
    exact ⟨sg l i, List.mem_map.2 ⟨i, List.mem_range'_1.2 ⟨by omega, by omega⟩, rfl⟩, cv_sg.2 ⟨a, b⟩⟩
theorem cg_sgs {l : List Ce} (h : CkI l) : ∀ (n s : Nat), s + n ≤ l.length → Cg s ((List.range' s n).map (sg l)) ((s + n : Nat) : Int)
  | 0, s, _ => rfl
  | n + 1, s, hs => by
    rw [List.range'_succ, List.map_cons]
    refine ⟨ck_sg h (by omega), rfl, ?_⟩
    have := cg_sgs h n (s + 1) (by omega)
    have e1 : (s : Int) + (sg l s).len = ((s + 1 : Nat) : Int) := by simp only [sg]; omega
    rw [e1, show s + (n + 1) = s + 1 + n by omega]
    exact this
theorem mapOf_mk {l : List Ce} (h : CkI l) : Mk l.length (mapOf l) := by
  have hg := cg_sgs h l.length 0 (by omega)
  rw [Nat.zero_add] at hg
  obtain ⟨a, b⟩ := ch_adds (sgs l) [] (e := l.length) trivial hg
  exact ch_mk a b (by have := h.1; omega)
theorem mapOf_den {l : List Ce} {k : Int} {c : Int × Int × List UInt8} : Den (mapOf l) k c ↔ ∃ i : Nat, i < l.length ∧ k = i ∧ c = blk (ceAt l i) := by
  unfold mapOf
  rw [den_adds, den_sgs]
  exact or_iff_right den_nil
/-! Blocks of a map. -/
/-- The bytes of an extent. -/
def eb (x : Ex) : List UInt8 := if x.kind = 2 then x.d else List.replicate (32 * x.len).toNat 0
theorem eb_len {x : Ex} (h : Ck x) : ((eb x).length : Int) = 32 * x.len := by
  unfold eb
  unfold Ck at h
  split
  · rename_i hk; exact h.2.2.2.2.2.2.2.2.1 hk
  · rw [List.length_replicate]; omega
def xcs (x : Ex) : List Ce := (List.range x.len.toNat).map fun k => ⟨x.kind, x.gen, pad 32 ((eb x).drop (32 * k))⟩
def cellsM (m : List Ex) : List Ce := m.flatMap xcs
theorem pad_take (l : List UInt8) : pad 32 (l.take 32) = pad 32 l := by
  unfold pad
  rw [List.take_append, List.take_append, List.take_take, Nat.min_self, List.take_replicate, List.take_replicate, List.length_take]
  congr 2
  omega
theorem xcs_at {x : Ex} (h : Ck x) {k : Int} (h1 : x.lba ≤ k) (h2 : k < x.lba + x.len) : (xcs x)[(k - x.lba).toNat]? = some (cb (bAt x k)) := by
  unfold xcs
  rw [List.getElem?_map, List.getElem?_range (by omega)]
  simp only [Option.map_some, Option.some.injEq, cb, bAt, Ce.mk.injEq, true_and]
  unfold eb
  have e : 32 * (k - x.lba).toNat = (32 * (k - x.lba)).toNat := by omega
  rw [e, pad_take]
  split
  · rfl
  · rename_i hk
    rw [ck_d0 h hk, List.drop_replicate, List.drop_nil, pad_rep, pad_nil]
theorem xcs_len (x : Ex) : (xcs x).length = x.len.toNat := by simp [xcs]
theorem cellsM_len : ∀ {m : List Ex} {s : Int}, CH s m → ((cellsM m).length : Int) = sl m
  | [], _, _ => rfl
  | x :: m, s, h => by
    have := cellsM_len h.2.2.2
    have p := ck_pos h.1
    simp only [cellsM, List.flatMap_cons, List.length_append, xcs_len, sl] at this ⊢
    omega
theorem cellsM_den : ∀ {m : List Ex} {s : Int}, CH s m → ∀ {k : Int} {c : Int × Int × List UInt8}, Den m k c → (cellsM m)[(k - s).toNat]? = some (cb c)
  | [], _, _, k, c, hd => absurd hd den_nil
  | x :: m, s, h, k, c, hd => by
    have p := ck_pos h.1
    have hb := h.2.1
    simp only [cellsM, List.flatMap_cons]
    rcases den_cons.1 hd with q | q
    · rw [List.getElem?_append_left (by rw [xcs_len]; have := q.1; have := q.2.1; omega), q.2.2, ← hb]
      exact xcs_at h.1 q.1 q.2.1
    · have hg := den_ge h.2.2.2 q
      rw [List.getElem?_append_right (by rw [xcs_len]; omega), xcs_len]
      have := cellsM_den h.2.2.2 q
      rw [show (k - s).toNat - x.len.toNat = (k - (s + x.len)).toNat by omega]
      exact this
theorem den_ck {x : Ex} (h : Ck x) {k : Int} (h1 : x.lba ≤ k) (h2 : k < x.lba + x.len) : blk (cb (bAt x k)) = bAt x k ∧ CkC (cb (bAt x k)) := by
  have hc := h
  unfold Ck at hc
  have hl : x.kind = 2 → ((x.d.drop (32 * (k - x.lba)).toNat).take 32).length = 32 := fun hk => by
    have := ck_d2 h hk
    rw [List.length_take, List.length_drop]; omega
  constructor
  · have e : blk (cb (bAt x k)) = (x.kind, x.gen, if x.kind = 2 then pad 32 (pad 32 ((x.d.drop (32 * (k - x.lba)).toNat).take 32)) else []) := rfl
    rw [e]
    by_cases hk : x.kind = 2
    · rw [if_pos hk, pad_pad, pad_of (hl hk)]; rfl
    · rw [if_neg hk]; unfold bAt; rw [ck_d0 h hk]; simp
  · refine ⟨by simp only [cb, bAt]; omega, by simp only [cb, bAt]; omega, by simp only [cb, bAt]; omega, by simp only [cb, bAt]; omega, fun hk => ?_⟩
    have hk : x.kind ≠ 2 := hk
    simp only [cb, bAt, ck_d0 h hk, List.drop_nil, List.take_nil, pad_nil, pad_rep]
theorem ce_get {l : List Ce} {i : Nat} {c : Ce} (h : l[i]? = some c) : i < l.length ∧ ceAt l i = c := by
  obtain ⟨g, e⟩ := List.getElem?_eq_some_iff.1 h
  exact ⟨g, by unfold ceAt; simp [g, e]⟩
theorem get_ce {l : List Ce} {i : Nat} (h : i < l.length) : l[i]? = some (ceAt l i) := by
  unfold ceAt; simp [h]
/-- A map's holdings, block by block. -/
theorem mk_get {blocks : Int} {m : List Ex} (h : Mk blocks m) {i : Nat} (hi : (i : Int) < blocks) : ∃ x ∈ m, Ck x ∧ x.lba ≤ i ∧ (i : Int) < x.lba + x.len ∧ Den m i (bAt x i) ∧ (cellsM m)[i]? = some (cb (bAt x i)) := by
  have hc := mk_ch h
  obtain ⟨x, hx, h1, h2⟩ := ch_cov hc (k := i) (by omega) (by rw [h.2.2]; omega)
  have hd : Den m i (bAt x i) := ⟨x, hx, h1, h2, rfl⟩
  have := cellsM_den hc hd
  rw [Int.sub_zero, Int.toNat_natCast] at this
  exact ⟨x, hx, (ch_ck hc x hx).1, h1, h2, hd, this⟩
theorem cellsM_mk {blocks : Int} {m : List Ex} (h : Mk blocks m) : CkI (cellsM m) ∧ ((cellsM m).length : Int) = blocks ∧ ∀ c ∈ cellsM m, c.d.length = 32 := by
  have hl : ((cellsM m).length : Int) = blocks := (cellsM_len (mk_ch h)).trans h.2.2
  have hb := mk_blocks h
  have key : ∀ c ∈ cellsM m, CkC c ∧ c.d.length = 32 := by
    intro c hc
    obtain ⟨i, hi, e⟩ := List.getElem_of_mem hc
    obtain ⟨x, hx, k1, k2, k3, k4, k5⟩ := mk_get h (i := i) (by omega)
    rw [List.getElem?_eq_getElem hi, e] at k5
    injection k5 with k5
    subst k5
    exact ⟨(den_ck k1 k2 k3).2, by simp only [cb, pad_len]⟩
  exact ⟨⟨by omega, by omega, fun c hc => (key c hc).1⟩, hl, fun c hc => (key c hc).2⟩
theorem mk_den_iff {blocks : Int} {m : List Ex} (h : Mk blocks m) {k : Int} {c : Int × Int × List UInt8} : Den m k c ↔ ∃ i : Nat, i < (cellsM m).length ∧ k = i ∧ c = blk (ceAt (cellsM m) i) := by
  obtain ⟨h1, h2, h3⟩ := cellsM_mk h
  constructor
  · rintro hd
    have h0 := den_ge (mk_ch h) hd
    have he : k < blocks := by
      obtain ⟨x, hx, q⟩ := hd
      have := ch_end (mk_ch h) x hx
      rw [h.2.2] at this
      have := q.2.1; omega
    obtain ⟨x, hx, k1, k2, k3, k4, k5⟩ := mk_get h (i := k.toNat) (by omega)
    obtain ⟨g, e⟩ := ce_get k5
    refine ⟨k.toNat, g, by omega, ?_⟩
    rw [e, (den_ck k1 k2 k3).1]
    rw [show ((k.toNat : Nat) : Int) = k by omega] at k4 ⊢
    exact ch_fun (mk_ch h) hd k4
  · rintro ⟨i, hi, rfl, rfl⟩
    obtain ⟨x, hx, k1, k2, k3, k4, k5⟩ := mk_get h (i := i) (by omega)
    rw [(ce_get k5).2, (den_ck k1 k2 k3).1]
    exact k4
/-- The map of a map's blocks is that map. -/
theorem mapOf_cells {blocks : Int} {m : List Ex} (h : Mk blocks m) : mapOf (cellsM m) = m := by
  obtain ⟨h1, h2, h3⟩ := cellsM_mk h
  have hm := mapOf_mk h1
  rw [h2] at hm
  exact mk_uniq hm h fun k c => by rw [mapOf_den, mk_den_iff h]
/-- The blocks of blocks' map are these. -/
theorem cells_mapOf {l : List Ce} (h : CkI l) (hc : ∀ c ∈ l, c.d.length = 32) : cellsM (mapOf l) = l := by
  have hm := mapOf_mk h
  obtain ⟨h1, h2, h3⟩ := cellsM_mk hm
  refine List.ext_getElem? fun i => ?_
  by_cases hi : i < l.length
  · have hd : Den (mapOf l) i (blk (ceAt l i)) := mapOf_den.2 ⟨i, hi, rfl, rfl⟩
    have := cellsM_den (mk_ch hm) hd
    rw [Int.sub_zero, Int.toNat_natCast] at this
    rw [this, get_ce hi]
    have c1 := (ceAt_all l CkC).2 h.2.2 i hi
    have c2 := (ceAt_all l (fun c => c.d.length = 32)).2 hc i hi
    generalize ceAt l i = c at c1 c2 ⊢
    obtain ⟨k, g, d⟩ := c
    unfold CkC at c1
    have e : cb (blk ⟨k, g, d⟩) = ⟨k, g, pad 32 (if k = 2 then pad 32 d else [])⟩ := rfl
    rw [e]
    simp only at c1 c2
    congr 2
    by_cases hk : k = 2
    · rw [if_pos hk, pad_pad, pad_of c2]
    · rw [if_neg hk]
      have := c1.2.2.2.2 hk
      rw [pad_of c2] at this
      rw [this, pad_nil]
  · rw [List.getElem?_eq_none (by omega), List.getElem?_eq_none (by omega)]
end Ab
end Go.Proofs.Ytadipihpgcelmaa
namespace Go.Proofs.Ytadipihpgcelmaa
open Go Go.Proofs.Ytadipihpgcelmaa.Ab
set_option linter.unusedVariables false
set_option linter.unusedSimpArgs false
namespace Ab
theorem u8z : UInt8.ofNat 0 = 0 := rfl
theorem ceAt_one (c : Ce) : ceAt [c] 0 = c := rfl
theorem tb_lb {α : Type} (a b : List UInt8) (x y : Option α) : tb (a == b) x y = if a = b then x else y := by
  by_cases h : a = b
  · rw [if_pos h]; exact tb_pos (beq_iff_eq.2 h)
  · rw [if_neg h]; exact tb_neg (beq_eq_false_iff_ne.2 h)
theorem iWithin_eq (n lo hi : Int) : iWithin n lo hi = some (decide (lo ≤ n ∧ n ≤ hi)) := by
  unfold iWithin
  rw [tb_dec]
  by_cases h : n ≥ lo
  · rw [if_pos h]; congr 1; exact decide_eq_decide.2 ⟨fun q => ⟨h, q⟩, fun q => q.2⟩
  · rw [if_neg h]; congr 1; symm; rw [decide_eq_false_iff_not]; exact fun q => h q.1
theorem key_i (c : Ce) {α : Type} (x y : Option α) : (if 0 ≤ c.kind ∧ c.kind ≤ 2 then (if 0 ≤ c.gen ∧ c.gen ≤ 2147483647 then (if c.kind = 2 then x else if pad 32 c.d = List.replicate 32 0 then x else y) else y) else y) = if CkC c then x else y := by
  by_cases h1 : 0 ≤ c.kind ∧ c.kind ≤ 2
  case neg => rw [if_neg h1, if_neg fun q : CkC c => h1 ⟨q.1, q.2.1⟩]
  by_cases h2 : 0 ≤ c.gen ∧ c.gen ≤ 2147483647
  case neg => rw [if_pos h1, if_neg h2, if_neg fun q : CkC c => h2 ⟨q.2.2.1, q.2.2.2.1⟩]
  rw [if_pos h1, if_pos h2]
  by_cases h3 : c.kind = 2
  · rw [if_pos h3, if_pos (show CkC c from ⟨h1.1, h1.2, h2.1, h2.2, fun q => absurd h3 q⟩)]
  rw [if_neg h3]
  by_cases h4 : pad 32 c.d = List.replicate 32 0
  · rw [if_pos h4, if_pos (show CkC c from ⟨h1.1, h1.2, h2.1, h2.2, fun _ => h4⟩)]
  · rw [if_neg h4, if_neg fun q : CkC c => h4 (q.2.2.2.2 h3)]
theorem iCheck_eq (l : List Ce) (hl : l.length ≤ 4294967296) : iCheck l = some (decide (CkI l)) := by
  unfold iCheck
  rw [iWithin_eq, tc_some, tb_dec]
  by_cases h1 : (1 : Int) ≤ l.length ∧ (l.length : Int) ≤ 64
  case neg => rw [if_neg h1]; congr 1; symm; rw [decide_eq_false_iff_not]; rintro ⟨q1, q2, _⟩; exact h1 (by omega)
  rw [if_pos h1]
  rw [th_all (some false) (some true) l.length (fun i => CkC (ceAt l i)) (∀ c ∈ l, CkC c) (ceAt_all l CkC)]
  · by_cases h : ∀ c ∈ l, CkC c
    · rw [if_pos h]; congr 1; symm; rw [decide_eq_true_iff]; exact ⟨by omega, by omega, h⟩
    · rw [if_neg h]; congr 1; symm; rw [decide_eq_false_iff_not]; exact fun q => h q.2.2
  · intro i hi hp
    unfold iCheck_L0_step
    simp only [iWithin_eq, tc_some, tb_not, tb_dec, tb_bne, tb_lb, u8z, ceAt_one, Int.toNat_natCast]
    rw [if_pos (by omega), tp_pos (by omega), key_i, if_pos hp, wr_id (by omega) (by omega)]
  · intro i hi hp
    unfold iCheck_L0_step
    simp only [iWithin_eq, tc_some, tb_not, tb_dec, tb_bne, tb_lb, u8z, ceAt_one, Int.toNat_natCast]
    refine ⟨by rw [if_pos (by omega), tp_pos (by omega), key_i, if_neg hp], ?_⟩
    rw [if_pos (by omega), tp_pos (by omega), key_i, if_neg hp, decide_eq_true (by omega)]; rfl
  · unfold iCheck_L0_step
    simp only [tb_dec]
    rw [if_neg (by omega), if_neg (by omega)]
    exact ⟨rfl, rfl⟩
/-- A block with just as many bytes as one has. -/
def cn (c : Ce) : Ce := ⟨c.kind, c.gen, pad 32 c.d⟩
def Cn (l : List Ce) : Prop := ∀ c ∈ l, c.d.length = 32
theorem all_eq {α β : Type} (d : α) (f : α → β) (a b : List α) (h : a.length = b.length) : (∀ i, i < a.length → f (a.getD i d) = f (b.getD i d)) ↔ a.map f = b.map f := by
  constructor
  · intro g
    refine List.ext_getElem (by simp [h]) fun i h1 h2 => ?_
    simp only [List.length_map] at h1 h2
    have := g i h1
    simp only [List.getElem_map]
    simpa [h1, h2] using this
  · intro g i hi
    have : (a.map f)[i]? = (b.map f)[i]? := by rw [g]
    rw [List.getElem?_map, List.getElem?_map, List.getElem?_eq_getElem hi, List.getElem?_eq_getElem (by omega)] at this
    simp only [Option.map_some, Option.some.injEq] at this
    simp only [List.getD_eq_getElem?_getD, List.getElem?_eq_getElem hi, List.getElem?_eq_getElem (show i < b.length by omega), Option.getD_some]
    exact this
theorem same_c (a b : Ce) {α : Type} (x y : Option α) : tb (a.kind == b.kind && (a.gen == b.gen && (pad 32 a.d == pad 32 b.d))) x y = if cn a = cn b then x else y := by
  by_cases h : cn a = cn b
  · rw [if_pos h]
    simp only [cn, Ce.mk.injEq] at h
    rw [h.1, h.2.1, h.2.2]; simp
  · rw [if_neg h]
    refine tb_neg ?_
    simp only [cn, Ce.mk.injEq] at h
    simp only [Bool.and_eq_false_iff, beq_eq_false_iff_ne, ne_eq]
    by_cases h1 : a.kind = b.kind
    · by_cases h2 : a.gen = b.gen
      · exact .inr (.inr fun h3 => h ⟨h1, h2, h3⟩)
      · exact .inr (.inl h2)
    · exact .inl h1
theorem r9Same_eq0 (a b : List Ce) (ha : a.length ≤ 4294967296) : r9Same a b = some (decide (a.map cn = b.map cn)) := by
  unfold r9Same
  rw [tb_bne]
  by_cases hl : (a.length : Int) = b.length
  case neg =>
    rw [if_neg hl]; congr 1; symm; rw [decide_eq_false_iff_not]
    intro h
    have := congrArg List.length h
    simp only [List.length_map] at this; omega
  rw [if_pos hl]
  have hl2 : a.length = b.length := by omega
  rw [th_all (some false) (some true) a.length (fun i => cn (ceAt a i) = cn (ceAt b i)) (a.map cn = b.map cn) (all_eq _ cn a b hl2)]
  · by_cases h : a.map cn = b.map cn
    · rw [if_pos h, decide_eq_true h]
    · rw [if_neg h, decide_eq_false h]
  · intro i hi hp
    unfold r9Same_L0_step
    simp only [tb_dec, tb_not, same_c, Int.toNat_natCast]
    rw [if_pos (by omega), tp_pos (by omega), tp_pos (by omega), if_pos hp, wr_id (by omega) (by omega)]
  · intro i hi hp
    unfold r9Same_L0_step
    simp only [tb_dec, tb_not, same_c, Int.toNat_natCast]
    refine ⟨by rw [if_pos (by omega), tp_pos (by omega), tp_pos (by omega), if_neg hp], ?_⟩
    rw [if_pos (by omega), tp_pos (by omega), if_neg hp]
  · unfold r9Same_L0_step
    simp only [tb_dec]
    rw [if_neg (by omega), if_neg (by omega)]
    exact ⟨rfl, rfl⟩
/-- Are so many blocks there? -/
def Fits (l : List Ce) (lba n : Int) : Prop := 0 ≤ lba ∧ lba ≤ l.length ∧ 1 ≤ n ∧ n ≤ l.length - lba
instance (l : List Ce) (lba n : Int) : Decidable (Fits l lba n) := by unfold Fits; infer_instance
end Ab
end Go.Proofs.Ytadipihpgcelmaa
namespace Go.Proofs.Ytadipihpgcelmaa
open Go Go.Proofs.Ytadipihpgcelmaa.Ab
set_option linter.unusedVariables false
set_option linter.unusedSimpArgs false
set_option maxRecDepth 1000000
namespace Ab
noncomputable abbrev iOf_L1_I (blocks : Int) (l : List Ex) (s0 : Bool) (s2 : List Ce × Int) (s5 : List UInt8) : St := (St.mk [(0, (AV.i blocks)), (1, (AV.sl (List.length l) (List.flatMap Ex.cells l))), (4, (AV.rf 0 34 0 (List.length s2.1))), (5, (AV.i 0)), (12, (AV.b (!s0))), (13, (AV.sl (List.length l) (List.flatMap Ex.cells l))), (14, (AV.i (↑(List.length l) : Int))), (15, (AV.i s2.2)), (16, (AV.b (decide (s2.2 < (↑(List.length l) : Int))))), (17, (AV.ip (List.drop ((Int.toNat s2.2) * (5 : Nat)) (List.flatMap Ex.cells l)))), (18, (AV.ag (xc (exAt l (Int.toNat s2.2))))), (7, (AV.pt 1 0)), (19, (AV.ag (xc (exAt l (Int.toNat s2.2))))), (20, (AV.sl (List.length s5) (List.map AV.y s5))), (8, (AV.sl (List.length s5) (List.map AV.y s5)))] 40 (AH.mk 2 [(1, (AObj.cells (xc (exAt l (Int.toNat s2.2))))), (0, (AObj.cells (List.flatMap Ce.cells s2.1)))]) Bool.false)
noncomputable abbrev iOf_L1_S (blocks : Int) (l : List Ex) (s0 : Bool) (s2 : List Ce × Int) (s5 : List UInt8) (s6 : List Ce × List UInt8) : St := (St.mk [(0, (AV.i blocks)), (1, (AV.sl (List.length l) (List.flatMap Ex.cells l))), (4, (AV.rf 2 34 0 (List.length s6.1))), (5, (AV.i 0)), (12, (AV.b (!s0))), (13, (AV.sl (List.length l) (List.flatMap Ex.cells l))), (14, (AV.i (↑(List.length l) : Int))), (15, (AV.i s2.2)), (16, (AV.b (decide (s2.2 < (↑(List.length l) : Int))))), (7, (AV.pt 1 0)), (8, (bys s6.2))] 40 (AH.mk 3 [(1, (AObj.cells (xc (exAt l (Int.toNat s2.2))))), (2, (AObj.cells (List.flatMap Ce.cells s6.1)))]) Bool.false)
noncomputable def iOf_L1_step (blocks : Int) (l : List Ex) (s0 : Bool) (s2 : List Ce × Int) (s5 : List UInt8) (s6 : List Ce × List UInt8) : Option (List Ce × List UInt8) :=
 (tb ((decide ((↑(List.length s6.2) : Int) > (0 : Int))))
  (tp ((((0 : Nat) ≤ (32 : Nat)) ∧ (((32 : Nat) ≤ (List.length s6.2)) ∧ ((List.length (List.map AV.y s6.2)) = ((List.length s6.2) * (1 : Nat))))))
   (tp ((((List.length (List.flatMap Ce.cells s6.1)) = ((List.length s6.1) * (34 : Nat))) ∧ (((List.length s6.1) + (1 : Nat)) ≤ (4294967296 : Nat))))
    (some (((s6.1 ++ [(Ce.mk (exAt l (Int.toNat s2.2)).kind (exAt l (Int.toNat s2.2)).gen (pad 32 s6.2))]), (List.take (((List.length s6.2) - (32 : Nat)) * (1 : Nat)) (List.drop 32 s6.2)))))))
  none /- exit -/)
theorem iOf_L1_s0 (blocks : Int) (l : List Ex) (s0 : Bool) (s2 : List Ce × Int) (s5 : List UInt8) (s6 : List Ce × List UInt8) (h7 : ((decide ((↑(List.length s6.2) : Int) > (0 : Int)))) = true) (h7p : ((↑(List.length s6.2) : Int) > (0 : Int))) (h8 : (((0 : Nat) ≤ (32 : Nat)) ∧ (((32 : Nat) ≤ (List.length s6.2)) ∧ ((List.length (List.map AV.y s6.2)) = ((List.length s6.2) * (1 : Nat)))))) (h9 : (((List.length (List.flatMap Ce.cells s6.1)) = ((List.length s6.1) * (34 : Nat))) ∧ (((List.length s6.1) + (1 : Nat)) ≤ (4294967296 : Nat)))) : EvStep Try.prog cf 2 (lp Try.prog 11 1) (iOf_L1_S blocks l s0 s2 s5 s6) (iOf_L1_S blocks l s0 s2 s5 (((s6.1 ++ [(Ce.mk (exAt l (Int.toNat s2.2)).kind (exAt l (Int.toNat s2.2)).gen (pad 32 s6.2))]), (List.take (((List.length s6.2) - (32 : Nat)) * (1 : Nat)) (List.drop 32 s6.2))))) :=
  leafS vw_eq (k := 300) (r := []) (hs := hz [(3, [.yes]), (9, [.yes]), (1, [.yes, .cells ((List.map AV.y (pad 32 s6.2))), .yes]), (1, [.cells (((AV.i (exAt l (Int.toNat s2.2)).kind) :: (AV.i (exAt l (Int.toNat s2.2)).gen) :: (List.map AV.y (pad 32 s6.2)))), .yes]), (1, [.cells (((AV.i (exAt l (Int.toNat s2.2)).kind) :: (AV.i (exAt l (Int.toNat s2.2)).gen) :: (List.map AV.y (pad 32 s6.2)))), .yes, .yes]), (1, [.yes]), (2, [.yes]), (1, [])]) (st1 := (St.mk [(0, (AV.i blocks)), (1, (AV.sl (List.length l) (List.flatMap Ex.cells l))), (4, (AV.rf 4 34 0 ((List.length s6.1) + (1 : Nat)))), (5, (AV.i 0)), (12, (AV.b (!s0))), (13, (AV.sl (List.length l) (List.flatMap Ex.cells l))), (14, (AV.i (↑(List.length l) : Int))), (15, (AV.i s2.2)), (16, (AV.b (decide (s2.2 < (↑(List.length l) : Int))))), (7, (AV.pt 1 0)), (8, (AV.sl ((List.length s6.2) - (32 : Nat)) (List.take (((List.length s6.2) - (32 : Nat)) * (1 : Nat)) (List.drop 32 (List.map AV.y s6.2))))), (21, (AV.sl (List.length s6.2) (List.map AV.y s6.2))), (22, (AV.i (↑(List.length s6.2) : Int))), (23, (AV.b (decide ((↑(List.length s6.2) : Int) > (0 : Int))))), (26, (AV.rf 2 34 0 (List.length s6.1))), (27, (AV.pt 1 2)), (28, (AV.i (exAt l (Int.toNat s2.2)).kind)), (29, (AV.pt 1 3)), (30, (AV.i (exAt l (Int.toNat s2.2)).gen)), (31, (AV.sl (List.length s6.2) (List.map AV.y s6.2))), (32, (AV.sl 32 (List.take 32 (List.map AV.y s6.2)))), (33, (AV.ip (List.take 32 (List.map AV.y s6.2)))), (34, (AV.ag (List.map AV.y (pad 32 s6.2)))), (35, (AV.ag ((AV.i (exAt l (Int.toNat s2.2)).kind) :: (AV.i (exAt l (Int.toNat s2.2)).gen) :: (List.map AV.y (pad 32 s6.2))))), (36, (AV.rf 3 34 0 1)), (37, (AV.rf 4 34 0 ((List.length s6.1) + (1 : Nat)))), (24, (AV.sl (List.length s6.2) (List.map AV.y s6.2))), (25, (AV.sl ((List.length s6.2) - (32 : Nat)) (List.take (((List.length s6.2) - (32 : Nat)) * (1 : Nat)) (List.drop 32 (List.map AV.y s6.2)))))] 40 (AH.mk 5 [(4, (AObj.cells ((List.flatMap Ce.cells s6.1) ++ ((AV.i (exAt l (Int.toNat s2.2)).kind) :: (AV.i (exAt l (Int.toNat s2.2)).gen) :: (List.map AV.y (pad 32 s6.2)))))), (3, (AObj.cells ((AV.i (exAt l (Int.toNat s2.2)).kind) :: (AV.i (exAt l (Int.toNat s2.2)).gen) :: (List.map AV.y (pad 32 s6.2))))), (1, (AObj.cells (xc (exAt l (Int.toNat s2.2))))), (2, AObj.dead)]) Bool.false)) (ps := [((decide ((↑(List.length s6.2) : Int) > (0 : Int)))) = true, (((0 : Nat) ≤ (32 : Nat)) ∧ (((32 : Nat) ≤ (List.length s6.2)) ∧ ((List.length (List.map AV.y s6.2)) = ((List.length s6.2) * (1 : Nat))))), ((32 : Nat) ≤ (List.length (List.take 32 (List.map AV.y s6.2)))), (List.take 32 (List.take 32 (List.map AV.y s6.2))) = (List.map AV.y (pad 32 s6.2)), (((List.length (List.map AV.y (pad 32 s6.2))) = (32 : Nat)) ∧ (((2 : Nat) + (List.length (List.map AV.y (pad 32 s6.2)))) ≤ (List.length (List.set (List.set ((AV.i (Int.ofNat 0)) :: (AV.i (Int.ofNat 0)) :: List.replicate (32 : Nat) (AV.y (UInt8.ofNat (0 : Nat)))) 0 (AV.i (exAt l (Int.toNat s2.2)).kind)) 1 (AV.i (exAt l (Int.toNat s2.2)).gen))))), (((AV.i (exAt l (Int.toNat s2.2)).kind) :: (AV.i (exAt l (Int.toNat s2.2)).gen) :: (List.map AV.y (pad 32 s6.2))) : List AV) = ((AV.i (exAt l (Int.toNat s2.2)).kind) :: (AV.i (exAt l (Int.toNat s2.2)).gen) :: (List.map AV.y (pad 32 s6.2))), (((List.length ((AV.i (exAt l (Int.toNat s2.2)).kind) :: (AV.i (exAt l (Int.toNat s2.2)).gen) :: (List.map AV.y (pad 32 s6.2)))) = (34 : Nat)) ∧ (((0 : Nat) + (List.length ((AV.i (exAt l (Int.toNat s2.2)).kind) :: (AV.i (exAt l (Int.toNat s2.2)).gen) :: (List.map AV.y (pad 32 s6.2))))) ≤ (34 : Nat))), (((AV.i (exAt l (Int.toNat s2.2)).kind) :: (AV.i (exAt l (Int.toNat s2.2)).gen) :: (List.map AV.y (pad 32 s6.2))) : List AV) = ((AV.i (exAt l (Int.toNat s2.2)).kind) :: (AV.i (exAt l (Int.toNat s2.2)).gen) :: (List.map AV.y (pad 32 s6.2))), (((0 : Nat) = (0 : Nat)) ∧ ((List.length ((AV.i (exAt l (Int.toNat s2.2)).kind) :: (AV.i (exAt l (Int.toNat s2.2)).gen) :: (List.map AV.y (pad 32 s6.2)))) = (34 : Nat))), (((List.length (List.flatMap Ce.cells s6.1)) = ((List.length s6.1) * (34 : Nat))) ∧ (((List.length s6.1) + (1 : Nat)) ≤ (4294967296 : Nat))), orderOk (rg Try.prog 11 0) = true ∧ allOk (Region.before (rg Try.prog 11 0)) [] 0 [(some [], some []), (some [], some []), (some [1], some []), (some [], some []), (some [1], some []), (some [], some []), (some [], some []), (some [], some []), (some [], some []), (some [], some []), (some [], some [3]), (some [2, 3], some [2, 4]), (some [], some [])] = true, (((32 : Nat) ≤ (List.length s6.2)) ∧ (((List.length s6.2) ≤ (List.length s6.2)) ∧ ((List.length (List.map AV.y s6.2)) = ((List.length s6.2) * (1 : Nat)))))]) kq ⟨h7, h8, fq, (pad_takeC (x := s6.2) tq bq), tq, rfl, tq, rfl, tq, h9, (ord_of ord_11_0 bef_11_0 kq), fq, trivial⟩ (Nat.le_of_ble_eq_true rfl) (absB_of [4] [] kq (.consn kq (.eqv tq rfl) (.consn kq (.eqv tq rfl) (.consn kq (.rfn (n := ((List.length s6.1) + (1 : Nat))) rfl tq) (.consn kq (.eqv tq rfl) (.consn kq (.eqv tq rfl) (.consn kq (.eqv tq rfl) (.consn kq (.eqv tq rfl) (.consn kq (.eqv tq rfl) (.consn kq (.eqv tq rfl) (.consn kq (.pt rfl) (.consn (x := (AV.sl ((List.length s6.2) - (32 : Nat)) (List.take (((List.length s6.2) - (32 : Nat)) * (1 : Nat)) (List.drop 32 (List.map AV.y s6.2))))) kq (.eqv tq rfl) .nil))))))))))) (.cons (.old rfl rfl (.cells (.cons (.eqv tq rfl) (.cons (.eqv tq rfl) (.cons (.eqv tq rfl) (.cons (.eqv tq rfl) (.cons (.eqv tq rfl) .nil))))))) (.cons (.old rfl rfl (.cells (.pl tq pq))) .nil)))
theorem iOf_L1_ok (blocks : Int) (l : List Ex) (s0 : Bool) (s2 : List Ce × Int) (s5 : List UInt8) (s6 zz : List Ce × List UInt8) : iOf_L1_step blocks l s0 s2 s5 s6 = some zz → EvStep Try.prog cf 2 (lp Try.prog 11 1) (iOf_L1_S blocks l s0 s2 s5 s6) (iOf_L1_S blocks l s0 s2 s5 zz) := by
  unfold iOf_L1_step
  refine tb_ok (fun h7 => ?_) (fun h7 => ?_)
  ·
    have h7p := of_decide_eq_true h7
    refine tp_ok (fun h8 => ?_)
    refine tp_ok (fun h9 => ?_)
    exact fun e => tl_ok (G := (fun zz => EvStep Try.prog cf 2 (lp Try.prog 11 1) (iOf_L1_S blocks l s0 s2 s5 s6) (iOf_L1_S blocks l s0 s2 s5 zz))) (iOf_L1_s0 blocks l s0 s2 s5 s6 h7 h7p h8 h9) e
  ·
    have h7p := of_decide_eq_false h7
    exact fun e => nomatch e
noncomputable abbrev iOf_L0_I (blocks : Int) (l : List Ex) (s0 : Bool) : St := (St.mk [(0, (AV.i blocks)), (1, (AV.sl (List.length l) (List.flatMap Ex.cells l))), (4, AV.nl), (5, (AV.i 0)), (9, (AV.i blocks)), (10, (AV.sl (List.length l) (List.flatMap Ex.cells l))), (11, (AV.b s0)), (12, (AV.b (!s0))), (13, (AV.sl (List.length l) (List.flatMap Ex.cells l))), (14, (AV.i (↑(List.length l) : Int))), (15, (AV.i 0))] 40 (AH.mk 0 ([] : List (Prod Nat AObj))) Bool.false)
noncomputable abbrev iOf_L0_S (blocks : Int) (l : List Ex) (s0 : Bool) (s2 : List Ce × Int) : St := (St.mk [(0, (AV.i blocks)), (1, (AV.sl (List.length l) (List.flatMap Ex.cells l))), (4, (AV.rf 0 34 0 (List.length s2.1))), (5, (AV.i 0)), (12, (AV.b (!s0))), (13, (AV.sl (List.length l) (List.flatMap Ex.cells l))), (14, (AV.i (↑(List.length l) : Int))), (15, (AV.i s2.2))] 40 (AH.mk 1 [(0, (AObj.cells (List.flatMap Ce.cells s2.1)))]) Bool.false)
noncomputable def iOf_L0_step (blocks : Int) (l : List Ex) (s0 : Bool) (s2 : List Ce × Int) : Option (List Ce × Int) :=
 (tb ((decide (s2.2 < (↑(List.length l) : Int))))
  (tp ((((0 : Int) ≤ s2.2) ∧ (s2.2 < (↑(List.length l) : Int))))
   (tc (eBytes ((exAt l (Int.toNat s2.2)))) fun s5 =>
    (th (iOf_L1_step blocks l s0 s2 s5) ((s2.1, s5)) fun s6 =>
     (tb ((decide ((↑(List.length s6.2) : Int) > (0 : Int))))
      none /- stop behind an operation -/
      (some ((s6.1, (wr (s2.2 + (1 : Int))))))))))
  none /- exit -/)
theorem iOf_L0_s0 (blocks : Int) (l : List Ex) (s0 : Bool) (s2 : List Ce × Int) (h3 : ((decide (s2.2 < (↑(List.length l) : Int)))) = true) (h3p : (s2.2 < (↑(List.length l) : Int))) (h4 : (((0 : Int) ≤ s2.2) ∧ (s2.2 < (↑(List.length l) : Int)))) (s5 : List UInt8) (h5 : eBytes ((exAt l (Int.toNat s2.2))) = some s5) (s6 : List Ce × List UInt8) (h6 : Runs (iOf_L1_step blocks l s0 s2 s5) ((s2.1, s5)) s6) (h7 : ((decide ((↑(List.length s6.2) : Int) > (0 : Int)))) = false) (h7p : ¬ ((↑(List.length s6.2) : Int) > (0 : Int))) : EvStep Try.prog cf 0 (lp Try.prog 11 0) (iOf_L0_S blocks l s0 s2) (iOf_L0_S blocks l s0 ((s6.1, (wr (s2.2 + (1 : Int)))))) :=
  leafS vw_eq (k := 300) (r := []) (hs := hz [(1, [.yes, .yes, .yes, .cells ((Ex.cells (exAt l (Int.toNat s2.2))))]), (2, [.cells ((xc (exAt l (Int.toNat s2.2))))]), (1, [.cells ((xc (exAt l (Int.toNat s2.2))))]), (1, [.fres (bys (s5))]), (1, [.head (iOf_L1_S blocks l s0 s2 s5 s6)]), (3, [.no]), (2, [])]) (st1 := (St.mk [(0, (AV.i blocks)), (1, (AV.sl (List.length l) (List.flatMap Ex.cells l))), (4, (AV.rf 2 34 0 (List.length s6.1))), (5, (AV.i 0)), (12, (AV.b (!s0))), (13, (AV.sl (List.length l) (List.flatMap Ex.cells l))), (14, (AV.i (↑(List.length l) : Int))), (15, (AV.i (wr (s2.2 + (1 : Int))))), (16, (AV.b (decide (s2.2 < (↑(List.length l) : Int))))), (7, (AV.pt 1 0)), (8, (AV.sl (List.length s6.2) (List.map AV.y s6.2))), (21, (AV.sl (List.length s6.2) (List.map AV.y s6.2))), (22, (AV.i (↑(List.length s6.2) : Int))), (23, (AV.b (decide ((↑(List.length s6.2) : Int) > (0 : Int))))), (38, (AV.i (wr (s2.2 + (1 : Int)))))] 40 (AH.mk 3 [(1, (AObj.cells (xc (exAt l (Int.toNat s2.2))))), (2, (AObj.cells (List.flatMap Ce.cells s6.1)))]) Bool.false)) (ps := [((decide (s2.2 < (↑(List.length l) : Int)))) = true, (((0 : Int) ≤ s2.2) ∧ (s2.2 < (↑(List.length l) : Int))), ((5 : Nat) ≤ (List.length (List.drop ((Int.toNat s2.2) * (5 : Nat)) (List.flatMap Ex.cells l)))), (List.take 5 (List.drop ((Int.toNat s2.2) * (5 : Nat)) (List.flatMap Ex.cells l))) = (Ex.cells (exAt l (Int.toNat s2.2))), ((xc (exAt l (Int.toNat s2.2))) : List AV) = (xc (exAt l (Int.toNat s2.2))), ((xc (exAt l (Int.toNat s2.2))) : List AV) = (xc (exAt l (Int.toNat s2.2))), EvFr Try.prog cf Bool.false 29 [(AV.ag (xc (exAt l (Int.toNat s2.2))))] (bys (s5)), EvHead Try.prog cf (lp Try.prog 11 1) (iOf_L1_I blocks l s0 s2 s5) (iOf_L1_S blocks l s0 s2 s5 s6), ((decide ((↑(List.length s6.2) : Int) > (0 : Int)))) = false]) kq ⟨h3, h4, fq, (by first | exact ex_take _ _ bq | (simpa using ex_take (l) ((Int.toNat s2.2)) bq) | ((try simp only [List.drop_drop]); rw [show ((Int.toNat s2.2) * (5 : Nat)) = ((Int.toNat s2.2)) * 5 by omega]; exact ex_take _ _ bq)), rfl, rfl, ((eBytes_ok ((exAt l (Int.toNat s2.2))) _ h5).any.cast tq), (EvHead.of (iOf_L1_ok blocks l s0 s2 s5) (absB_of [0] [] kq (.consn kq (.eqv tq rfl) (.consn kq (.eqv tq rfl) (.consn kq (.rfn (n := (List.length s2.1)) rfl tq) (.consn kq (.eqv tq rfl) (.consn kq (.eqv tq rfl) (.consn kq (.eqv tq rfl) (.consn kq (.eqv tq rfl) (.consn kq (.eqv tq rfl) (.consn kq (.eqv tq rfl) (.consn kq (.pt rfl) (.consn (x := (AV.sl (List.length s5) (List.map AV.y s5))) kq (.eqv tq rfl) .nil))))))))))) (.cons (.old rfl rfl (.cells (.cons (.eqv tq rfl) (.cons (.eqv tq rfl) (.cons (.eqv tq rfl) (.cons (.eqv tq rfl) (.cons (.eqv tq rfl) .nil))))))) (.cons (.old rfl rfl (.cells (.pl tq pq))) .nil))) h6), h7, trivial⟩ (Nat.le_of_ble_eq_true rfl) (absB_of [2] [] kq (.consn kq (.eqv tq rfl) (.consn kq (.eqv tq rfl) (.consn kq (.rfn (n := (List.length s6.1)) rfl tq) (.consn kq (.eqv tq rfl) (.consn kq (.eqv tq rfl) (.consn kq (.eqv tq rfl) (.consn kq (.eqv tq rfl) (.consn kq (.eqv tq rfl) .nil)))))))) (.cons (.old rfl rfl (.cells (.pl tq pq))) .nil))
theorem iOf_L0_ok (blocks : Int) (l : List Ex) (s0 : Bool) (s2 zz : List Ce × Int) : iOf_L0_step blocks l s0 s2 = some zz → EvStep Try.prog cf 0 (lp Try.prog 11 0) (iOf_L0_S blocks l s0 s2) (iOf_L0_S blocks l s0 zz) := by
  unfold iOf_L0_step
  refine tb_ok (fun h3 => ?_) (fun h3 => ?_)
  ·
    have h3p := of_decide_eq_true h3
    refine tp_ok (fun h4 => ?_)
    refine tc_ok (fun s5 h5 => ?_)
    refine th_ok (fun s6 h6 => ?_)
    refine tb_ok (fun h7 => ?_) (fun h7 => ?_)
    ·
      have h7p := of_decide_eq_true h7
      exact fun e => nomatch e
    ·
      have h7p := of_decide_eq_false h7
      exact fun e => tl_ok (G := (fun zz => EvStep Try.prog cf 0 (lp Try.prog 11 0) (iOf_L0_S blocks l s0 s2) (iOf_L0_S blocks l s0 zz))) (iOf_L0_s0 blocks l s0 s2 h3 h3p h4 s5 h5 s6 h6 h7 h7p) e
  ·
    have h3p := of_decide_eq_false h3
    exact fun e => nomatch e
/-- Function 11, as it answers. -/
noncomputable def iOf (blocks : Int) (l : List Ex) : Option (List Ce × Int) :=
 (tc (mCheck (blocks) (l)) fun s0 =>
  (tb ((!s0))
   (some ((([] : List Ce), (80 : Int))))
   (th (iOf_L0_step blocks l s0) ((([] : List Ce), (0 : Int))) fun s2 =>
    (tb ((decide (s2.2 < (↑(List.length l) : Int))))
     none /- stop behind an operation -/
     (tp ((((0 : Nat) = (0 : Nat)) ∧ ((List.length (List.flatMap Ce.cells s2.1)) = ((List.length s2.1) * (34 : Nat)))))
      (some ((s2.1, (0 : Int)))))))))
abbrev iOf_G (blocks : Int) (l : List Ex) (r : List Ce × Int) : Prop := EvFr Try.prog cf true 11 [.i (blocks), exs (l)] (.tu [ces (r.1), .i (r.2)])
theorem iOf_l0 (blocks : Int) (l : List Ex) (s0 : Bool) (h0 : mCheck (blocks) (l) = some s0) (h1 : ((!s0)) = true) : iOf_G blocks l ((([] : List Ce), (80 : Int))) :=
  leafR vw_eq (k := 300) (r := []) (hs := hz [(5, [.fres (.b (s0))]), (1, [.yes]), (2, [])]) (raw := (AV.tu [(AV.sl 0 ([] : List AV)), (AV.i 80)])) (ps := [EvFr Try.prog cf Bool.false 27 [(AV.i blocks), (AV.sl (List.length l) (List.flatMap Ex.cells l))] (.b (s0)), ((!s0)) = true]) kq ⟨((mCheck_ok (blocks) (l) _ h0).any.cast tq), h1, trivial⟩ tq
theorem iOf_l1 (blocks : Int) (l : List Ex) (s0 : Bool) (h0 : mCheck (blocks) (l) = some s0) (h1 : ((!s0)) = false) (s2 : List Ce × Int) (h2 : Runs (iOf_L0_step blocks l s0) ((([] : List Ce), (0 : Int))) s2) (h3 : ((decide (s2.2 < (↑(List.length l) : Int)))) = false) (h3p : ¬ (s2.2 < (↑(List.length l) : Int))) (h4 : (((0 : Nat) = (0 : Nat)) ∧ ((List.length (List.flatMap Ce.cells s2.1)) = ((List.length s2.1) * (34 : Nat))))) : iOf_G blocks l ((s2.1, (0 : Int))) :=
  leafR vw_eq (k := 300) (r := []) (hs := hz [(5, [.fres (.b (s0))]), (1, [.no]), (3, [.head (iOf_L0_S blocks l s0 s2)]), (1, [.no]), (3, [.yes, .yes])]) (raw := (AV.tu [(AV.sl (List.length s2.1) (List.flatMap Ce.cells s2.1)), (AV.i 0)])) (ps := [EvFr Try.prog cf Bool.false 27 [(AV.i blocks), (AV.sl (List.length l) (List.flatMap Ex.cells l))] (.b (s0)), ((!s0)) = false, EvHead Try.prog cf (lp Try.prog 11 0) (iOf_L0_I blocks l s0) (iOf_L0_S blocks l s0 s2), ((decide (s2.2 < (↑(List.length l) : Int)))) = false, (((0 : Nat) = (0 : Nat)) ∧ ((List.length (List.flatMap Ce.cells s2.1)) = ((List.length s2.1) * (34 : Nat)))), Pl Bool.true ((List.flatMap Ce.cells s2.1))]) kq ⟨((mCheck_ok (blocks) (l) _ h0).any.cast tq), h1, (EvHead.of (iOf_L0_ok blocks l s0) (absB_of [0] [] kq (.consn kq (.eqv tq rfl) (.consn kq (.eqv tq rfl) (.consn kq (.nln tq) (.consn kq (.eqv tq rfl) (.consn kq (.eqv tq rfl) (.consn kq (.eqv tq rfl) (.consn kq (.eqv tq rfl) (.consn kq (.eqv tq rfl) .nil)))))))) (.cons (.none rfl (Nat.le_refl _) rfl) .nil)) h2), h3, h4, pq, trivial⟩ tq
theorem iOf_ok (blocks : Int) (l : List Ex) (r : List Ce × Int) : iOf blocks l = some r → iOf_G blocks l r := by
  unfold iOf
  refine tc_ok (fun s0 h0 => ?_)
  refine tb_ok (fun h1 => ?_) (fun h1 => ?_)
  ·
    exact fun e => tl_ok (G := iOf_G blocks l) (iOf_l0 blocks l s0 h0 h1) e
  ·
    refine th_ok (fun s2 h2 => ?_)
    refine tb_ok (fun h3 => ?_) (fun h3 => ?_)
    ·
      have h3p := of_decide_eq_true h3
      exact fun e => nomatch e
    ·
      have h3p := of_decide_eq_false h3
      refine tp_ok (fun h4 => ?_)
      exact fun e => tl_ok (G := iOf_G blocks l) (iOf_l1 blocks l s0 h0 h1 s2 h2 h3 h3p h4) e
noncomputable abbrev iMap_L0_I (l : List Ce) (s0 : Bool) : St := (St.mk [(0, (AV.sl (List.length l) (List.flatMap Ce.cells l))), (2, AV.nl), (3, (AV.i 0)), (11, (AV.sl (List.length l) (List.flatMap Ce.cells l))), (12, (AV.b s0)), (13, (AV.b (!s0))), (4, AV.nl), (14, (AV.sl (List.length l) (List.flatMap Ce.cells l))), (15, (AV.i (↑(List.length l) : Int))), (16, (AV.i 0))] 61 (AH.mk 0 ([] : List (Prod Nat AObj))) Bool.false)
noncomputable abbrev iMap_L0_S (l : List Ce) (s0 : Bool) (s2 : List Ex × Int) : St := (St.mk [(0, (AV.sl (List.length l) (List.flatMap Ce.cells l))), (2, AV.nl), (3, (AV.i 0)), (13, (AV.b (!s0))), (4, (AV.rf 0 5 0 (List.length s2.1))), (14, (AV.sl (List.length l) (List.flatMap Ce.cells l))), (15, (AV.i (↑(List.length l) : Int))), (16, (AV.i s2.2))] 61 (AH.mk 1 [(0, (AObj.cells (List.flatMap Ex.cells s2.1)))]) Bool.false)
noncomputable def iMap_L0_step (l : List Ce) (s0 : Bool) (s2 : List Ex × Int) : Option (List Ex × Int) :=
 (tb ((decide (s2.2 < (↑(List.length l) : Int))))
  (tp ((((0 : Int) ≤ s2.2) ∧ (s2.2 < (↑(List.length l) : Int))))
   (tb (((ceAt l (Int.toNat s2.2)).kind == (2 : Int)))
    (tb ((decide ((↑(List.length s2.1) : Int) > (0 : Int))))
     (tp ((((0 : Int) ≤ (wr ((↑(List.length s2.1) : Int) - (1 : Int)))) ∧ ((wr ((↑(List.length s2.1) : Int) - (1 : Int))) < (↑(List.length s2.1) : Int))))
      (tc (eJoin ((exAt s2.1 (Int.toNat (wr ((↑(List.length s2.1) : Int) - (1 : Int)))))) ((Ex.mk s2.2 1 (ceAt l (Int.toNat s2.2)).kind (ceAt l (Int.toNat s2.2)).gen (pad 32 (ceAt l (Int.toNat s2.2)).d)))) fun s8 =>
       (tb ((s8.2 == (0 : Int)))
        (tp ((((List.length (xc s8.1)) = (5 : Nat)) ∧ ((((0 : Nat) + ((Int.toNat (wr ((↑(List.length s2.1) : Int) - (1 : Int)))) * (5 : Nat))) + (List.length (xc s8.1))) ≤ (List.length (List.flatMap Ex.cells s2.1)))))
         (some (((List.set s2.1 (Int.toNat (wr ((↑(List.length s2.1) : Int) - (1 : Int)))) s8.1), (wr (s2.2 + (1 : Int)))))))
        (tp ((((List.length (List.flatMap Ex.cells s2.1)) = ((List.length s2.1) * (5 : Nat))) ∧ (((List.length s2.1) + (1 : Nat)) ≤ (4294967296 : Nat))))
         (some (((s2.1 ++ [(Ex.mk s2.2 1 (ceAt l (Int.toNat s2.2)).kind (ceAt l (Int.toNat s2.2)).gen (pad 32 (ceAt l (Int.toNat s2.2)).d))]), (wr (s2.2 + (1 : Int))))))))))
     (tp ((((List.length (List.flatMap Ex.cells s2.1)) = ((List.length s2.1) * (5 : Nat))) ∧ (((List.length s2.1) + (1 : Nat)) ≤ (4294967296 : Nat))))
      (some (((s2.1 ++ [(Ex.mk s2.2 1 (ceAt l (Int.toNat s2.2)).kind (ceAt l (Int.toNat s2.2)).gen (pad 32 (ceAt l (Int.toNat s2.2)).d))]), (wr (s2.2 + (1 : Int))))))))
    (tb ((decide ((↑(List.length s2.1) : Int) > (0 : Int))))
     (tp ((((0 : Int) ≤ (wr ((↑(List.length s2.1) : Int) - (1 : Int)))) ∧ ((wr ((↑(List.length s2.1) : Int) - (1 : Int))) < (↑(List.length s2.1) : Int))))
      (tc (eJoin ((exAt s2.1 (Int.toNat (wr ((↑(List.length s2.1) : Int) - (1 : Int)))))) ((Ex.mk s2.2 1 (ceAt l (Int.toNat s2.2)).kind (ceAt l (Int.toNat s2.2)).gen ([] : List UInt8)))) fun s8 =>
       (tb ((s8.2 == (0 : Int)))
        (tp ((((List.length (xc s8.1)) = (5 : Nat)) ∧ ((((0 : Nat) + ((Int.toNat (wr ((↑(List.length s2.1) : Int) - (1 : Int)))) * (5 : Nat))) + (List.length (xc s8.1))) ≤ (List.length (List.flatMap Ex.cells s2.1)))))
         (some (((List.set s2.1 (Int.toNat (wr ((↑(List.length s2.1) : Int) - (1 : Int)))) s8.1), (wr (s2.2 + (1 : Int)))))))
        (tp ((((List.length (List.flatMap Ex.cells s2.1)) = ((List.length s2.1) * (5 : Nat))) ∧ (((List.length s2.1) + (1 : Nat)) ≤ (4294967296 : Nat))))
         (some (((s2.1 ++ [(Ex.mk s2.2 1 (ceAt l (Int.toNat s2.2)).kind (ceAt l (Int.toNat s2.2)).gen ([] : List UInt8))]), (wr (s2.2 + (1 : Int))))))))))
     (tp ((((List.length (List.flatMap Ex.cells s2.1)) = ((List.length s2.1) * (5 : Nat))) ∧ (((List.length s2.1) + (1 : Nat)) ≤ (4294967296 : Nat))))
      (some (((s2.1 ++ [(Ex.mk s2.2 1 (ceAt l (Int.toNat s2.2)).kind (ceAt l (Int.toNat s2.2)).gen ([] : List UInt8))]), (wr (s2.2 + (1 : Int))))))))))
  none /- exit -/)
theorem iMap_L0_s0 (l : List Ce) (s0 : Bool) (s2 : List Ex × Int) (h3 : ((decide (s2.2 < (↑(List.length l) : Int)))) = true) (h3p : (s2.2 < (↑(List.length l) : Int))) (h4 : (((0 : Int) ≤ s2.2) ∧ (s2.2 < (↑(List.length l) : Int)))) (h5 : (((ceAt l (Int.toNat s2.2)).kind == (2 : Int))) = true) (h5p : ((ceAt l (Int.toNat s2.2)).kind = (2 : Int))) (h6 : ((decide ((↑(List.length s2.1) : Int) > (0 : Int)))) = true) (h6p : ((↑(List.length s2.1) : Int) > (0 : Int))) (h7 : (((0 : Int) ≤ (wr ((↑(List.length s2.1) : Int) - (1 : Int)))) ∧ ((wr ((↑(List.length s2.1) : Int) - (1 : Int))) < (↑(List.length s2.1) : Int)))) (s8 : Ex × Int) (h8 : eJoin ((exAt s2.1 (Int.toNat (wr ((↑(List.length s2.1) : Int) - (1 : Int)))))) ((Ex.mk s2.2 1 (ceAt l (Int.toNat s2.2)).kind (ceAt l (Int.toNat s2.2)).gen (pad 32 (ceAt l (Int.toNat s2.2)).d))) = some s8) (h9 : ((s8.2 == (0 : Int))) = true) (h9p : (s8.2 = (0 : Int))) (h10 : (((List.length (xc s8.1)) = (5 : Nat)) ∧ ((((0 : Nat) + ((Int.toNat (wr ((↑(List.length s2.1) : Int) - (1 : Int)))) * (5 : Nat))) + (List.length (xc s8.1))) ≤ (List.length (List.flatMap Ex.cells s2.1))))) : EvStep Try.prog cf 0 (lp Try.prog 13 0) (iMap_L0_S l s0 s2) (iMap_L0_S l s0 (((List.set s2.1 (Int.toNat (wr ((↑(List.length s2.1) : Int) - (1 : Int)))) s8.1), (wr (s2.2 + (1 : Int)))))) :=
  leafS vw_eq (k := 300) (r := []) (hs := hz [(1, [.yes]), (1, [.yes, .yes, .cells ((Ce.cells (ceAt l (Int.toNat s2.2))))]), (2, [.yes, .cells (((AV.i (ceAt l (Int.toNat s2.2)).kind) :: (AV.i (ceAt l (Int.toNat s2.2)).gen) :: (List.map AV.y (pad 32 (ceAt l (Int.toNat s2.2)).d))))]), (10, [.cells ([(AV.i s2.2), (AV.i 1), (AV.i (ceAt l (Int.toNat s2.2)).kind), (AV.i (ceAt l (Int.toNat s2.2)).gen), AV.nl])]), (4, [.yes]), (1, [.yes]), (1, [.no, .yes]), (3, [.cells ([(AV.i s2.2), (AV.i 1), (AV.i (ceAt l (Int.toNat s2.2)).kind), (AV.i (ceAt l (Int.toNat s2.2)).gen), (AV.rf 3 1 0 32)])]), (5, [.yes]), (3, [.yes, .yes, .cells ((Ex.cells (exAt s2.1 (Int.toNat (wr ((↑(List.length s2.1) : Int) - (1 : Int)))))))]), (1, [.cells ([(AV.i s2.2), (AV.i 1), (AV.i (ceAt l (Int.toNat s2.2)).kind), (AV.i (ceAt l (Int.toNat s2.2)).gen), (AV.rf 3 1 0 32)])]), (1, [.yes, .yes, .fres (.tu [Ex.av (s8.1), .i (s8.2)])]), (5, [.cells ((xc s8.1))]), (1, [.yes]), (2, [.yes]), (4, [.cells ((xc s8.1)), .yes, .yes, .cells ((List.flatMap Ex.cells (List.set s2.1 (Int.toNat (wr ((↑(List.length s2.1) : Int) - (1 : Int)))) s8.1)))]), (2, [])]) (st1 := (St.mk [(0, (AV.sl (List.length l) (List.flatMap Ce.cells l))), (2, AV.nl), (3, (AV.i 0)), (13, (AV.b (!s0))), (4, (AV.rf 0 5 0 (List.length s2.1))), (14, (AV.sl (List.length l) (List.flatMap Ce.cells l))), (15, (AV.i (↑(List.length l) : Int))), (16, (AV.i (wr (s2.2 + (1 : Int))))), (17, (AV.b (decide (s2.2 < (↑(List.length l) : Int))))), (18, (AV.i s2.2)), (19, (AV.ip (List.drop ((Int.toNat s2.2) * (34 : Nat)) (List.flatMap Ce.cells l)))), (20, (AV.ag (Ce.cells (ceAt l (Int.toNat s2.2))))), (6, (AV.pt 1 0)), (5, (AV.i s2.2)), (21, (AV.i s2.2)), (22, (AV.pt 1 0)), (23, (AV.i (ceAt l (Int.toNat s2.2)).kind)), (24, (AV.pt 1 1)), (25, (AV.i (ceAt l (Int.toNat s2.2)).gen)), (26, (AV.ag [(AV.i s2.2), (AV.i 1), (AV.i (ceAt l (Int.toNat s2.2)).kind), (AV.i (ceAt l (Int.toNat s2.2)).gen), AV.nl])), (7, (AV.pt 2 0)), (27, (AV.pt 1 0)), (28, (AV.i (ceAt l (Int.toNat s2.2)).kind)), (29, (AV.b ((ceAt l (Int.toNat s2.2)).kind == (2 : Int)))), (30, (AV.pt 1 2)), (31, (AV.rf 1 1 2 32)), (32, (AV.rf 3 1 0 32)), (33, (AV.pt 2 4)), (34, (AV.rf 0 5 0 (List.length s2.1))), (35, (AV.i (↑(List.length s2.1) : Int))), (8, (AV.i (↑(List.length s2.1) : Int))), (36, (AV.i (↑(List.length s2.1) : Int))), (37, (AV.b (decide ((↑(List.length s2.1) : Int) > (0 : Int))))), (39, (AV.rf 0 5 0 (List.length s2.1))), (40, (AV.i (↑(List.length s2.1) : Int))), (41, (AV.i (wr ((↑(List.length s2.1) : Int) - (1 : Int))))), (42, (AV.pt 0 ((0 : Nat) + ((Int.toNat (wr ((↑(List.length s2.1) : Int) - (1 : Int)))) * (5 : Nat))))), (43, (AV.ag (xc (exAt s2.1 (Int.toNat (wr ((↑(List.length s2.1) : Int) - (1 : Int)))))))), (44, (AV.ag [(AV.i s2.2), (AV.i 1), (AV.i (ceAt l (Int.toNat s2.2)).kind), (AV.i (ceAt l (Int.toNat s2.2)).gen), (AV.rf 3 1 0 32)])), (45, (AV.tu [(AV.ag (xc s8.1)), (AV.i s8.2)])), (38, (AV.tu [(AV.ag (xc s8.1)), (AV.i s8.2)])), (46, (AV.ag (xc s8.1))), (47, (AV.i s8.2)), (9, (AV.pt 4 0)), (10, (AV.i s8.2)), (48, (AV.i s8.2)), (49, (AV.b (s8.2 == (0 : Int)))), (50, (AV.rf 0 5 0 (List.length s2.1))), (51, (AV.i (↑(List.length s2.1) : Int))), (52, (AV.i (wr ((↑(List.length s2.1) : Int) - (1 : Int))))), (53, (AV.ag (xc s8.1))), (54, (AV.pt 0 ((0 : Nat) + ((Int.toNat (wr ((↑(List.length s2.1) : Int) - (1 : Int)))) * (5 : Nat))))), (59, (AV.i (wr (s2.2 + (1 : Int)))))] 61 (AH.mk 5 [(4, (AObj.cells (xc s8.1))), (3, (AObj.cells (List.take 32 (List.map AV.y (pad 32 (ceAt l (Int.toNat s2.2)).d))))), (2, (AObj.cells [(AV.i s2.2), (AV.i 1), (AV.i (ceAt l (Int.toNat s2.2)).kind), (AV.i (ceAt l (Int.toNat s2.2)).gen), (AV.rf 3 1 0 32)])), (1, (AObj.cells ((AV.i (ceAt l (Int.toNat s2.2)).kind) :: (AV.i (ceAt l (Int.toNat s2.2)).gen) :: (List.map AV.y (pad 32 (ceAt l (Int.toNat s2.2)).d))))), (0, (AObj.cells (List.flatMap Ex.cells (List.set s2.1 (Int.toNat (wr ((↑(List.length s2.1) : Int) - (1 : Int)))) s8.1))))]) Bool.false)) (ps := [((decide (s2.2 < (↑(List.length l) : Int)))) = true, (((0 : Int) ≤ s2.2) ∧ (s2.2 < (↑(List.length l) : Int))), ((34 : Nat) ≤ (List.length (List.drop ((Int.toNat s2.2) * (34 : Nat)) (List.flatMap Ce.cells l)))), (List.take 34 (List.drop ((Int.toNat s2.2) * (34 : Nat)) (List.flatMap Ce.cells l))) = (Ce.cells (ceAt l (Int.toNat s2.2))), (((List.length ((AV.i (ceAt l (Int.toNat s2.2)).kind) :: (AV.i (ceAt l (Int.toNat s2.2)).gen) :: (List.map AV.y (pad 32 (ceAt l (Int.toNat s2.2)).d)))) = (34 : Nat)) ∧ (((0 : Nat) + (List.length ((AV.i (ceAt l (Int.toNat s2.2)).kind) :: (AV.i (ceAt l (Int.toNat s2.2)).gen) :: (List.map AV.y (pad 32 (ceAt l (Int.toNat s2.2)).d))))) ≤ (34 : Nat))), (over ((AV.i (Int.ofNat 0)) :: (AV.i (Int.ofNat 0)) :: List.replicate (32 : Nat) (AV.y (UInt8.ofNat (0 : Nat)))) 0 ((AV.i (ceAt l (Int.toNat s2.2)).kind) :: (AV.i (ceAt l (Int.toNat s2.2)).gen) :: (List.map AV.y (pad 32 (ceAt l (Int.toNat s2.2)).d)))) = ((AV.i (ceAt l (Int.toNat s2.2)).kind) :: (AV.i (ceAt l (Int.toNat s2.2)).gen) :: (List.map AV.y (pad 32 (ceAt l (Int.toNat s2.2)).d))), ([(AV.i s2.2), (AV.i 1), (AV.i (ceAt l (Int.toNat s2.2)).kind), (AV.i (ceAt l (Int.toNat s2.2)).gen), AV.nl] : List AV) = [(AV.i s2.2), (AV.i 1), (AV.i (ceAt l (Int.toNat s2.2)).kind), (AV.i (ceAt l (Int.toNat s2.2)).gen), AV.nl], (((ceAt l (Int.toNat s2.2)).kind == (2 : Int))) = true, (((0 : Nat) ≤ (32 : Nat)) ∧ (((32 : Nat) ≤ (32 : Nat)) ∧ ((34 : Nat) ≤ (List.length ((AV.i (ceAt l (Int.toNat s2.2)).kind) :: (AV.i (ceAt l (Int.toNat s2.2)).gen) :: (List.map AV.y (pad 32 (ceAt l (Int.toNat s2.2)).d))))))), ((34 : Nat) ≤ (List.length ((AV.i (ceAt l (Int.toNat s2.2)).kind) :: (AV.i (ceAt l (Int.toNat s2.2)).gen) :: (List.map AV.y (pad 32 (ceAt l (Int.toNat s2.2)).d))))), ([(AV.i s2.2), (AV.i 1), (AV.i (ceAt l (Int.toNat s2.2)).kind), (AV.i (ceAt l (Int.toNat s2.2)).gen), (AV.rf 3 1 0 32)] : List AV) = [(AV.i s2.2), (AV.i 1), (AV.i (ceAt l (Int.toNat s2.2)).kind), (AV.i (ceAt l (Int.toNat s2.2)).gen), (AV.rf 3 1 0 32)], ((decide ((↑(List.length s2.1) : Int) > (0 : Int)))) = true, (((0 : Int) ≤ (wr ((↑(List.length s2.1) : Int) - (1 : Int)))) ∧ ((wr ((↑(List.length s2.1) : Int) - (1 : Int))) < (↑(List.length s2.1) : Int))), ((((0 : Nat) + ((Int.toNat (wr ((↑(List.length s2.1) : Int) - (1 : Int)))) * (5 : Nat))) + (5 : Nat)) ≤ (List.length (List.flatMap Ex.cells s2.1))), (List.take 5 (List.drop ((0 : Nat) + ((Int.toNat (wr ((↑(List.length s2.1) : Int) - (1 : Int)))) * (5 : Nat))) (List.flatMap Ex.cells s2.1))) = (Ex.cells (exAt s2.1 (Int.toNat (wr ((↑(List.length s2.1) : Int) - (1 : Int)))))), ([(AV.i s2.2), (AV.i 1), (AV.i (ceAt l (Int.toNat s2.2)).kind), (AV.i (ceAt l (Int.toNat s2.2)).gen), (AV.rf 3 1 0 32)] : List AV) = [(AV.i s2.2), (AV.i 1), (AV.i (ceAt l (Int.toNat s2.2)).kind), (AV.i (ceAt l (Int.toNat s2.2)).gen), (AV.rf 3 1 0 32)], (((0 : Nat) = (0 : Nat)) ∧ ((List.length (List.take 32 (List.map AV.y (pad 32 (ceAt l (Int.toNat s2.2)).d)))) = (32 : Nat))), Pl Bool.false ((List.take 32 (List.map AV.y (pad 32 (ceAt l (Int.toNat s2.2)).d)))), EvFr Try.prog cf Bool.true 33 [(AV.ag (xc (exAt s2.1 (Int.toNat (wr ((↑(List.length s2.1) : Int) - (1 : Int))))))), (AV.ag [(AV.i s2.2), (AV.i 1), (AV.i (ceAt l (Int.toNat s2.2)).kind), (AV.i (ceAt l (Int.toNat s2.2)).gen), (AV.sl 32 (List.take 32 (List.map AV.y (pad 32 (ceAt l (Int.toNat s2.2)).d))))])] (.tu [Ex.av (s8.1), .i (s8.2)]), ((xc s8.1) : List AV) = (xc s8.1), orderOk (rg Try.prog 13 0) = true ∧ allOk (Region.before (rg Try.prog 13 0)) [] 0 [(some [], some []), (some [], some []), (some [], some []), (some [], some []), (some [0], some []), (some [2], some []), (some [3], some []), (some [], some []), (some [], some []), (some [], some []), (some [], some [4]), (some [4], some [4]), (some [], some [])] = true, ((s8.2 == (0 : Int))) = true, ((xc s8.1) : List AV) = (xc s8.1), (((0 : Int) ≤ (wr ((↑(List.length s2.1) : Int) - (1 : Int)))) ∧ ((wr ((↑(List.length s2.1) : Int) - (1 : Int))) < (↑(List.length s2.1) : Int))), (((List.length (xc s8.1)) = (5 : Nat)) ∧ ((((0 : Nat) + ((Int.toNat (wr ((↑(List.length s2.1) : Int) - (1 : Int)))) * (5 : Nat))) + (List.length (xc s8.1))) ≤ (List.length (List.flatMap Ex.cells s2.1)))), (((List.take ((0 : Nat) + ((Int.toNat (wr ((↑(List.length s2.1) : Int) - (1 : Int)))) * (5 : Nat))) (List.flatMap Ex.cells s2.1)) ++ (xc s8.1)) ++ (List.drop (((0 : Nat) + ((Int.toNat (wr ((↑(List.length s2.1) : Int) - (1 : Int)))) * (5 : Nat))) + (List.length (xc s8.1))) (List.flatMap Ex.cells s2.1))) = (List.flatMap Ex.cells (List.set s2.1 (Int.toNat (wr ((↑(List.length s2.1) : Int) - (1 : Int)))) s8.1))]) kq ⟨h3, h4, fq, (by first | exact ce_take _ _ bq | (simpa using ce_take (l) ((Int.toNat s2.2)) bq) | ((try simp only [List.drop_drop]); rw [show ((Int.toNat s2.2) * (34 : Nat)) = ((Int.toNat s2.2)) * 34 by omega]; exact ce_take _ _ bq)), tq, (over_all tq), rfl, h5, tq, tq, rfl, h6, h7, fq, (by first | exact ex_take _ _ bq | (simpa using ex_take (s2.1) ((Int.toNat (wr ((↑(List.length s2.1) : Int) - (1 : Int))))) bq) | ((try simp only [List.drop_drop]); rw [show ((0 : Nat) + ((Int.toNat (wr ((↑(List.length s2.1) : Int) - (1 : Int)))) * (5 : Nat))) = ((Int.toNat (wr ((↑(List.length s2.1) : Int) - (1 : Int))))) * 5 by omega]; exact ex_take _ _ bq)), rfl, tq, pq, ((eJoin_ok ((exAt s2.1 (Int.toNat (wr ((↑(List.length s2.1) : Int) - (1 : Int)))))) ((Ex.mk s2.2 1 (ceAt l (Int.toNat s2.2)).kind (ceAt l (Int.toNat s2.2)).gen (pad 32 (ceAt l (Int.toNat s2.2)).d))) _ h8).any.cast tq), rfl, (ord_of ord_13_0 bef_13_0 kq), h9, rfl, h7, h10, (by rw [show ((0 : Nat) + ((Int.toNat (wr ((↑(List.length s2.1) : Int) - (1 : Int)))) * (5 : Nat))) = ((Int.toNat (wr ((↑(List.length s2.1) : Int) - (1 : Int))))) * 5 by omega]; exact ex_set _ _ (s8.1) bq), trivial⟩ (Nat.le_of_ble_eq_true rfl) (absB_of [0] [] kq (.consn kq (.eqv tq rfl) (.consn kq .nl0 (.consn kq (.eqv tq rfl) (.consn kq (.eqv tq rfl) (.consn kq (.rfn (n := (List.length s2.1)) rfl tq) (.consn kq (.eqv tq rfl) (.consn kq (.eqv tq rfl) (.consn kq (.eqv tq rfl) .nil)))))))) (.cons (.old rfl rfl (.cells (.pl tq pq))) .nil))
theorem iMap_L0_s1 (l : List Ce) (s0 : Bool) (s2 : List Ex × Int) (h3 : ((decide (s2.2 < (↑(List.length l) : Int)))) = true) (h3p : (s2.2 < (↑(List.length l) : Int))) (h4 : (((0 : Int) ≤ s2.2) ∧ (s2.2 < (↑(List.length l) : Int)))) (h5 : (((ceAt l (Int.toNat s2.2)).kind == (2 : Int))) = true) (h5p : ((ceAt l (Int.toNat s2.2)).kind = (2 : Int))) (h6 : ((decide ((↑(List.length s2.1) : Int) > (0 : Int)))) = true) (h6p : ((↑(List.length s2.1) : Int) > (0 : Int))) (h7 : (((0 : Int) ≤ (wr ((↑(List.length s2.1) : Int) - (1 : Int)))) ∧ ((wr ((↑(List.length s2.1) : Int) - (1 : Int))) < (↑(List.length s2.1) : Int)))) (s8 : Ex × Int) (h8 : eJoin ((exAt s2.1 (Int.toNat (wr ((↑(List.length s2.1) : Int) - (1 : Int)))))) ((Ex.mk s2.2 1 (ceAt l (Int.toNat s2.2)).kind (ceAt l (Int.toNat s2.2)).gen (pad 32 (ceAt l (Int.toNat s2.2)).d))) = some s8) (h9 : ((s8.2 == (0 : Int))) = false) (h9p : ¬ (s8.2 = (0 : Int))) (h10 : (((List.length (List.flatMap Ex.cells s2.1)) = ((List.length s2.1) * (5 : Nat))) ∧ (((List.length s2.1) + (1 : Nat)) ≤ (4294967296 : Nat)))) : EvStep Try.prog cf 0 (lp Try.prog 13 0) (iMap_L0_S l s0 s2) (iMap_L0_S l s0 (((s2.1 ++ [(Ex.mk s2.2 1 (ceAt l (Int.toNat s2.2)).kind (ceAt l (Int.toNat s2.2)).gen (pad 32 (ceAt l (Int.toNat s2.2)).d))]), (wr (s2.2 + (1 : Int)))))) :=
  leafS vw_eq (k := 300) (r := []) (hs := hz [(1, [.yes]), (1, [.yes, .yes, .cells ((Ce.cells (ceAt l (Int.toNat s2.2))))]), (2, [.yes, .cells (((AV.i (ceAt l (Int.toNat s2.2)).kind) :: (AV.i (ceAt l (Int.toNat s2.2)).gen) :: (List.map AV.y (pad 32 (ceAt l (Int.toNat s2.2)).d))))]), (10, [.cells ([(AV.i s2.2), (AV.i 1), (AV.i (ceAt l (Int.toNat s2.2)).kind), (AV.i (ceAt l (Int.toNat s2.2)).gen), AV.nl])]), (4, [.yes]), (1, [.yes]), (1, [.no, .yes]), (3, [.cells ([(AV.i s2.2), (AV.i 1), (AV.i (ceAt l (Int.toNat s2.2)).kind), (AV.i (ceAt l (Int.toNat s2.2)).gen), (AV.rf 3 1 0 32)])]), (5, [.yes]), (3, [.yes, .yes, .cells ((Ex.cells (exAt s2.1 (Int.toNat (wr ((↑(List.length s2.1) : Int) - (1 : Int)))))))]), (1, [.cells ([(AV.i s2.2), (AV.i 1), (AV.i (ceAt l (Int.toNat s2.2)).kind), (AV.i (ceAt l (Int.toNat s2.2)).gen), (AV.rf 3 1 0 32)])]), (1, [.yes, .yes, .fres (.tu [Ex.av (s8.1), .i (s8.2)])]), (5, [.cells ((xc s8.1))]), (1, [.yes]), (2, [.no]), (2, [.cells ([(AV.i s2.2), (AV.i 1), (AV.i (ceAt l (Int.toNat s2.2)).kind), (AV.i (ceAt l (Int.toNat s2.2)).gen), (AV.rf 3 1 0 32)])]), (1, [.cells ([(AV.i s2.2), (AV.i 1), (AV.i (ceAt l (Int.toNat s2.2)).kind), (AV.i (ceAt l (Int.toNat s2.2)).gen), (AV.rf 3 1 0 32)]), .cells ([(AV.i s2.2), (AV.i 1), (AV.i (ceAt l (Int.toNat s2.2)).kind), (AV.i (ceAt l (Int.toNat s2.2)).gen), (AV.rf 3 1 0 32)]), .yes, .yes]), (3, [])]) (st1 := (St.mk [(0, (AV.sl (List.length l) (List.flatMap Ce.cells l))), (2, AV.nl), (3, (AV.i 0)), (13, (AV.b (!s0))), (4, (AV.rf 6 5 0 ((List.length s2.1) + (1 : Nat)))), (14, (AV.sl (List.length l) (List.flatMap Ce.cells l))), (15, (AV.i (↑(List.length l) : Int))), (16, (AV.i (wr (s2.2 + (1 : Int))))), (17, (AV.b (decide (s2.2 < (↑(List.length l) : Int))))), (18, (AV.i s2.2)), (19, (AV.ip (List.drop ((Int.toNat s2.2) * (34 : Nat)) (List.flatMap Ce.cells l)))), (20, (AV.ag (Ce.cells (ceAt l (Int.toNat s2.2))))), (6, (AV.pt 1 0)), (5, (AV.i s2.2)), (21, (AV.i s2.2)), (22, (AV.pt 1 0)), (23, (AV.i (ceAt l (Int.toNat s2.2)).kind)), (24, (AV.pt 1 1)), (25, (AV.i (ceAt l (Int.toNat s2.2)).gen)), (26, (AV.ag [(AV.i s2.2), (AV.i 1), (AV.i (ceAt l (Int.toNat s2.2)).kind), (AV.i (ceAt l (Int.toNat s2.2)).gen), AV.nl])), (7, (AV.pt 2 0)), (27, (AV.pt 1 0)), (28, (AV.i (ceAt l (Int.toNat s2.2)).kind)), (29, (AV.b ((ceAt l (Int.toNat s2.2)).kind == (2 : Int)))), (30, (AV.pt 1 2)), (31, (AV.rf 1 1 2 32)), (32, (AV.rf 3 1 0 32)), (33, (AV.pt 2 4)), (34, (AV.rf 0 5 0 (List.length s2.1))), (35, (AV.i (↑(List.length s2.1) : Int))), (8, (AV.i (↑(List.length s2.1) : Int))), (36, (AV.i (↑(List.length s2.1) : Int))), (37, (AV.b (decide ((↑(List.length s2.1) : Int) > (0 : Int))))), (39, (AV.rf 0 5 0 (List.length s2.1))), (40, (AV.i (↑(List.length s2.1) : Int))), (41, (AV.i (wr ((↑(List.length s2.1) : Int) - (1 : Int))))), (42, (AV.pt 0 ((0 : Nat) + ((Int.toNat (wr ((↑(List.length s2.1) : Int) - (1 : Int)))) * (5 : Nat))))), (43, (AV.ag (xc (exAt s2.1 (Int.toNat (wr ((↑(List.length s2.1) : Int) - (1 : Int)))))))), (44, (AV.ag [(AV.i s2.2), (AV.i 1), (AV.i (ceAt l (Int.toNat s2.2)).kind), (AV.i (ceAt l (Int.toNat s2.2)).gen), (AV.rf 3 1 0 32)])), (45, (AV.tu [(AV.ag (xc s8.1)), (AV.i s8.2)])), (38, (AV.tu [(AV.ag (xc s8.1)), (AV.i s8.2)])), (46, (AV.ag (xc s8.1))), (47, (AV.i s8.2)), (9, (AV.pt 4 0)), (10, (AV.i s8.2)), (48, (AV.i s8.2)), (49, (AV.b (s8.2 == (0 : Int)))), (55, (AV.rf 0 5 0 (List.length s2.1))), (56, (AV.ag [(AV.i s2.2), (AV.i 1), (AV.i (ceAt l (Int.toNat s2.2)).kind), (AV.i (ceAt l (Int.toNat s2.2)).gen), (AV.rf 3 1 0 32)])), (57, (AV.rf 5 5 0 1)), (58, (AV.rf 6 5 0 ((List.length s2.1) + (1 : Nat)))), (59, (AV.i (wr (s2.2 + (1 : Int)))))] 61 (AH.mk 7 [(6, (AObj.cells ((List.flatMap Ex.cells s2.1) ++ [(AV.i s2.2), (AV.i 1), (AV.i (ceAt l (Int.toNat s2.2)).kind), (AV.i (ceAt l (Int.toNat s2.2)).gen), (AV.rf 3 1 0 32)]))), (5, (AObj.cells [(AV.i s2.2), (AV.i 1), (AV.i (ceAt l (Int.toNat s2.2)).kind), (AV.i (ceAt l (Int.toNat s2.2)).gen), (AV.rf 3 1 0 32)])), (4, (AObj.cells (xc s8.1))), (3, (AObj.cells (List.take 32 (List.map AV.y (pad 32 (ceAt l (Int.toNat s2.2)).d))))), (2, (AObj.cells [(AV.i s2.2), (AV.i 1), (AV.i (ceAt l (Int.toNat s2.2)).kind), (AV.i (ceAt l (Int.toNat s2.2)).gen), (AV.rf 3 1 0 32)])), (1, (AObj.cells ((AV.i (ceAt l (Int.toNat s2.2)).kind) :: (AV.i (ceAt l (Int.toNat s2.2)).gen) :: (List.map AV.y (pad 32 (ceAt l (Int.toNat s2.2)).d))))), (0, AObj.dead)]) Bool.false)) (ps := [((decide (s2.2 < (↑(List.length l) : Int)))) = true, (((0 : Int) ≤ s2.2) ∧ (s2.2 < (↑(List.length l) : Int))), ((34 : Nat) ≤ (List.length (List.drop ((Int.toNat s2.2) * (34 : Nat)) (List.flatMap Ce.cells l)))), (List.take 34 (List.drop ((Int.toNat s2.2) * (34 : Nat)) (List.flatMap Ce.cells l))) = (Ce.cells (ceAt l (Int.toNat s2.2))), (((List.length ((AV.i (ceAt l (Int.toNat s2.2)).kind) :: (AV.i (ceAt l (Int.toNat s2.2)).gen) :: (List.map AV.y (pad 32 (ceAt l (Int.toNat s2.2)).d)))) = (34 : Nat)) ∧ (((0 : Nat) + (List.length ((AV.i (ceAt l (Int.toNat s2.2)).kind) :: (AV.i (ceAt l (Int.toNat s2.2)).gen) :: (List.map AV.y (pad 32 (ceAt l (Int.toNat s2.2)).d))))) ≤ (34 : Nat))), (over ((AV.i (Int.ofNat 0)) :: (AV.i (Int.ofNat 0)) :: List.replicate (32 : Nat) (AV.y (UInt8.ofNat (0 : Nat)))) 0 ((AV.i (ceAt l (Int.toNat s2.2)).kind) :: (AV.i (ceAt l (Int.toNat s2.2)).gen) :: (List.map AV.y (pad 32 (ceAt l (Int.toNat s2.2)).d)))) = ((AV.i (ceAt l (Int.toNat s2.2)).kind) :: (AV.i (ceAt l (Int.toNat s2.2)).gen) :: (List.map AV.y (pad 32 (ceAt l (Int.toNat s2.2)).d))), ([(AV.i s2.2), (AV.i 1), (AV.i (ceAt l (Int.toNat s2.2)).kind), (AV.i (ceAt l (Int.toNat s2.2)).gen), AV.nl] : List AV) = [(AV.i s2.2), (AV.i 1), (AV.i (ceAt l (Int.toNat s2.2)).kind), (AV.i (ceAt l (Int.toNat s2.2)).gen), AV.nl], (((ceAt l (Int.toNat s2.2)).kind == (2 : Int))) = true, (((0 : Nat) ≤ (32 : Nat)) ∧ (((32 : Nat) ≤ (32 : Nat)) ∧ ((34 : Nat) ≤ (List.length ((AV.i (ceAt l (Int.toNat s2.2)).kind) :: (AV.i (ceAt l (Int.toNat s2.2)).gen) :: (List.map AV.y (pad 32 (ceAt l (Int.toNat s2.2)).d))))))), ((34 : Nat) ≤ (List.length ((AV.i (ceAt l (Int.toNat s2.2)).kind) :: (AV.i (ceAt l (Int.toNat s2.2)).gen) :: (List.map AV.y (pad 32 (ceAt l (Int.toNat s2.2)).d))))), ([(AV.i s2.2), (AV.i 1), (AV.i (ceAt l (Int.toNat s2.2)).kind), (AV.i (ceAt l (Int.toNat s2.2)).gen), (AV.rf 3 1 0 32)] : List AV) = [(AV.i s2.2), (AV.i 1), (AV.i (ceAt l (Int.toNat s2.2)).kind), (AV.i (ceAt l (Int.toNat s2.2)).gen), (AV.rf 3 1 0 32)], ((decide ((↑(List.length s2.1) : Int) > (0 : Int)))) = true, (((0 : Int) ≤ (wr ((↑(List.length s2.1) : Int) - (1 : Int)))) ∧ ((wr ((↑(List.length s2.1) : Int) - (1 : Int))) < (↑(List.length s2.1) : Int))), ((((0 : Nat) + ((Int.toNat (wr ((↑(List.length s2.1) : Int) - (1 : Int)))) * (5 : Nat))) + (5 : Nat)) ≤ (List.length (List.flatMap Ex.cells s2.1))), (List.take 5 (List.drop ((0 : Nat) + ((Int.toNat (wr ((↑(List.length s2.1) : Int) - (1 : Int)))) * (5 : Nat))) (List.flatMap Ex.cells s2.1))) = (Ex.cells (exAt s2.1 (Int.toNat (wr ((↑(List.length s2.1) : Int) - (1 : Int)))))), ([(AV.i s2.2), (AV.i 1), (AV.i (ceAt l (Int.toNat s2.2)).kind), (AV.i (ceAt l (Int.toNat s2.2)).gen), (AV.rf 3 1 0 32)] : List AV) = [(AV.i s2.2), (AV.i 1), (AV.i (ceAt l (Int.toNat s2.2)).kind), (AV.i (ceAt l (Int.toNat s2.2)).gen), (AV.rf 3 1 0 32)], (((0 : Nat) = (0 : Nat)) ∧ ((List.length (List.take 32 (List.map AV.y (pad 32 (ceAt l (Int.toNat s2.2)).d)))) = (32 : Nat))), Pl Bool.false ((List.take 32 (List.map AV.y (pad 32 (ceAt l (Int.toNat s2.2)).d)))), EvFr Try.prog cf Bool.true 33 [(AV.ag (xc (exAt s2.1 (Int.toNat (wr ((↑(List.length s2.1) : Int) - (1 : Int))))))), (AV.ag [(AV.i s2.2), (AV.i 1), (AV.i (ceAt l (Int.toNat s2.2)).kind), (AV.i (ceAt l (Int.toNat s2.2)).gen), (AV.sl 32 (List.take 32 (List.map AV.y (pad 32 (ceAt l (Int.toNat s2.2)).d))))])] (.tu [Ex.av (s8.1), .i (s8.2)]), ((xc s8.1) : List AV) = (xc s8.1), orderOk (rg Try.prog 13 0) = true ∧ allOk (Region.before (rg Try.prog 13 0)) [] 0 [(some [], some []), (some [], some []), (some [], some []), (some [], some []), (some [0], some []), (some [2], some []), (some [3], some []), (some [], some []), (some [], some []), (some [], some []), (some [], some [4]), (some [4], some [4]), (some [], some [])] = true, ((s8.2 == (0 : Int))) = false, ([(AV.i s2.2), (AV.i 1), (AV.i (ceAt l (Int.toNat s2.2)).kind), (AV.i (ceAt l (Int.toNat s2.2)).gen), (AV.rf 3 1 0 32)] : List AV) = [(AV.i s2.2), (AV.i 1), (AV.i (ceAt l (Int.toNat s2.2)).kind), (AV.i (ceAt l (Int.toNat s2.2)).gen), (AV.rf 3 1 0 32)], ([(AV.i s2.2), (AV.i 1), (AV.i (ceAt l (Int.toNat s2.2)).kind), (AV.i (ceAt l (Int.toNat s2.2)).gen), (AV.rf 3 1 0 32)] : List AV) = [(AV.i s2.2), (AV.i 1), (AV.i (ceAt l (Int.toNat s2.2)).kind), (AV.i (ceAt l (Int.toNat s2.2)).gen), (AV.rf 3 1 0 32)], ([(AV.i s2.2), (AV.i 1), (AV.i (ceAt l (Int.toNat s2.2)).kind), (AV.i (ceAt l (Int.toNat s2.2)).gen), (AV.rf 3 1 0 32)] : List AV) = [(AV.i s2.2), (AV.i 1), (AV.i (ceAt l (Int.toNat s2.2)).kind), (AV.i (ceAt l (Int.toNat s2.2)).gen), (AV.rf 3 1 0 32)], (((0 : Nat) = (0 : Nat)) ∧ ((List.length [(AV.i s2.2), (AV.i 1), (AV.i (ceAt l (Int.toNat s2.2)).kind), (AV.i (ceAt l (Int.toNat s2.2)).gen), (AV.rf 3 1 0 32)]) = (5 : Nat))), (((List.length (List.flatMap Ex.cells s2.1)) = ((List.length s2.1) * (5 : Nat))) ∧ (((List.length s2.1) + (1 : Nat)) ≤ (4294967296 : Nat)))]) kq ⟨h3, h4, fq, (by first | exact ce_take _ _ bq | (simpa using ce_take (l) ((Int.toNat s2.2)) bq) | ((try simp only [List.drop_drop]); rw [show ((Int.toNat s2.2) * (34 : Nat)) = ((Int.toNat s2.2)) * 34 by omega]; exact ce_take _ _ bq)), tq, (over_all tq), rfl, h5, tq, tq, rfl, h6, h7, fq, (by first | exact ex_take _ _ bq | (simpa using ex_take (s2.1) ((Int.toNat (wr ((↑(List.length s2.1) : Int) - (1 : Int))))) bq) | ((try simp only [List.drop_drop]); rw [show ((0 : Nat) + ((Int.toNat (wr ((↑(List.length s2.1) : Int) - (1 : Int)))) * (5 : Nat))) = ((Int.toNat (wr ((↑(List.length s2.1) : Int) - (1 : Int))))) * 5 by omega]; exact ex_take _ _ bq)), rfl, tq, pq, ((eJoin_ok ((exAt s2.1 (Int.toNat (wr ((↑(List.length s2.1) : Int) - (1 : Int)))))) ((Ex.mk s2.2 1 (ceAt l (Int.toNat s2.2)).kind (ceAt l (Int.toNat s2.2)).gen (pad 32 (ceAt l (Int.toNat s2.2)).d))) _ h8).any.cast tq), rfl, (ord_of ord_13_0 bef_13_0 kq), h9, rfl, rfl, rfl, tq, h10, trivial⟩ (Nat.le_of_ble_eq_true rfl) (absB_of [6] [3] kq (.consn kq (.eqv tq rfl) (.consn kq .nl0 (.consn kq (.eqv tq rfl) (.consn kq (.eqv tq rfl) (.consn kq (.rfn (n := ((List.length s2.1) + (1 : Nat))) rfl tq) (.consn kq (.eqv tq rfl) (.consn kq (.eqv tq rfl) (.consn kq (.eqv tq rfl) .nil)))))))) (.cons (.old rfl rfl (.cells (.cast rfl tq (.app (.pl rfl pq) (.cons (.eqv rfl rfl) (.cons (.eqv rfl rfl) (.cons (.eqv rfl rfl) (.cons (.eqv rfl rfl) (.cons (.frzn rfl tq pq (by simp) tq) .nil))))))))) .nil))
theorem iMap_L0_s2 (l : List Ce) (s0 : Bool) (s2 : List Ex × Int) (h3 : ((decide (s2.2 < (↑(List.length l) : Int)))) = true) (h3p : (s2.2 < (↑(List.length l) : Int))) (h4 : (((0 : Int) ≤ s2.2) ∧ (s2.2 < (↑(List.length l) : Int)))) (h5 : (((ceAt l (Int.toNat s2.2)).kind == (2 : Int))) = true) (h5p : ((ceAt l (Int.toNat s2.2)).kind = (2 : Int))) (h6 : ((decide ((↑(List.length s2.1) : Int) > (0 : Int)))) = false) (h6p : ¬ ((↑(List.length s2.1) : Int) > (0 : Int))) (h7 : (((List.length (List.flatMap Ex.cells s2.1)) = ((List.length s2.1) * (5 : Nat))) ∧ (((List.length s2.1) + (1 : Nat)) ≤ (4294967296 : Nat)))) : EvStep Try.prog cf 0 (lp Try.prog 13 0) (iMap_L0_S l s0 s2) (iMap_L0_S l s0 (((s2.1 ++ [(Ex.mk s2.2 1 (ceAt l (Int.toNat s2.2)).kind (ceAt l (Int.toNat s2.2)).gen (pad 32 (ceAt l (Int.toNat s2.2)).d))]), (wr (s2.2 + (1 : Int)))))) :=
  leafS vw_eq (k := 300) (r := []) (hs := hz [(1, [.yes]), (1, [.yes, .yes, .cells ((Ce.cells (ceAt l (Int.toNat s2.2))))]), (2, [.yes, .cells (((AV.i (ceAt l (Int.toNat s2.2)).kind) :: (AV.i (ceAt l (Int.toNat s2.2)).gen) :: (List.map AV.y (pad 32 (ceAt l (Int.toNat s2.2)).d))))]), (10, [.cells ([(AV.i s2.2), (AV.i 1), (AV.i (ceAt l (Int.toNat s2.2)).kind), (AV.i (ceAt l (Int.toNat s2.2)).gen), AV.nl])]), (4, [.yes]), (1, [.yes]), (1, [.no, .yes]), (3, [.cells ([(AV.i s2.2), (AV.i 1), (AV.i (ceAt l (Int.toNat s2.2)).kind), (AV.i (ceAt l (Int.toNat s2.2)).gen), (AV.rf 3 1 0 32)])]), (5, [.no]), (2, [.cells ([(AV.i s2.2), (AV.i 1), (AV.i (ceAt l (Int.toNat s2.2)).kind), (AV.i (ceAt l (Int.toNat s2.2)).gen), (AV.rf 3 1 0 32)])]), (1, [.cells ([(AV.i s2.2), (AV.i 1), (AV.i (ceAt l (Int.toNat s2.2)).kind), (AV.i (ceAt l (Int.toNat s2.2)).gen), (AV.rf 3 1 0 32)]), .cells ([(AV.i s2.2), (AV.i 1), (AV.i (ceAt l (Int.toNat s2.2)).kind), (AV.i (ceAt l (Int.toNat s2.2)).gen), (AV.rf 3 1 0 32)]), .yes, .yes]), (3, [])]) (st1 := (St.mk [(0, (AV.sl (List.length l) (List.flatMap Ce.cells l))), (2, AV.nl), (3, (AV.i 0)), (13, (AV.b (!s0))), (4, (AV.rf 5 5 0 ((List.length s2.1) + (1 : Nat)))), (14, (AV.sl (List.length l) (List.flatMap Ce.cells l))), (15, (AV.i (↑(List.length l) : Int))), (16, (AV.i (wr (s2.2 + (1 : Int))))), (17, (AV.b (decide (s2.2 < (↑(List.length l) : Int))))), (18, (AV.i s2.2)), (19, (AV.ip (List.drop ((Int.toNat s2.2) * (34 : Nat)) (List.flatMap Ce.cells l)))), (20, (AV.ag (Ce.cells (ceAt l (Int.toNat s2.2))))), (6, (AV.pt 1 0)), (5, (AV.i s2.2)), (21, (AV.i s2.2)), (22, (AV.pt 1 0)), (23, (AV.i (ceAt l (Int.toNat s2.2)).kind)), (24, (AV.pt 1 1)), (25, (AV.i (ceAt l (Int.toNat s2.2)).gen)), (26, (AV.ag [(AV.i s2.2), (AV.i 1), (AV.i (ceAt l (Int.toNat s2.2)).kind), (AV.i (ceAt l (Int.toNat s2.2)).gen), AV.nl])), (7, (AV.pt 2 0)), (27, (AV.pt 1 0)), (28, (AV.i (ceAt l (Int.toNat s2.2)).kind)), (29, (AV.b ((ceAt l (Int.toNat s2.2)).kind == (2 : Int)))), (30, (AV.pt 1 2)), (31, (AV.rf 1 1 2 32)), (32, (AV.rf 3 1 0 32)), (33, (AV.pt 2 4)), (34, (AV.rf 0 5 0 (List.length s2.1))), (35, (AV.i (↑(List.length s2.1) : Int))), (8, (AV.i (↑(List.length s2.1) : Int))), (36, (AV.i (↑(List.length s2.1) : Int))), (37, (AV.b (decide ((↑(List.length s2.1) : Int) > (0 : Int))))), (55, (AV.rf 0 5 0 (List.length s2.1))), (56, (AV.ag [(AV.i s2.2), (AV.i 1), (AV.i (ceAt l (Int.toNat s2.2)).kind), (AV.i (ceAt l (Int.toNat s2.2)).gen), (AV.rf 3 1 0 32)])), (57, (AV.rf 4 5 0 1)), (58, (AV.rf 5 5 0 ((List.length s2.1) + (1 : Nat)))), (59, (AV.i (wr (s2.2 + (1 : Int)))))] 61 (AH.mk 6 [(5, (AObj.cells ((List.flatMap Ex.cells s2.1) ++ [(AV.i s2.2), (AV.i 1), (AV.i (ceAt l (Int.toNat s2.2)).kind), (AV.i (ceAt l (Int.toNat s2.2)).gen), (AV.rf 3 1 0 32)]))), (4, (AObj.cells [(AV.i s2.2), (AV.i 1), (AV.i (ceAt l (Int.toNat s2.2)).kind), (AV.i (ceAt l (Int.toNat s2.2)).gen), (AV.rf 3 1 0 32)])), (3, (AObj.cells (List.take 32 (List.map AV.y (pad 32 (ceAt l (Int.toNat s2.2)).d))))), (2, (AObj.cells [(AV.i s2.2), (AV.i 1), (AV.i (ceAt l (Int.toNat s2.2)).kind), (AV.i (ceAt l (Int.toNat s2.2)).gen), (AV.rf 3 1 0 32)])), (1, (AObj.cells ((AV.i (ceAt l (Int.toNat s2.2)).kind) :: (AV.i (ceAt l (Int.toNat s2.2)).gen) :: (List.map AV.y (pad 32 (ceAt l (Int.toNat s2.2)).d))))), (0, AObj.dead)]) Bool.false)) (ps := [((decide (s2.2 < (↑(List.length l) : Int)))) = true, (((0 : Int) ≤ s2.2) ∧ (s2.2 < (↑(List.length l) : Int))), ((34 : Nat) ≤ (List.length (List.drop ((Int.toNat s2.2) * (34 : Nat)) (List.flatMap Ce.cells l)))), (List.take 34 (List.drop ((Int.toNat s2.2) * (34 : Nat)) (List.flatMap Ce.cells l))) = (Ce.cells (ceAt l (Int.toNat s2.2))), (((List.length ((AV.i (ceAt l (Int.toNat s2.2)).kind) :: (AV.i (ceAt l (Int.toNat s2.2)).gen) :: (List.map AV.y (pad 32 (ceAt l (Int.toNat s2.2)).d)))) = (34 : Nat)) ∧ (((0 : Nat) + (List.length ((AV.i (ceAt l (Int.toNat s2.2)).kind) :: (AV.i (ceAt l (Int.toNat s2.2)).gen) :: (List.map AV.y (pad 32 (ceAt l (Int.toNat s2.2)).d))))) ≤ (34 : Nat))), (over ((AV.i (Int.ofNat 0)) :: (AV.i (Int.ofNat 0)) :: List.replicate (32 : Nat) (AV.y (UInt8.ofNat (0 : Nat)))) 0 ((AV.i (ceAt l (Int.toNat s2.2)).kind) :: (AV.i (ceAt l (Int.toNat s2.2)).gen) :: (List.map AV.y (pad 32 (ceAt l (Int.toNat s2.2)).d)))) = ((AV.i (ceAt l (Int.toNat s2.2)).kind) :: (AV.i (ceAt l (Int.toNat s2.2)).gen) :: (List.map AV.y (pad 32 (ceAt l (Int.toNat s2.2)).d))), ([(AV.i s2.2), (AV.i 1), (AV.i (ceAt l (Int.toNat s2.2)).kind), (AV.i (ceAt l (Int.toNat s2.2)).gen), AV.nl] : List AV) = [(AV.i s2.2), (AV.i 1), (AV.i (ceAt l (Int.toNat s2.2)).kind), (AV.i (ceAt l (Int.toNat s2.2)).gen), AV.nl], (((ceAt l (Int.toNat s2.2)).kind == (2 : Int))) = true, (((0 : Nat) ≤ (32 : Nat)) ∧ (((32 : Nat) ≤ (32 : Nat)) ∧ ((34 : Nat) ≤ (List.length ((AV.i (ceAt l (Int.toNat s2.2)).kind) :: (AV.i (ceAt l (Int.toNat s2.2)).gen) :: (List.map AV.y (pad 32 (ceAt l (Int.toNat s2.2)).d))))))), ((34 : Nat) ≤ (List.length ((AV.i (ceAt l (Int.toNat s2.2)).kind) :: (AV.i (ceAt l (Int.toNat s2.2)).gen) :: (List.map AV.y (pad 32 (ceAt l (Int.toNat s2.2)).d))))), ([(AV.i s2.2), (AV.i 1), (AV.i (ceAt l (Int.toNat s2.2)).kind), (AV.i (ceAt l (Int.toNat s2.2)).gen), (AV.rf 3 1 0 32)] : List AV) = [(AV.i s2.2), (AV.i 1), (AV.i (ceAt l (Int.toNat s2.2)).kind), (AV.i (ceAt l (Int.toNat s2.2)).gen), (AV.rf 3 1 0 32)], ((decide ((↑(List.length s2.1) : Int) > (0 : Int)))) = false, ([(AV.i s2.2), (AV.i 1), (AV.i (ceAt l (Int.toNat s2.2)).kind), (AV.i (ceAt l (Int.toNat s2.2)).gen), (AV.rf 3 1 0 32)] : List AV) = [(AV.i s2.2), (AV.i 1), (AV.i (ceAt l (Int.toNat s2.2)).kind), (AV.i (ceAt l (Int.toNat s2.2)).gen), (AV.rf 3 1 0 32)], ([(AV.i s2.2), (AV.i 1), (AV.i (ceAt l (Int.toNat s2.2)).kind), (AV.i (ceAt l (Int.toNat s2.2)).gen), (AV.rf 3 1 0 32)] : List AV) = [(AV.i s2.2), (AV.i 1), (AV.i (ceAt l (Int.toNat s2.2)).kind), (AV.i (ceAt l (Int.toNat s2.2)).gen), (AV.rf 3 1 0 32)], ([(AV.i s2.2), (AV.i 1), (AV.i (ceAt l (Int.toNat s2.2)).kind), (AV.i (ceAt l (Int.toNat s2.2)).gen), (AV.rf 3 1 0 32)] : List AV) = [(AV.i s2.2), (AV.i 1), (AV.i (ceAt l (Int.toNat s2.2)).kind), (AV.i (ceAt l (Int.toNat s2.2)).gen), (AV.rf 3 1 0 32)], (((0 : Nat) = (0 : Nat)) ∧ ((List.length [(AV.i s2.2), (AV.i 1), (AV.i (ceAt l (Int.toNat s2.2)).kind), (AV.i (ceAt l (Int.toNat s2.2)).gen), (AV.rf 3 1 0 32)]) = (5 : Nat))), (((List.length (List.flatMap Ex.cells s2.1)) = ((List.length s2.1) * (5 : Nat))) ∧ (((List.length s2.1) + (1 : Nat)) ≤ (4294967296 : Nat)))]) kq ⟨h3, h4, fq, (by first | exact ce_take _ _ bq | (simpa using ce_take (l) ((Int.toNat s2.2)) bq) | ((try simp only [List.drop_drop]); rw [show ((Int.toNat s2.2) * (34 : Nat)) = ((Int.toNat s2.2)) * 34 by omega]; exact ce_take _ _ bq)), tq, (over_all tq), rfl, h5, tq, tq, rfl, h6, rfl, rfl, rfl, tq, h7, trivial⟩ (Nat.le_of_ble_eq_true rfl) (absB_of [5] [3] kq (.consn kq (.eqv tq rfl) (.consn kq .nl0 (.consn kq (.eqv tq rfl) (.consn kq (.eqv tq rfl) (.consn kq (.rfn (n := ((List.length s2.1) + (1 : Nat))) rfl tq) (.consn kq (.eqv tq rfl) (.consn kq (.eqv tq rfl) (.consn kq (.eqv tq rfl) .nil)))))))) (.cons (.old rfl rfl (.cells (.cast rfl tq (.app (.pl rfl pq) (.cons (.eqv rfl rfl) (.cons (.eqv rfl rfl) (.cons (.eqv rfl rfl) (.cons (.eqv rfl rfl) (.cons (.frzn rfl tq pq (by simp) tq) .nil))))))))) .nil))
theorem iMap_L0_s3 (l : List Ce) (s0 : Bool) (s2 : List Ex × Int) (h3 : ((decide (s2.2 < (↑(List.length l) : Int)))) = true) (h3p : (s2.2 < (↑(List.length l) : Int))) (h4 : (((0 : Int) ≤ s2.2) ∧ (s2.2 < (↑(List.length l) : Int)))) (h5 : (((ceAt l (Int.toNat s2.2)).kind == (2 : Int))) = false) (h5p : ¬ ((ceAt l (Int.toNat s2.2)).kind = (2 : Int))) (h6 : ((decide ((↑(List.length s2.1) : Int) > (0 : Int)))) = true) (h6p : ((↑(List.length s2.1) : Int) > (0 : Int))) (h7 : (((0 : Int) ≤ (wr ((↑(List.length s2.1) : Int) - (1 : Int)))) ∧ ((wr ((↑(List.length s2.1) : Int) - (1 : Int))) < (↑(List.length s2.1) : Int)))) (s8 : Ex × Int) (h8 : eJoin ((exAt s2.1 (Int.toNat (wr ((↑(List.length s2.1) : Int) - (1 : Int)))))) ((Ex.mk s2.2 1 (ceAt l (Int.toNat s2.2)).kind (ceAt l (Int.toNat s2.2)).gen ([] : List UInt8))) = some s8) (h9 : ((s8.2 == (0 : Int))) = true) (h9p : (s8.2 = (0 : Int))) (h10 : (((List.length (xc s8.1)) = (5 : Nat)) ∧ ((((0 : Nat) + ((Int.toNat (wr ((↑(List.length s2.1) : Int) - (1 : Int)))) * (5 : Nat))) + (List.length (xc s8.1))) ≤ (List.length (List.flatMap Ex.cells s2.1))))) : EvStep Try.prog cf 0 (lp Try.prog 13 0) (iMap_L0_S l s0 s2) (iMap_L0_S l s0 (((List.set s2.1 (Int.toNat (wr ((↑(List.length s2.1) : Int) - (1 : Int)))) s8.1), (wr (s2.2 + (1 : Int)))))) :=
  leafS vw_eq (k := 300) (r := []) (hs := hz [(1, [.yes]), (1, [.yes, .yes, .cells ((Ce.cells (ceAt l (Int.toNat s2.2))))]), (2, [.yes, .cells (((AV.i (ceAt l (Int.toNat s2.2)).kind) :: (AV.i (ceAt l (Int.toNat s2.2)).gen) :: (List.map AV.y (pad 32 (ceAt l (Int.toNat s2.2)).d))))]), (10, [.cells ([(AV.i s2.2), (AV.i 1), (AV.i (ceAt l (Int.toNat s2.2)).kind), (AV.i (ceAt l (Int.toNat s2.2)).gen), AV.nl])]), (4, [.no]), (5, [.yes]), (3, [.yes, .yes, .cells ((Ex.cells (exAt s2.1 (Int.toNat (wr ((↑(List.length s2.1) : Int) - (1 : Int)))))))]), (1, [.cells ([(AV.i s2.2), (AV.i 1), (AV.i (ceAt l (Int.toNat s2.2)).kind), (AV.i (ceAt l (Int.toNat s2.2)).gen), AV.nl])]), (1, [.fres (.tu [Ex.av (s8.1), .i (s8.2)])]), (5, [.cells ((xc s8.1))]), (1, [.yes]), (2, [.yes]), (4, [.cells ((xc s8.1)), .yes, .yes, .cells ((List.flatMap Ex.cells (List.set s2.1 (Int.toNat (wr ((↑(List.length s2.1) : Int) - (1 : Int)))) s8.1)))]), (2, [])]) (st1 := (St.mk [(0, (AV.sl (List.length l) (List.flatMap Ce.cells l))), (2, AV.nl), (3, (AV.i 0)), (13, (AV.b (!s0))), (4, (AV.rf 0 5 0 (List.length s2.1))), (14, (AV.sl (List.length l) (List.flatMap Ce.cells l))), (15, (AV.i (↑(List.length l) : Int))), (16, (AV.i (wr (s2.2 + (1 : Int))))), (17, (AV.b (decide (s2.2 < (↑(List.length l) : Int))))), (18, (AV.i s2.2)), (19, (AV.ip (List.drop ((Int.toNat s2.2) * (34 : Nat)) (List.flatMap Ce.cells l)))), (20, (AV.ag (Ce.cells (ceAt l (Int.toNat s2.2))))), (6, (AV.pt 1 0)), (5, (AV.i s2.2)), (21, (AV.i s2.2)), (22, (AV.pt 1 0)), (23, (AV.i (ceAt l (Int.toNat s2.2)).kind)), (24, (AV.pt 1 1)), (25, (AV.i (ceAt l (Int.toNat s2.2)).gen)), (26, (AV.ag [(AV.i s2.2), (AV.i 1), (AV.i (ceAt l (Int.toNat s2.2)).kind), (AV.i (ceAt l (Int.toNat s2.2)).gen), AV.nl])), (7, (AV.pt 2 0)), (27, (AV.pt 1 0)), (28, (AV.i (ceAt l (Int.toNat s2.2)).kind)), (29, (AV.b ((ceAt l (Int.toNat s2.2)).kind == (2 : Int)))), (34, (AV.rf 0 5 0 (List.length s2.1))), (35, (AV.i (↑(List.length s2.1) : Int))), (8, (AV.i (↑(List.length s2.1) : Int))), (36, (AV.i (↑(List.length s2.1) : Int))), (37, (AV.b (decide ((↑(List.length s2.1) : Int) > (0 : Int))))), (39, (AV.rf 0 5 0 (List.length s2.1))), (40, (AV.i (↑(List.length s2.1) : Int))), (41, (AV.i (wr ((↑(List.length s2.1) : Int) - (1 : Int))))), (42, (AV.pt 0 ((0 : Nat) + ((Int.toNat (wr ((↑(List.length s2.1) : Int) - (1 : Int)))) * (5 : Nat))))), (43, (AV.ag (xc (exAt s2.1 (Int.toNat (wr ((↑(List.length s2.1) : Int) - (1 : Int)))))))), (44, (AV.ag [(AV.i s2.2), (AV.i 1), (AV.i (ceAt l (Int.toNat s2.2)).kind), (AV.i (ceAt l (Int.toNat s2.2)).gen), AV.nl])), (45, (AV.tu [(AV.ag (xc s8.1)), (AV.i s8.2)])), (38, (AV.tu [(AV.ag (xc s8.1)), (AV.i s8.2)])), (46, (AV.ag (xc s8.1))), (47, (AV.i s8.2)), (9, (AV.pt 3 0)), (10, (AV.i s8.2)), (48, (AV.i s8.2)), (49, (AV.b (s8.2 == (0 : Int)))), (50, (AV.rf 0 5 0 (List.length s2.1))), (51, (AV.i (↑(List.length s2.1) : Int))), (52, (AV.i (wr ((↑(List.length s2.1) : Int) - (1 : Int))))), (53, (AV.ag (xc s8.1))), (54, (AV.pt 0 ((0 : Nat) + ((Int.toNat (wr ((↑(List.length s2.1) : Int) - (1 : Int)))) * (5 : Nat))))), (59, (AV.i (wr (s2.2 + (1 : Int)))))] 61 (AH.mk 4 [(3, (AObj.cells (xc s8.1))), (2, (AObj.cells [(AV.i s2.2), (AV.i 1), (AV.i (ceAt l (Int.toNat s2.2)).kind), (AV.i (ceAt l (Int.toNat s2.2)).gen), AV.nl])), (1, (AObj.cells ((AV.i (ceAt l (Int.toNat s2.2)).kind) :: (AV.i (ceAt l (Int.toNat s2.2)).gen) :: (List.map AV.y (pad 32 (ceAt l (Int.toNat s2.2)).d))))), (0, (AObj.cells (List.flatMap Ex.cells (List.set s2.1 (Int.toNat (wr ((↑(List.length s2.1) : Int) - (1 : Int)))) s8.1))))]) Bool.false)) (ps := [((decide (s2.2 < (↑(List.length l) : Int)))) = true, (((0 : Int) ≤ s2.2) ∧ (s2.2 < (↑(List.length l) : Int))), ((34 : Nat) ≤ (List.length (List.drop ((Int.toNat s2.2) * (34 : Nat)) (List.flatMap Ce.cells l)))), (List.take 34 (List.drop ((Int.toNat s2.2) * (34 : Nat)) (List.flatMap Ce.cells l))) = (Ce.cells (ceAt l (Int.toNat s2.2))), (((List.length ((AV.i (ceAt l (Int.toNat s2.2)).kind) :: (AV.i (ceAt l (Int.toNat s2.2)).gen) :: (List.map AV.y (pad 32 (ceAt l (Int.toNat s2.2)).d)))) = (34 : Nat)) ∧ (((0 : Nat) + (List.length ((AV.i (ceAt l (Int.toNat s2.2)).kind) :: (AV.i (ceAt l (Int.toNat s2.2)).gen) :: (List.map AV.y (pad 32 (ceAt l (Int.toNat s2.2)).d))))) ≤ (34 : Nat))), (over ((AV.i (Int.ofNat 0)) :: (AV.i (Int.ofNat 0)) :: List.replicate (32 : Nat) (AV.y (UInt8.ofNat (0 : Nat)))) 0 ((AV.i (ceAt l (Int.toNat s2.2)).kind) :: (AV.i (ceAt l (Int.toNat s2.2)).gen) :: (List.map AV.y (pad 32 (ceAt l (Int.toNat s2.2)).d)))) = ((AV.i (ceAt l (Int.toNat s2.2)).kind) :: (AV.i (ceAt l (Int.toNat s2.2)).gen) :: (List.map AV.y (pad 32 (ceAt l (Int.toNat s2.2)).d))), ([(AV.i s2.2), (AV.i 1), (AV.i (ceAt l (Int.toNat s2.2)).kind), (AV.i (ceAt l (Int.toNat s2.2)).gen), AV.nl] : List AV) = [(AV.i s2.2), (AV.i 1), (AV.i (ceAt l (Int.toNat s2.2)).kind), (AV.i (ceAt l (Int.toNat s2.2)).gen), AV.nl], (((ceAt l (Int.toNat s2.2)).kind == (2 : Int))) = false, ((decide ((↑(List.length s2.1) : Int) > (0 : Int)))) = true, (((0 : Int) ≤ (wr ((↑(List.length s2.1) : Int) - (1 : Int)))) ∧ ((wr ((↑(List.length s2.1) : Int) - (1 : Int))) < (↑(List.length s2.1) : Int))), ((((0 : Nat) + ((Int.toNat (wr ((↑(List.length s2.1) : Int) - (1 : Int)))) * (5 : Nat))) + (5 : Nat)) ≤ (List.length (List.flatMap Ex.cells s2.1))), (List.take 5 (List.drop ((0 : Nat) + ((Int.toNat (wr ((↑(List.length s2.1) : Int) - (1 : Int)))) * (5 : Nat))) (List.flatMap Ex.cells s2.1))) = (Ex.cells (exAt s2.1 (Int.toNat (wr ((↑(List.length s2.1) : Int) - (1 : Int)))))), ([(AV.i s2.2), (AV.i 1), (AV.i (ceAt l (Int.toNat s2.2)).kind), (AV.i (ceAt l (Int.toNat s2.2)).gen), AV.nl] : List AV) = [(AV.i s2.2), (AV.i 1), (AV.i (ceAt l (Int.toNat s2.2)).kind), (AV.i (ceAt l (Int.toNat s2.2)).gen), AV.nl], EvFr Try.prog cf Bool.false 33 [(AV.ag (xc (exAt s2.1 (Int.toNat (wr ((↑(List.length s2.1) : Int) - (1 : Int))))))), (AV.ag [(AV.i s2.2), (AV.i 1), (AV.i (ceAt l (Int.toNat s2.2)).kind), (AV.i (ceAt l (Int.toNat s2.2)).gen), (AV.sl 0 ([] : List AV))])] (.tu [Ex.av (s8.1), .i (s8.2)]), ((xc s8.1) : List AV) = (xc s8.1), orderOk (rg Try.prog 13 0) = true ∧ allOk (Region.before (rg Try.prog 13 0)) [] 0 [(some [], some []), (some [], some []), (some [], some []), (some [], some []), (some [0], some []), (some [2], some []), (some [], some []), (some [], some []), (some [], some []), (some [], some []), (some [], some [3]), (some [3], some [3]), (some [], some [])] = true, ((s8.2 == (0 : Int))) = true, ((xc s8.1) : List AV) = (xc s8.1), (((0 : Int) ≤ (wr ((↑(List.length s2.1) : Int) - (1 : Int)))) ∧ ((wr ((↑(List.length s2.1) : Int) - (1 : Int))) < (↑(List.length s2.1) : Int))), (((List.length (xc s8.1)) = (5 : Nat)) ∧ ((((0 : Nat) + ((Int.toNat (wr ((↑(List.length s2.1) : Int) - (1 : Int)))) * (5 : Nat))) + (List.length (xc s8.1))) ≤ (List.length (List.flatMap Ex.cells s2.1)))), (((List.take ((0 : Nat) + ((Int.toNat (wr ((↑(List.length s2.1) : Int) - (1 : Int)))) * (5 : Nat))) (List.flatMap Ex.cells s2.1)) ++ (xc s8.1)) ++ (List.drop (((0 : Nat) + ((Int.toNat (wr ((↑(List.length s2.1) : Int) - (1 : Int)))) * (5 : Nat))) + (List.length (xc s8.1))) (List.flatMap Ex.cells s2.1))) = (List.flatMap Ex.cells (List.set s2.1 (Int.toNat (wr ((↑(List.length s2.1) : Int) - (1 : Int)))) s8.1))]) kq ⟨h3, h4, fq, (by first | exact ce_take _ _ bq | (simpa using ce_take (l) ((Int.toNat s2.2)) bq) | ((try simp only [List.drop_drop]); rw [show ((Int.toNat s2.2) * (34 : Nat)) = ((Int.toNat s2.2)) * 34 by omega]; exact ce_take _ _ bq)), tq, (over_all tq), rfl, h5, h6, h7, fq, (by first | exact ex_take _ _ bq | (simpa using ex_take (s2.1) ((Int.toNat (wr ((↑(List.length s2.1) : Int) - (1 : Int))))) bq) | ((try simp only [List.drop_drop]); rw [show ((0 : Nat) + ((Int.toNat (wr ((↑(List.length s2.1) : Int) - (1 : Int)))) * (5 : Nat))) = ((Int.toNat (wr ((↑(List.length s2.1) : Int) - (1 : Int))))) * 5 by omega]; exact ex_take _ _ bq)), rfl, ((eJoin_ok ((exAt s2.1 (Int.toNat (wr ((↑(List.length s2.1) : Int) - (1 : Int)))))) ((Ex.mk s2.2 1 (ceAt l (Int.toNat s2.2)).kind (ceAt l (Int.toNat s2.2)).gen ([] : List UInt8))) _ h8).any.cast tq), rfl, (ord_of ord_13_0 bef_13_0 kq), h9, rfl, h7, h10, (by rw [show ((0 : Nat) + ((Int.toNat (wr ((↑(List.length s2.1) : Int) - (1 : Int)))) * (5 : Nat))) = ((Int.toNat (wr ((↑(List.length s2.1) : Int) - (1 : Int))))) * 5 by omega]; exact ex_set _ _ (s8.1) bq), trivial⟩ (Nat.le_of_ble_eq_true rfl) (absB_of [0] [] kq (.consn kq (.eqv tq rfl) (.consn kq .nl0 (.consn kq (.eqv tq rfl) (.consn kq (.eqv tq rfl) (.consn kq (.rfn (n := (List.length s2.1)) rfl tq) (.consn kq (.eqv tq rfl) (.consn kq (.eqv tq rfl) (.consn kq (.eqv tq rfl) .nil)))))))) (.cons (.old rfl rfl (.cells (.pl tq pq))) .nil))
theorem iMap_L0_s4 (l : List Ce) (s0 : Bool) (s2 : List Ex × Int) (h3 : ((decide (s2.2 < (↑(List.length l) : Int)))) = true) (h3p : (s2.2 < (↑(List.length l) : Int))) (h4 : (((0 : Int) ≤ s2.2) ∧ (s2.2 < (↑(List.length l) : Int)))) (h5 : (((ceAt l (Int.toNat s2.2)).kind == (2 : Int))) = false) (h5p : ¬ ((ceAt l (Int.toNat s2.2)).kind = (2 : Int))) (h6 : ((decide ((↑(List.length s2.1) : Int) > (0 : Int)))) = true) (h6p : ((↑(List.length s2.1) : Int) > (0 : Int))) (h7 : (((0 : Int) ≤ (wr ((↑(List.length s2.1) : Int) - (1 : Int)))) ∧ ((wr ((↑(List.length s2.1) : Int) - (1 : Int))) < (↑(List.length s2.1) : Int)))) (s8 : Ex × Int) (h8 : eJoin ((exAt s2.1 (Int.toNat (wr ((↑(List.length s2.1) : Int) - (1 : Int)))))) ((Ex.mk s2.2 1 (ceAt l (Int.toNat s2.2)).kind (ceAt l (Int.toNat s2.2)).gen ([] : List UInt8))) = some s8) (h9 : ((s8.2 == (0 : Int))) = false) (h9p : ¬ (s8.2 = (0 : Int))) (h10 : (((List.length (List.flatMap Ex.cells s2.1)) = ((List.length s2.1) * (5 : Nat))) ∧ (((List.length s2.1) + (1 : Nat)) ≤ (4294967296 : Nat)))) : EvStep Try.prog cf 0 (lp Try.prog 13 0) (iMap_L0_S l s0 s2) (iMap_L0_S l s0 (((s2.1 ++ [(Ex.mk s2.2 1 (ceAt l (Int.toNat s2.2)).kind (ceAt l (Int.toNat s2.2)).gen ([] : List UInt8))]), (wr (s2.2 + (1 : Int)))))) :=
  leafS vw_eq (k := 300) (r := []) (hs := hz [(1, [.yes]), (1, [.yes, .yes, .cells ((Ce.cells (ceAt l (Int.toNat s2.2))))]), (2, [.yes, .cells (((AV.i (ceAt l (Int.toNat s2.2)).kind) :: (AV.i (ceAt l (Int.toNat s2.2)).gen) :: (List.map AV.y (pad 32 (ceAt l (Int.toNat s2.2)).d))))]), (10, [.cells ([(AV.i s2.2), (AV.i 1), (AV.i (ceAt l (Int.toNat s2.2)).kind), (AV.i (ceAt l (Int.toNat s2.2)).gen), AV.nl])]), (4, [.no]), (5, [.yes]), (3, [.yes, .yes, .cells ((Ex.cells (exAt s2.1 (Int.toNat (wr ((↑(List.length s2.1) : Int) - (1 : Int)))))))]), (1, [.cells ([(AV.i s2.2), (AV.i 1), (AV.i (ceAt l (Int.toNat s2.2)).kind), (AV.i (ceAt l (Int.toNat s2.2)).gen), AV.nl])]), (1, [.fres (.tu [Ex.av (s8.1), .i (s8.2)])]), (5, [.cells ((xc s8.1))]), (1, [.yes]), (2, [.no]), (2, [.cells ([(AV.i s2.2), (AV.i 1), (AV.i (ceAt l (Int.toNat s2.2)).kind), (AV.i (ceAt l (Int.toNat s2.2)).gen), AV.nl])]), (1, [.cells ([(AV.i s2.2), (AV.i 1), (AV.i (ceAt l (Int.toNat s2.2)).kind), (AV.i (ceAt l (Int.toNat s2.2)).gen), AV.nl]), .cells ([(AV.i s2.2), (AV.i 1), (AV.i (ceAt l (Int.toNat s2.2)).kind), (AV.i (ceAt l (Int.toNat s2.2)).gen), AV.nl]), .yes, .yes]), (3, [])]) (st1 := (St.mk [(0, (AV.sl (List.length l) (List.flatMap Ce.cells l))), (2, AV.nl), (3, (AV.i 0)), (13, (AV.b (!s0))), (4, (AV.rf 5 5 0 ((List.length s2.1) + (1 : Nat)))), (14, (AV.sl (List.length l) (List.flatMap Ce.cells l))), (15, (AV.i (↑(List.length l) : Int))), (16, (AV.i (wr (s2.2 + (1 : Int))))), (17, (AV.b (decide (s2.2 < (↑(List.length l) : Int))))), (18, (AV.i s2.2)), (19, (AV.ip (List.drop ((Int.toNat s2.2) * (34 : Nat)) (List.flatMap Ce.cells l)))), (20, (AV.ag (Ce.cells (ceAt l (Int.toNat s2.2))))), (6, (AV.pt 1 0)), (5, (AV.i s2.2)), (21, (AV.i s2.2)), (22, (AV.pt 1 0)), (23, (AV.i (ceAt l (Int.toNat s2.2)).kind)), (24, (AV.pt 1 1)), (25, (AV.i (ceAt l (Int.toNat s2.2)).gen)), (26, (AV.ag [(AV.i s2.2), (AV.i 1), (AV.i (ceAt l (Int.toNat s2.2)).kind), (AV.i (ceAt l (Int.toNat s2.2)).gen), AV.nl])), (7, (AV.pt 2 0)), (27, (AV.pt 1 0)), (28, (AV.i (ceAt l (Int.toNat s2.2)).kind)), (29, (AV.b ((ceAt l (Int.toNat s2.2)).kind == (2 : Int)))), (34, (AV.rf 0 5 0 (List.length s2.1))), (35, (AV.i (↑(List.length s2.1) : Int))), (8, (AV.i (↑(List.length s2.1) : Int))), (36, (AV.i (↑(List.length s2.1) : Int))), (37, (AV.b (decide ((↑(List.length s2.1) : Int) > (0 : Int))))), (39, (AV.rf 0 5 0 (List.length s2.1))), (40, (AV.i (↑(List.length s2.1) : Int))), (41, (AV.i (wr ((↑(List.length s2.1) : Int) - (1 : Int))))), (42, (AV.pt 0 ((0 : Nat) + ((Int.toNat (wr ((↑(List.length s2.1) : Int) - (1 : Int)))) * (5 : Nat))))), (43, (AV.ag (xc (exAt s2.1 (Int.toNat (wr ((↑(List.length s2.1) : Int) - (1 : Int)))))))), (44, (AV.ag [(AV.i s2.2), (AV.i 1), (AV.i (ceAt l (Int.toNat s2.2)).kind), (AV.i (ceAt l (Int.toNat s2.2)).gen), AV.nl])), (45, (AV.tu [(AV.ag (xc s8.1)), (AV.i s8.2)])), (38, (AV.tu [(AV.ag (xc s8.1)), (AV.i s8.2)])), (46, (AV.ag (xc s8.1))), (47, (AV.i s8.2)), (9, (AV.pt 3 0)), (10, (AV.i s8.2)), (48, (AV.i s8.2)), (49, (AV.b (s8.2 == (0 : Int)))), (55, (AV.rf 0 5 0 (List.length s2.1))), (56, (AV.ag [(AV.i s2.2), (AV.i 1), (AV.i (ceAt l (Int.toNat s2.2)).kind), (AV.i (ceAt l (Int.toNat s2.2)).gen), AV.nl])), (57, (AV.rf 4 5 0 1)), (58, (AV.rf 5 5 0 ((List.length s2.1) + (1 : Nat)))), (59, (AV.i (wr (s2.2 + (1 : Int)))))] 61 (AH.mk 6 [(5, (AObj.cells ((List.flatMap Ex.cells s2.1) ++ [(AV.i s2.2), (AV.i 1), (AV.i (ceAt l (Int.toNat s2.2)).kind), (AV.i (ceAt l (Int.toNat s2.2)).gen), AV.nl]))), (4, (AObj.cells [(AV.i s2.2), (AV.i 1), (AV.i (ceAt l (Int.toNat s2.2)).kind), (AV.i (ceAt l (Int.toNat s2.2)).gen), AV.nl])), (3, (AObj.cells (xc s8.1))), (2, (AObj.cells [(AV.i s2.2), (AV.i 1), (AV.i (ceAt l (Int.toNat s2.2)).kind), (AV.i (ceAt l (Int.toNat s2.2)).gen), AV.nl])), (1, (AObj.cells ((AV.i (ceAt l (Int.toNat s2.2)).kind) :: (AV.i (ceAt l (Int.toNat s2.2)).gen) :: (List.map AV.y (pad 32 (ceAt l (Int.toNat s2.2)).d))))), (0, AObj.dead)]) Bool.false)) (ps := [((decide (s2.2 < (↑(List.length l) : Int)))) = true, (((0 : Int) ≤ s2.2) ∧ (s2.2 < (↑(List.length l) : Int))), ((34 : Nat) ≤ (List.length (List.drop ((Int.toNat s2.2) * (34 : Nat)) (List.flatMap Ce.cells l)))), (List.take 34 (List.drop ((Int.toNat s2.2) * (34 : Nat)) (List.flatMap Ce.cells l))) = (Ce.cells (ceAt l (Int.toNat s2.2))), (((List.length ((AV.i (ceAt l (Int.toNat s2.2)).kind) :: (AV.i (ceAt l (Int.toNat s2.2)).gen) :: (List.map AV.y (pad 32 (ceAt l (Int.toNat s2.2)).d)))) = (34 : Nat)) ∧ (((0 : Nat) + (List.length ((AV.i (ceAt l (Int.toNat s2.2)).kind) :: (AV.i (ceAt l (Int.toNat s2.2)).gen) :: (List.map AV.y (pad 32 (ceAt l (Int.toNat s2.2)).d))))) ≤ (34 : Nat))), (over ((AV.i (Int.ofNat 0)) :: (AV.i (Int.ofNat 0)) :: List.replicate (32 : Nat) (AV.y (UInt8.ofNat (0 : Nat)))) 0 ((AV.i (ceAt l (Int.toNat s2.2)).kind) :: (AV.i (ceAt l (Int.toNat s2.2)).gen) :: (List.map AV.y (pad 32 (ceAt l (Int.toNat s2.2)).d)))) = ((AV.i (ceAt l (Int.toNat s2.2)).kind) :: (AV.i (ceAt l (Int.toNat s2.2)).gen) :: (List.map AV.y (pad 32 (ceAt l (Int.toNat s2.2)).d))), ([(AV.i s2.2), (AV.i 1), (AV.i (ceAt l (Int.toNat s2.2)).kind), (AV.i (ceAt l (Int.toNat s2.2)).gen), AV.nl] : List AV) = [(AV.i s2.2), (AV.i 1), (AV.i (ceAt l (Int.toNat s2.2)).kind), (AV.i (ceAt l (Int.toNat s2.2)).gen), AV.nl], (((ceAt l (Int.toNat s2.2)).kind == (2 : Int))) = false, ((decide ((↑(List.length s2.1) : Int) > (0 : Int)))) = true, (((0 : Int) ≤ (wr ((↑(List.length s2.1) : Int) - (1 : Int)))) ∧ ((wr ((↑(List.length s2.1) : Int) - (1 : Int))) < (↑(List.length s2.1) : Int))), ((((0 : Nat) + ((Int.toNat (wr ((↑(List.length s2.1) : Int) - (1 : Int)))) * (5 : Nat))) + (5 : Nat)) ≤ (List.length (List.flatMap Ex.cells s2.1))), (List.take 5 (List.drop ((0 : Nat) + ((Int.toNat (wr ((↑(List.length s2.1) : Int) - (1 : Int)))) * (5 : Nat))) (List.flatMap Ex.cells s2.1))) = (Ex.cells (exAt s2.1 (Int.toNat (wr ((↑(List.length s2.1) : Int) - (1 : Int)))))), ([(AV.i s2.2), (AV.i 1), (AV.i (ceAt l (Int.toNat s2.2)).kind), (AV.i (ceAt l (Int.toNat s2.2)).gen), AV.nl] : List AV) = [(AV.i s2.2), (AV.i 1), (AV.i (ceAt l (Int.toNat s2.2)).kind), (AV.i (ceAt l (Int.toNat s2.2)).gen), AV.nl], EvFr Try.prog cf Bool.false 33 [(AV.ag (xc (exAt s2.1 (Int.toNat (wr ((↑(List.length s2.1) : Int) - (1 : Int))))))), (AV.ag [(AV.i s2.2), (AV.i 1), (AV.i (ceAt l (Int.toNat s2.2)).kind), (AV.i (ceAt l (Int.toNat s2.2)).gen), (AV.sl 0 ([] : List AV))])] (.tu [Ex.av (s8.1), .i (s8.2)]), ((xc s8.1) : List AV) = (xc s8.1), orderOk (rg Try.prog 13 0) = true ∧ allOk (Region.before (rg Try.prog 13 0)) [] 0 [(some [], some []), (some [], some []), (some [], some []), (some [], some []), (some [0], some []), (some [2], some []), (some [], some []), (some [], some []), (some [], some []), (some [], some []), (some [], some [3]), (some [3], some [3]), (some [], some [])] = true, ((s8.2 == (0 : Int))) = false, ([(AV.i s2.2), (AV.i 1), (AV.i (ceAt l (Int.toNat s2.2)).kind), (AV.i (ceAt l (Int.toNat s2.2)).gen), AV.nl] : List AV) = [(AV.i s2.2), (AV.i 1), (AV.i (ceAt l (Int.toNat s2.2)).kind), (AV.i (ceAt l (Int.toNat s2.2)).gen), AV.nl], ([(AV.i s2.2), (AV.i 1), (AV.i (ceAt l (Int.toNat s2.2)).kind), (AV.i (ceAt l (Int.toNat s2.2)).gen), AV.nl] : List AV) = [(AV.i s2.2), (AV.i 1), (AV.i (ceAt l (Int.toNat s2.2)).kind), (AV.i (ceAt l (Int.toNat s2.2)).gen), AV.nl], ([(AV.i s2.2), (AV.i 1), (AV.i (ceAt l (Int.toNat s2.2)).kind), (AV.i (ceAt l (Int.toNat s2.2)).gen), AV.nl] : List AV) = [(AV.i s2.2), (AV.i 1), (AV.i (ceAt l (Int.toNat s2.2)).kind), (AV.i (ceAt l (Int.toNat s2.2)).gen), AV.nl], (((0 : Nat) = (0 : Nat)) ∧ ((List.length [(AV.i s2.2), (AV.i 1), (AV.i (ceAt l (Int.toNat s2.2)).kind), (AV.i (ceAt l (Int.toNat s2.2)).gen), AV.nl]) = (5 : Nat))), (((List.length (List.flatMap Ex.cells s2.1)) = ((List.length s2.1) * (5 : Nat))) ∧ (((List.length s2.1) + (1 : Nat)) ≤ (4294967296 : Nat)))]) kq ⟨h3, h4, fq, (by first | exact ce_take _ _ bq | (simpa using ce_take (l) ((Int.toNat s2.2)) bq) | ((try simp only [List.drop_drop]); rw [show ((Int.toNat s2.2) * (34 : Nat)) = ((Int.toNat s2.2)) * 34 by omega]; exact ce_take _ _ bq)), tq, (over_all tq), rfl, h5, h6, h7, fq, (by first | exact ex_take _ _ bq | (simpa using ex_take (s2.1) ((Int.toNat (wr ((↑(List.length s2.1) : Int) - (1 : Int))))) bq) | ((try simp only [List.drop_drop]); rw [show ((0 : Nat) + ((Int.toNat (wr ((↑(List.length s2.1) : Int) - (1 : Int)))) * (5 : Nat))) = ((Int.toNat (wr ((↑(List.length s2.1) : Int) - (1 : Int))))) * 5 by omega]; exact ex_take _ _ bq)), rfl, ((eJoin_ok ((exAt s2.1 (Int.toNat (wr ((↑(List.length s2.1) : Int) - (1 : Int)))))) ((Ex.mk s2.2 1 (ceAt l (Int.toNat s2.2)).kind (ceAt l (Int.toNat s2.2)).gen ([] : List UInt8))) _ h8).any.cast tq), rfl, (ord_of ord_13_0 bef_13_0 kq), h9, rfl, rfl, rfl, tq, h10, trivial⟩ (Nat.le_of_ble_eq_true rfl) (absB_of [5] [] kq (.consn kq (.eqv tq rfl) (.consn kq .nl0 (.consn kq (.eqv tq rfl) (.consn kq (.eqv tq rfl) (.consn kq (.rfn (n := ((List.length s2.1) + (1 : Nat))) rfl tq) (.consn kq (.eqv tq rfl) (.consn kq (.eqv tq rfl) (.consn kq (.eqv tq rfl) .nil)))))))) (.cons (.old rfl rfl (.cells (.cast rfl tq (.app (.pl rfl pq) (.cons (.eqv rfl rfl) (.cons (.eqv rfl rfl) (.cons (.eqv rfl rfl) (.cons (.eqv rfl rfl) (.cons (.pur 1 rfl (by simp)) .nil))))))))) .nil))
theorem iMap_L0_s5 (l : List Ce) (s0 : Bool) (s2 : List Ex × Int) (h3 : ((decide (s2.2 < (↑(List.length l) : Int)))) = true) (h3p : (s2.2 < (↑(List.length l) : Int))) (h4 : (((0 : Int) ≤ s2.2) ∧ (s2.2 < (↑(List.length l) : Int)))) (h5 : (((ceAt l (Int.toNat s2.2)).kind == (2 : Int))) = false) (h5p : ¬ ((ceAt l (Int.toNat s2.2)).kind = (2 : Int))) (h6 : ((decide ((↑(List.length s2.1) : Int) > (0 : Int)))) = false) (h6p : ¬ ((↑(List.length s2.1) : Int) > (0 : Int))) (h7 : (((List.length (List.flatMap Ex.cells s2.1)) = ((List.length s2.1) * (5 : Nat))) ∧ (((List.length s2.1) + (1 : Nat)) ≤ (4294967296 : Nat)))) : EvStep Try.prog cf 0 (lp Try.prog 13 0) (iMap_L0_S l s0 s2) (iMap_L0_S l s0 (((s2.1 ++ [(Ex.mk s2.2 1 (ceAt l (Int.toNat s2.2)).kind (ceAt l (Int.toNat s2.2)).gen ([] : List UInt8))]), (wr (s2.2 + (1 : Int)))))) :=
  leafS vw_eq (k := 300) (r := []) (hs := hz [(1, [.yes]), (1, [.yes, .yes, .cells ((Ce.cells (ceAt l (Int.toNat s2.2))))]), (2, [.yes, .cells (((AV.i (ceAt l (Int.toNat s2.2)).kind) :: (AV.i (ceAt l (Int.toNat s2.2)).gen) :: (List.map AV.y (pad 32 (ceAt l (Int.toNat s2.2)).d))))]), (10, [.cells ([(AV.i s2.2), (AV.i 1), (AV.i (ceAt l (Int.toNat s2.2)).kind), (AV.i (ceAt l (Int.toNat s2.2)).gen), AV.nl])]), (4, [.no]), (5, [.no]), (2, [.cells ([(AV.i s2.2), (AV.i 1), (AV.i (ceAt l (Int.toNat s2.2)).kind), (AV.i (ceAt l (Int.toNat s2.2)).gen), AV.nl])]), (1, [.cells ([(AV.i s2.2), (AV.i 1), (AV.i (ceAt l (Int.toNat s2.2)).kind), (AV.i (ceAt l (Int.toNat s2.2)).gen), AV.nl]), .cells ([(AV.i s2.2), (AV.i 1), (AV.i (ceAt l (Int.toNat s2.2)).kind), (AV.i (ceAt l (Int.toNat s2.2)).gen), AV.nl]), .yes, .yes]), (3, [])]) (st1 := (St.mk [(0, (AV.sl (List.length l) (List.flatMap Ce.cells l))), (2, AV.nl), (3, (AV.i 0)), (13, (AV.b (!s0))), (4, (AV.rf 4 5 0 ((List.length s2.1) + (1 : Nat)))), (14, (AV.sl (List.length l) (List.flatMap Ce.cells l))), (15, (AV.i (↑(List.length l) : Int))), (16, (AV.i (wr (s2.2 + (1 : Int))))), (17, (AV.b (decide (s2.2 < (↑(List.length l) : Int))))), (18, (AV.i s2.2)), (19, (AV.ip (List.drop ((Int.toNat s2.2) * (34 : Nat)) (List.flatMap Ce.cells l)))), (20, (AV.ag (Ce.cells (ceAt l (Int.toNat s2.2))))), (6, (AV.pt 1 0)), (5, (AV.i s2.2)), (21, (AV.i s2.2)), (22, (AV.pt 1 0)), (23, (AV.i (ceAt l (Int.toNat s2.2)).kind)), (24, (AV.pt 1 1)), (25, (AV.i (ceAt l (Int.toNat s2.2)).gen)), (26, (AV.ag [(AV.i s2.2), (AV.i 1), (AV.i (ceAt l (Int.toNat s2.2)).kind), (AV.i (ceAt l (Int.toNat s2.2)).gen), AV.nl])), (7, (AV.pt 2 0)), (27, (AV.pt 1 0)), (28, (AV.i (ceAt l (Int.toNat s2.2)).kind)), (29, (AV.b ((ceAt l (Int.toNat s2.2)).kind == (2 : Int)))), (34, (AV.rf 0 5 0 (List.length s2.1))), (35, (AV.i (↑(List.length s2.1) : Int))), (8, (AV.i (↑(List.length s2.1) : Int))), (36, (AV.i (↑(List.length s2.1) : Int))), (37, (AV.b (decide ((↑(List.length s2.1) : Int) > (0 : Int))))), (55, (AV.rf 0 5 0 (List.length s2.1))), (56, (AV.ag [(AV.i s2.2), (AV.i 1), (AV.i (ceAt l (Int.toNat s2.2)).kind), (AV.i (ceAt l (Int.toNat s2.2)).gen), AV.nl])), (57, (AV.rf 3 5 0 1)), (58, (AV.rf 4 5 0 ((List.length s2.1) + (1 : Nat)))), (59, (AV.i (wr (s2.2 + (1 : Int)))))] 61 (AH.mk 5 [(4, (AObj.cells ((List.flatMap Ex.cells s2.1) ++ [(AV.i s2.2), (AV.i 1), (AV.i (ceAt l (Int.toNat s2.2)).kind), (AV.i (ceAt l (Int.toNat s2.2)).gen), AV.nl]))), (3, (AObj.cells [(AV.i s2.2), (AV.i 1), (AV.i (ceAt l (Int.toNat s2.2)).kind), (AV.i (ceAt l (Int.toNat s2.2)).gen), AV.nl])), (2, (AObj.cells [(AV.i s2.2), (AV.i 1), (AV.i (ceAt l (Int.toNat s2.2)).kind), (AV.i (ceAt l (Int.toNat s2.2)).gen), AV.nl])), (1, (AObj.cells ((AV.i (ceAt l (Int.toNat s2.2)).kind) :: (AV.i (ceAt l (Int.toNat s2.2)).gen) :: (List.map AV.y (pad 32 (ceAt l (Int.toNat s2.2)).d))))), (0, AObj.dead)]) Bool.false)) (ps := [((decide (s2.2 < (↑(List.length l) : Int)))) = true, (((0 : Int) ≤ s2.2) ∧ (s2.2 < (↑(List.length l) : Int))), ((34 : Nat) ≤ (List.length (List.drop ((Int.toNat s2.2) * (34 : Nat)) (List.flatMap Ce.cells l)))), (List.take 34 (List.drop ((Int.toNat s2.2) * (34 : Nat)) (List.flatMap Ce.cells l))) = (Ce.cells (ceAt l (Int.toNat s2.2))), (((List.length ((AV.i (ceAt l (Int.toNat s2.2)).kind) :: (AV.i (ceAt l (Int.toNat s2.2)).gen) :: (List.map AV.y (pad 32 (ceAt l (Int.toNat s2.2)).d)))) = (34 : Nat)) ∧ (((0 : Nat) + (List.length ((AV.i (ceAt l (Int.toNat s2.2)).kind) :: (AV.i (ceAt l (Int.toNat s2.2)).gen) :: (List.map AV.y (pad 32 (ceAt l (Int.toNat s2.2)).d))))) ≤ (34 : Nat))), (over ((AV.i (Int.ofNat 0)) :: (AV.i (Int.ofNat 0)) :: List.replicate (32 : Nat) (AV.y (UInt8.ofNat (0 : Nat)))) 0 ((AV.i (ceAt l (Int.toNat s2.2)).kind) :: (AV.i (ceAt l (Int.toNat s2.2)).gen) :: (List.map AV.y (pad 32 (ceAt l (Int.toNat s2.2)).d)))) = ((AV.i (ceAt l (Int.toNat s2.2)).kind) :: (AV.i (ceAt l (Int.toNat s2.2)).gen) :: (List.map AV.y (pad 32 (ceAt l (Int.toNat s2.2)).d))), ([(AV.i s2.2), (AV.i 1), (AV.i (ceAt l (Int.toNat s2.2)).kind), (AV.i (ceAt l (Int.toNat s2.2)).gen), AV.nl] : List AV) = [(AV.i s2.2), (AV.i 1), (AV.i (ceAt l (Int.toNat s2.2)).kind), (AV.i (ceAt l (Int.toNat s2.2)).gen), AV.nl], (((ceAt l (Int.toNat s2.2)).kind == (2 : Int))) = false, ((decide ((↑(List.length s2.1) : Int) > (0 : Int)))) = false, ([(AV.i s2.2), (AV.i 1), (AV.i (ceAt l (Int.toNat s2.2)).kind), (AV.i (ceAt l (Int.toNat s2.2)).gen), AV.nl] : List AV) = [(AV.i s2.2), (AV.i 1), (AV.i (ceAt l (Int.toNat s2.2)).kind), (AV.i (ceAt l (Int.toNat s2.2)).gen), AV.nl], ([(AV.i s2.2), (AV.i 1), (AV.i (ceAt l (Int.toNat s2.2)).kind), (AV.i (ceAt l (Int.toNat s2.2)).gen), AV.nl] : List AV) = [(AV.i s2.2), (AV.i 1), (AV.i (ceAt l (Int.toNat s2.2)).kind), (AV.i (ceAt l (Int.toNat s2.2)).gen), AV.nl], ([(AV.i s2.2), (AV.i 1), (AV.i (ceAt l (Int.toNat s2.2)).kind), (AV.i (ceAt l (Int.toNat s2.2)).gen), AV.nl] : List AV) = [(AV.i s2.2), (AV.i 1), (AV.i (ceAt l (Int.toNat s2.2)).kind), (AV.i (ceAt l (Int.toNat s2.2)).gen), AV.nl], (((0 : Nat) = (0 : Nat)) ∧ ((List.length [(AV.i s2.2), (AV.i 1), (AV.i (ceAt l (Int.toNat s2.2)).kind), (AV.i (ceAt l (Int.toNat s2.2)).gen), AV.nl]) = (5 : Nat))), (((List.length (List.flatMap Ex.cells s2.1)) = ((List.length s2.1) * (5 : Nat))) ∧ (((List.length s2.1) + (1 : Nat)) ≤ (4294967296 : Nat)))]) kq ⟨h3, h4, fq, (by first | exact ce_take _ _ bq | (simpa using ce_take (l) ((Int.toNat s2.2)) bq) | ((try simp only [List.drop_drop]); rw [show ((Int.toNat s2.2) * (34 : Nat)) = ((Int.toNat s2.2)) * 34 by omega]; exact ce_take _ _ bq)), tq, (over_all tq), rfl, h5, h6, rfl, rfl, rfl, tq, h7, trivial⟩ (Nat.le_of_ble_eq_true rfl) (absB_of [4] [] kq (.consn kq (.eqv tq rfl) (.consn kq .nl0 (.consn kq (.eqv tq rfl) (.consn kq (.eqv tq rfl) (.consn kq (.rfn (n := ((List.length s2.1) + (1 : Nat))) rfl tq) (.consn kq (.eqv tq rfl) (.consn kq (.eqv tq rfl) (.consn kq (.eqv tq rfl) .nil)))))))) (.cons (.old rfl rfl (.cells (.cast rfl tq (.app (.pl rfl pq) (.cons (.eqv rfl rfl) (.cons (.eqv rfl rfl) (.cons (.eqv rfl rfl) (.cons (.eqv rfl rfl) (.cons (.pur 1 rfl (by simp)) .nil))))))))) .nil))
theorem iMap_L0_ok (l : List Ce) (s0 : Bool) (s2 zz : List Ex × Int) : iMap_L0_step l s0 s2 = some zz → EvStep Try.prog cf 0 (lp Try.prog 13 0) (iMap_L0_S l s0 s2) (iMap_L0_S l s0 zz) := by
  unfold iMap_L0_step
  refine tb_ok (fun h3 => ?_) (fun h3 => ?_)
  ·
    have h3p := of_decide_eq_true h3
    refine tp_ok (fun h4 => ?_)
    refine tb_ok (fun h5 => ?_) (fun h5 => ?_)
    ·
      have h5p := eq_of_beq h5
      refine tb_ok (fun h6 => ?_) (fun h6 => ?_)
      ·
        have h6p := of_decide_eq_true h6
        refine tp_ok (fun h7 => ?_)
        refine tc_ok (fun s8 h8 => ?_)
        refine tb_ok (fun h9 => ?_) (fun h9 => ?_)
        ·
          have h9p := eq_of_beq h9
          refine tp_ok (fun h10 => ?_)
          exact fun e => tl_ok (G := (fun zz => EvStep Try.prog cf 0 (lp Try.prog 13 0) (iMap_L0_S l s0 s2) (iMap_L0_S l s0 zz))) (iMap_L0_s0 l s0 s2 h3 h3p h4 h5 h5p h6 h6p h7 s8 h8 h9 h9p h10) e
        ·
          have h9p := ne_of_beq_false h9
          refine tp_ok (fun h10 => ?_)
          exact fun e => tl_ok (G := (fun zz => EvStep Try.prog cf 0 (lp Try.prog 13 0) (iMap_L0_S l s0 s2) (iMap_L0_S l s0 zz))) (iMap_L0_s1 l s0 s2 h3 h3p h4 h5 h5p h6 h6p h7 s8 h8 h9 h9p h10) e
      ·
        have h6p := of_decide_eq_false h6
        refine tp_ok (fun h7 => ?_)
        exact fun e => tl_ok (G := (fun zz => EvStep Try.prog cf 0 (lp Try.prog 13 0) (iMap_L0_S l s0 s2) (iMap_L0_S l s0 zz))) (iMap_L0_s2 l s0 s2 h3 h3p h4 h5 h5p h6 h6p h7) e
    ·
      have h5p := ne_of_beq_false h5
      refine tb_ok (fun h6 => ?_) (fun h6 => ?_)
      ·
        have h6p := of_decide_eq_true h6
        refine tp_ok (fun h7 => ?_)
        refine tc_ok (fun s8 h8 => ?_)
        refine tb_ok (fun h9 => ?_) (fun h9 => ?_)
        ·
          have h9p := eq_of_beq h9
          refine tp_ok (fun h10 => ?_)
          exact fun e => tl_ok (G := (fun zz => EvStep Try.prog cf 0 (lp Try.prog 13 0) (iMap_L0_S l s0 s2) (iMap_L0_S l s0 zz))) (iMap_L0_s3 l s0 s2 h3 h3p h4 h5 h5p h6 h6p h7 s8 h8 h9 h9p h10) e
        ·
          have h9p := ne_of_beq_false h9
          refine tp_ok (fun h10 => ?_)
          exact fun e => tl_ok (G := (fun zz => EvStep Try.prog cf 0 (lp Try.prog 13 0) (iMap_L0_S l s0 s2) (iMap_L0_S l s0 zz))) (iMap_L0_s4 l s0 s2 h3 h3p h4 h5 h5p h6 h6p h7 s8 h8 h9 h9p h10) e
      ·
        have h6p := of_decide_eq_false h6
        refine tp_ok (fun h7 => ?_)
        exact fun e => tl_ok (G := (fun zz => EvStep Try.prog cf 0 (lp Try.prog 13 0) (iMap_L0_S l s0 s2) (iMap_L0_S l s0 zz))) (iMap_L0_s5 l s0 s2 h3 h3p h4 h5 h5p h6 h6p h7) e
  ·
    have h3p := of_decide_eq_false h3
    exact fun e => nomatch e
/-- Function 13, as it answers. -/
noncomputable def iMap (l : List Ce) : Option (List Ex × Int) :=
 (tc (iCheck (l)) fun s0 =>
  (tb ((!s0))
   (some ((([] : List Ex), (90 : Int))))
   (th (iMap_L0_step l s0) ((([] : List Ex), (0 : Int))) fun s2 =>
    (tb ((decide (s2.2 < (↑(List.length l) : Int))))
     none /- stop behind an operation -/
     (tp ((((0 : Nat) = (0 : Nat)) ∧ ((List.length (List.flatMap Ex.cells s2.1)) = ((List.length s2.1) * (5 : Nat)))))
      (some ((s2.1, (0 : Int)))))))))
abbrev iMap_G (l : List Ce) (r : List Ex × Int) : Prop := EvFr Try.prog cf false 13 [ces (l)] (.tu [exs (r.1), .i (r.2)])
theorem iMap_l0 (l : List Ce) (s0 : Bool) (h0 : iCheck (l) = some s0) (h1 : ((!s0)) = true) : iMap_G l ((([] : List Ex), (90 : Int))) :=
  leafR vw_eq (k := 300) (r := []) (hs := hz [(4, [.fres (.b (s0))]), (1, [.yes]), (2, [])]) (raw := (AV.tu [(AV.sl 0 ([] : List AV)), (AV.i 90)])) (ps := [EvFr Try.prog cf Bool.false 17 [(AV.sl (List.length l) (List.flatMap Ce.cells l))] (.b (s0)), ((!s0)) = true]) kq ⟨((iCheck_ok (l) _ h0).any.cast tq), h1, trivial⟩ tq
theorem iMap_l1 (l : List Ce) (s0 : Bool) (h0 : iCheck (l) = some s0) (h1 : ((!s0)) = false) (s2 : List Ex × Int) (h2 : Runs (iMap_L0_step l s0) ((([] : List Ex), (0 : Int))) s2) (h3 : ((decide (s2.2 < (↑(List.length l) : Int)))) = false) (h3p : ¬ (s2.2 < (↑(List.length l) : Int))) (h4 : (((0 : Nat) = (0 : Nat)) ∧ ((List.length (List.flatMap Ex.cells s2.1)) = ((List.length s2.1) * (5 : Nat))))) : iMap_G l ((s2.1, (0 : Int))) :=
  leafR vw_eq (k := 300) (r := []) (hs := hz [(4, [.fres (.b (s0))]), (1, [.no]), (4, [.head (iMap_L0_S l s0 s2)]), (1, [.no]), (3, [.yes, .yes])]) (raw := (AV.tu [(AV.sl (List.length s2.1) (List.flatMap Ex.cells s2.1)), (AV.i 0)])) (ps := [EvFr Try.prog cf Bool.false 17 [(AV.sl (List.length l) (List.flatMap Ce.cells l))] (.b (s0)), ((!s0)) = false, EvHead Try.prog cf (lp Try.prog 13 0) (iMap_L0_I l s0) (iMap_L0_S l s0 s2), ((decide (s2.2 < (↑(List.length l) : Int)))) = false, (((0 : Nat) = (0 : Nat)) ∧ ((List.length (List.flatMap Ex.cells s2.1)) = ((List.length s2.1) * (5 : Nat)))), Pl Bool.false ((List.flatMap Ex.cells s2.1))]) kq ⟨((iCheck_ok (l) _ h0).any.cast tq), h1, (EvHead.of (iMap_L0_ok l s0) (absB_of [0] [] kq (.consn kq (.eqv tq rfl) (.consn kq .nl0 (.consn kq (.eqv tq rfl) (.consn kq (.eqv tq rfl) (.consn kq (.nln tq) (.consn kq (.eqv tq rfl) (.consn kq (.eqv tq rfl) (.consn kq (.eqv tq rfl) .nil)))))))) (.cons (.none rfl (Nat.le_refl _) rfl) .nil)) h2), h3, h4, pq, trivial⟩ tq
theorem iMap_ok (l : List Ce) (r : List Ex × Int) : iMap l = some r → iMap_G l r := by
  unfold iMap
  refine tc_ok (fun s0 h0 => ?_)
  refine tb_ok (fun h1 => ?_) (fun h1 => ?_)
  ·
    exact fun e => tl_ok (G := iMap_G l) (iMap_l0 l s0 h0 h1) e
  ·
    refine th_ok (fun s2 h2 => ?_)
    refine tb_ok (fun h3 => ?_) (fun h3 => ?_)
    ·
      have h3p := of_decide_eq_true h3
      exact fun e => nomatch e
    ·
      have h3p := of_decide_eq_false h3
      refine tp_ok (fun h4 => ?_)
      exact fun e => tl_ok (G := iMap_G l) (iMap_l1 l s0 h0 h1 s2 h2 h3 h3p h4) e
end Ab
end Go.Proofs.Ytadipihpgcelmaa
namespace Go.Proofs.Ytadipihpgcelmaa
open Go Go.Proofs.Ytadipihpgcelmaa.Ab
set_option linter.unusedVariables false
set_option linter.unusedSimpArgs false
namespace Ab
theorem eBytes_eq {x : Ex} (h : Ck x) : eBytes x = some (eb x) := by
  unfold eBytes eb
  have hc := h
  unfold Ck at hc
  have w1 : wr (x.len * 32) = 32 * x.len := by rw [wr_id (by omega) (by omega)]; omega
  rw [eCheck_eq, tc_some, ck_t h, w1]
  simp only [Bool.not_true, tb_f]
  rw [tp_pos (by first | exact ⟨rfl, by omega, by omega⟩ | exact ⟨trivial, by omega, by omega⟩)]
  by_cases hk : x.kind = 2
  · have hl := hc.2.2.2.2.2.2.2.2.1 hk
    rw [if_pos hk, List.take_zero, List.nil_append, Nat.mul_one, show min x.d.length (32 * x.len).toNat = x.d.length by omega, List.take_length, List.take_of_length_le (by simp), List.length_map, List.drop_of_length_le (by rw [List.length_replicate]; omega), List.append_nil]
  · have hl := hc.2.2.2.2.2.2.2.2.2 hk
    rw [if_neg hk, hl]
    simp
def ofS (blocks : Int) (m : List Ex) : List Ce × Int := if Mk blocks m then (cellsM m, 0) else ([], 80)
theorem xcs_take (x : Ex) (h : Ck x) : ∀ k, k ≤ x.len.toNat → (xcs x).take k = (List.range k).map fun k => (⟨x.kind, x.gen, pad 32 ((eb x).drop (32 * k))⟩ : Ce) := by
  intro k hk
  unfold xcs
  rw [← List.map_take, List.take_range, Nat.min_eq_left hk]
theorem cellsM_take (m : List Ex) (i : Nat) (hi : i < m.length) : cellsM (m.take (i + 1)) = cellsM (m.take i) ++ xcs (exAt m i) := by
  have e : m.take (i + 1) = m.take i ++ [exAt m i] := take_at _ m i hi
  rw [e]; simp [cellsM]
theorem cellsM_le {blocks : Int} {m : List Ex} (h : Mk blocks m) (i : Nat) : (cellsM (m.take i)).length ≤ 64 := by
  have h1 := (cellsM_mk h).2.1
  have hb := mk_blocks h
  have e : cellsM m = cellsM (m.take i) ++ cellsM (m.drop i) := by unfold cellsM; rw [← List.flatMap_append, List.take_append_drop]
  rw [e, List.length_append] at h1
  omega
theorem mk_at {blocks : Int} {m : List Ex} (h : Mk blocks m) {i : Nat} (hi : i < m.length) : Ck (exAt m i) := (h.2.1 i hi).1
theorem ofL {α : Type} (x : Ex) (out : List Ce) (hx : Ck x) (ho : out.length ≤ 100) (step : List Ce × List UInt8 → Option (List Ce × List UInt8)) (f : List Ce × List UInt8 → Option α)
    (hs : ∀ (o : List Ce) (b : List UInt8), o.length ≤ 1000 → 32 ≤ b.length → b.length ≤ 100000 → step (o, b) = some (o ++ [⟨x.kind, x.gen, pad 32 b⟩], b.drop 32)) (he : ∀ o, step (o, []) = none) :
    th step (out, eb x) f = f (out ++ xcs x, []) := by
  have hl := eb_len hx
  have hc := hx
  unfold Ck at hc
  rw [th_run_at (S := fun k => (out ++ (xcs x).take k, (eb x).drop (32 * k))) (k := x.len.toNat) (by simp) ?_ ?_]
  · rw [List.take_of_length_le (by rw [xcs_len]; exact Nat.le_refl _), List.drop_of_length_le (by omega)]
  · intro k hk
    rw [hs _ _ (by rw [List.length_append, List.length_take, xcs_len]; omega) (by rw [List.length_drop]; omega) (by rw [List.length_drop]; omega), List.drop_drop, show 32 * k + 32 = 32 * (k + 1) by omega]
    have e : (xcs x).take (k + 1) = (xcs x).take k ++ [⟨x.kind, x.gen, pad 32 ((eb x).drop (32 * k))⟩] := by
      rw [xcs_take x hx _ (by omega), xcs_take x hx _ (by omega), List.range_succ, List.map_append]; rfl
    rw [e, List.append_assoc]
  · rw [List.drop_of_length_le (by omega)]
    exact he _
theorem iOf_eq (blocks : Int) (m : List Ex) (hm : m.length ≤ 4294967296) : iOf blocks m = some (ofS blocks m) := by
  unfold iOf ofS
  rw [mCheck_eq blocks m hm, tc_some, tb_not]
  by_cases h : Mk blocks m
  case neg => rw [mk_f h, tb_f, if_neg h]
  rw [mk_t h, tb_t, if_pos h]
  have hlen := mk_len h
  rw [th_run_at (S := fun i => (cellsM (m.take i), (i : Int))) (k := m.length) (by simp [cellsM]) ?_ ?_]
  · simp only [tb_dec]
    rw [if_neg (by omega), List.take_length, tp_pos (by rw [ces_len]; simp)]
  · intro i hi
    have hck := mk_at h hi
    have hle := cellsM_le h i
    unfold iOf_L0_step
    simp only [tb_dec, Int.toNat_natCast]
    rw [if_pos (by omega), tp_pos (by omega), eBytes_eq hck, tc_some, ofL (exAt m i) _ hck (by omega) _ _ ?_ ?_]
    · simp only [List.length_nil]
      rw [if_neg (by simp), cellsM_take m i hi, wr_id (by omega) (by omega)]; rfl
    · intro o b ho hb1 hb2
      unfold iOf_L1_step
      simp only [tb_dec, Int.toNat_natCast]
      rw [if_pos (by omega), tp_pos (by refine ⟨by omega, hb1, by simp⟩), tp_pos (by rw [ces_len]; omega), List.take_of_length_le (by rw [List.length_drop]; omega)]
    · intro o
      unfold iOf_L1_step
      simp only [tb_dec, List.length_nil]
      rw [if_neg (by simp)]
  · unfold iOf_L0_step
    simp only [tb_dec]
    rw [if_neg (by omega)]
/-- The map of blocks, or none. -/
def mapS (l : List Ce) : List Ex × Int := if CkI l then (mapOf l, 0) else ([], 90)
theorem sgs_take (l : List Ce) (i : Nat) (hi : i < l.length) : (sgs l).take (i + 1) = (sgs l).take i ++ [sg l i] := by
  rw [take_at (sg l 0) (sgs l) i (by unfold sgs; simpa using hi)]
  congr 2
  unfold sgs
  rw [List.getD_eq_getElem?_getD, List.getElem?_map, List.getElem?_range' (by omega)]
  simp
theorem mapL {α : Type} (l : List Ce) (hl : l.length ≤ 1000) (step : List Ex × Int → Option (List Ex × Int)) (f : List Ex × Int → Option α)
    (hs : ∀ (o : List Ex) (i : Nat), o.length ≤ 1000 → i < l.length → step (o, (i : Int)) = some (add o (sg l i), (i : Int) + 1)) (he : ∀ o, step (o, (l.length : Int)) = none) :
    th step ([], 0) f = f (mapOf l, (l.length : Int)) := by
  have hn : (sgs l).length = l.length := by simp [sgs]
  rw [th_run_at (S := fun i => (((sgs l).take i).foldl add [], (i : Int))) (k := l.length) (by simp) ?_ ?_]
  · rw [List.take_of_length_le (by omega)]; rfl
  · intro i hi
    have ha := adds_len ((sgs l).take i) []
    rw [List.length_nil, Nat.zero_add, List.length_take] at ha
    rw [hs _ i (by omega) hi, sgs_take l i hi, List.foldl_append]; rfl
  · exact he _
theorem jn_f0 (x y : Ex) : (jnv x y).2 = 0 ↔ Jn x y := by
  unfold jnv
  by_cases h : Jn x y
  · rw [if_pos h]; exact ⟨fun _ => h, fun _ => rfl⟩
  · rw [if_neg h]; exact ⟨fun q => absurd q (by decide), fun q => absurd q h⟩
/-- A round of a map's making. -/
theorem mapKey (J : Ex → Ex → Option (Ex × Int)) (hJ : ∀ a b, J a b = some (jnv a b)) (o : List Ex) (y : Ex) (r : Int) (ho : o.length ≤ 1000) :
    (if (o.length : Int) > 0 then tp ((0 : Int) ≤ wr ((o.length : Int) - 1) ∧ wr ((o.length : Int) - 1) < (o.length : Int)) (tc (J (exAt o (wr ((o.length : Int) - 1)).toNat) y) fun s8 =>
      if s8.2 = 0 then tp (([AV.i s8.1.lba, AV.i s8.1.len, AV.i s8.1.kind, AV.i s8.1.gen, AV.sl s8.1.d.length (s8.1.d.map AV.y)] : List AV).length = 5 ∧ 0 + (wr ((o.length : Int) - 1)).toNat * 5 + ([AV.i s8.1.lba, AV.i s8.1.len, AV.i s8.1.kind, AV.i s8.1.gen, AV.sl s8.1.d.length (s8.1.d.map AV.y)] : List AV).length ≤ (o.flatMap Ex.cells).length) (some (o.set (wr ((o.length : Int) - 1)).toNat s8.1, r))
      else tp ((o.flatMap Ex.cells).length = o.length * 5 ∧ o.length + 1 ≤ 4294967296) (some (o ++ [y], r)))
     else tp ((o.flatMap Ex.cells).length = o.length * 5 ∧ o.length + 1 ≤ 4294967296) (some (o ++ [y], r))) = some (add o y, r) := by
  by_cases h0 : (o.length : Int) > 0
  case neg =>
    have ho0 : o = [] := List.length_eq_zero_iff.1 (by omega)
    subst ho0
    rw [if_neg h0, tp_pos (by simp)]; rfl
  have hne : o ≠ [] := fun q => by rw [q] at h0; simp at h0
  have w3 : wr ((o.length : Int) - 1) = ((o.length - 1 : Nat) : Int) := by rw [wr_id (by omega) (by omega)]; omega
  rw [if_pos h0, w3, tp_pos (by omega), Int.toNat_natCast, last_at o hne _ rfl, hJ, tc_some]
  by_cases hj : Jn (o.getLastD ⟨0, 0, 0, 0, []⟩) y
  · rw [if_pos ((jn_f0 _ _).2 hj), tp_pos (by rw [exs_len]; constructor <;> simp <;> omega)]
    have e : (jnv (o.getLastD ⟨0, 0, 0, 0, []⟩) y).1 = jnx (o.getLastD ⟨0, 0, 0, 0, []⟩) y := by unfold jnv; rw [if_pos hj]
    rw [e, set_last_ex o hne _ rfl]
    unfold add; rw [if_pos ⟨hne, hj⟩]
  · rw [if_neg fun q => hj ((jn_f0 _ _).1 q), tp_pos (by rw [exs_len]; omega)]
    unfold add; rw [if_neg fun q => hj q.2]
theorem iMap_eq (l : List Ce) (hl : l.length ≤ 4294967296) : iMap l = some (mapS l) := by
  unfold iMap mapS
  rw [iCheck_eq l hl, tc_some, tb_not, tb_dec]
  by_cases h : CkI l
  case neg => rw [if_neg h, if_neg h]
  rw [if_pos h, if_pos h, decide_eq_true h, mapL l (by have := h.2.1; omega) _ _ ?_ ?_]
  · simp only [tb_dec]
    rw [if_neg (by omega), tp_pos (by rw [exs_len]; simp)]
  · intro o i ho hi
    unfold iMap_L0_step
    have h64 := h.2.1
    have w2 : wr ((i : Int) + 1) = (i : Int) + 1 := wr_id (by omega) (by omega)
    simp only [tb_dec, tb_beq, Int.toNat_natCast, w2]
    rw [if_pos (by omega), tp_pos (by omega)]
    by_cases hk : (ceAt l i).kind = 2
    · rw [if_pos hk]
      refine (mapKey eJoin eJoin_eq o _ _ ho).trans ?_
      unfold sg; rw [if_pos hk]
    · rw [if_neg hk]
      refine (mapKey eJoin eJoin_eq o _ _ ho).trans ?_
      unfold sg; rw [if_neg hk]
  · intro o
    unfold iMap_L0_step
    simp only [tb_dec]
    rw [if_neg (by omega)]
end Ab
end Go.Proofs.Ytadipihpgcelmaa
namespace Go.Proofs.Ytadipihpgcelmaa
open Go Go.Proofs.Ytadipihpgcelmaa.Ab
set_option linter.unusedVariables false
set_option linter.unusedSimpArgs false
namespace Ab
/-- Blocks of which some, one behind the other, are others. -/
def putN (l : List Ce) (s : Nat) (f : Nat → Ce) : Nat → List Ce
  | 0 => l
  | i + 1 => (putN l s f i).set (s + i) (f i)
theorem putN_len (l : List Ce) (s : Nat) (f : Nat → Ce) : ∀ i, (putN l s f i).length = l.length
  | 0 => rfl
  | i + 1 => by rw [putN, List.length_set, putN_len l s f i]
theorem putN_get (l : List Ce) (s : Nat) (f : Nat → Ce) : ∀ n, s + n ≤ l.length → ∀ j, (putN l s f n)[j]? = if s ≤ j ∧ j < s + n then some (f (j - s)) else l[j]?
  | 0, _, j => by rw [putN, if_neg (by omega)]
  | n + 1, h, j => by
    rw [putN, List.getElem?_set, putN_get l s f n (by omega) j, putN_len]
    by_cases h1 : s + n = j
    · subst h1
      rw [if_pos rfl, if_pos (by omega), if_pos (by omega)]
      congr 2; omega
    · rw [if_neg h1]
      by_cases h2 : s ≤ j ∧ j < s + n
      · rw [if_pos h2, if_pos (by omega)]
      · rw [if_neg h2, if_neg (by omega)]
theorem putN_at (l : List Ce) (s : Nat) (f : Nat → Ce) (n : Nat) (h : s + n ≤ l.length) (j : Nat) : ceAt (putN l s f n) j = if s ≤ j ∧ j < s + n then f (j - s) else ceAt l j := by
  unfold ceAt
  rw [List.getD_eq_getElem?_getD, putN_get l s f n h j]
  split
  · rfl
  · rw [List.getD_eq_getElem?_getD]
theorem putN_mem {l : List Ce} {s : Nat} {f : Nat → Ce} {n : Nat} (P : Ce → Prop) (hl : ∀ c ∈ l, P c) (hf : ∀ i, i < n → P (f i)) (h : s + n ≤ l.length) : ∀ c ∈ putN l s f n, P c := by
  refine (ceAt_all _ P).1 fun i hi => ?_
  rw [putN_len] at hi
  rw [putN_at l s f n h i]
  split
  · exact hf _ (by omega)
  · exact (ceAt_all l P).2 hl i hi
def z32 : List UInt8 := List.replicate 32 0
def fillF_ (kind gen : Int) : Nat → Ce := fun _ => ⟨kind, gen, z32⟩
def fillS (l : List Ce) (lba n kind gen : Int) : List Ce × Int :=
  if CkI l then (if Fits l lba n ∧ (0 ≤ kind ∧ kind ≤ 1) ∧ (0 ≤ gen ∧ gen ≤ 2147483647) then (putN l lba.toNat (fillF_ kind gen) n.toNat, 0) else (l, 81)) else ([], 90)
theorem iFill_eq (l : List Ce) (lba n kind gen : Int) (hl : l.length ≤ 4294967296) : iFill l lba n kind gen = some (fillS l lba n kind gen) := by
  unfold iFill fillS
  simp only [iWithin_eq, iCheck_eq l hl, tc_some, tb_not, tb_dec, ces_len]
  have p1 : l.length * 34 = l.length * 34 := rfl
  by_cases hc : CkI l
  case neg =>
    by_cases hk : 0 ≤ kind ∧ kind ≤ 1
    · simp only [if_pos hk, if_neg hc]
    · simp only [if_neg hk, if_neg hc]
  have h64 := hc.2.1
  simp only [if_pos hc]
  by_cases hk : 0 ≤ kind ∧ kind ≤ 1
  case neg =>
    rw [if_neg hk, if_neg fun q => hk q.2.1, tp_pos (by first | rfl | trivial), tp_pos (by omega), tp_pos (by simp)]
  rw [if_pos hk, tp_pos (by first | rfl | trivial), tp_pos (by omega)]
  by_cases hg : 0 ≤ gen ∧ gen ≤ 2147483647
  case neg => rw [if_neg hg, if_neg fun q => hg q.2.2, tp_pos (by simp)]
  rw [if_pos hg]
  by_cases h1 : 0 ≤ lba ∧ lba ≤ l.length
  case neg => rw [if_neg h1, if_neg fun q => h1 ⟨q.1.1, q.1.2.1⟩, tp_pos (by simp)]
  rw [if_pos h1, wr_id (x := (l.length : Int) - lba) (by omega) (by omega)]
  by_cases h2 : 1 ≤ n ∧ n ≤ l.length - lba
  case neg => rw [if_neg h2, if_neg fun q => h2 q.1.2.2, tp_pos (by simp)]
  rw [if_pos h2, if_pos ⟨⟨h1.1, h1.2, h2.1, h2.2⟩, hk, hg⟩]
  have := th_run (step := iFill_L0_step l lba n kind gen true true true true true) (f := fun s12 => if s12.1 < n then none else tp (0 = 0 ∧ s12.2.length * 34 = l.length * 34) (some (s12.2, (0 : Int)))) (fun i => ((i : Int), putN l lba.toNat (fillF_ kind gen) i)) n.toNat ?_ ?_
  · simp only [Int.natCast_zero, putN] at this
    rw [decide_eq_true hk, decide_eq_true hg, decide_eq_true hc, decide_eq_true h1, decide_eq_true h2, this, if_neg (by omega), tp_pos (by simp [putN_len])]
  · intro i hi
    unfold iFill_L0_step
    simp only [tb_dec, ces_len, putN_len, u8z]
    rw [wr_id (x := lba + (i : Int)) (by omega) (by omega), wr_id (x := (i : Int) + 1) (by omega) (by omega), if_pos (by omega), tp_pos (by omega), tp_pos (by constructor <;> simp <;> omega)]
    have e1 : (lba + (i : Int)).toNat = lba.toNat + i := by omega
    rw [e1]
    rfl
  · unfold iFill_L0_step
    simp only [tb_dec]
    rw [if_neg (by omega)]
/-- Some of a block's bytes, the others 0. -/
def part (d : List UInt8) (k : Nat) : List UInt8 := (pad 32 d).take k ++ List.replicate (32 - k) 0
end Ab
end Go.Proofs.Ytadipihpgcelmaa
