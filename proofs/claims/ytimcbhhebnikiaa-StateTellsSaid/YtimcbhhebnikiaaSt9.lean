/- The law 'StateTells': it returns true, and nothing that was there changes. No condition. (Part 9 of 12.) -/
import Derived.Test.YtimcbhhebnikiaaSt8
import Derived.Test.YtimcbhhebnikiaaRows
namespace Go.Proofs.Ytimcbhhebnikiaa
open Go Go.Proofs.Ytimcbhhebnikiaa.Ab
set_option linter.unusedVariables false
set_option linter.unusedSimpArgs false
namespace Ab
/-- A block of an extent. -/
def bAt (x : Ex) (k : Int) : Int × Int × List UInt8 := (x.kind, x.gen, (x.d.drop (32 * (k - x.lba)).toNat).take 32)
/-- An extent holds at a block so much. -/
def Cv (x : Ex) (k : Int) (c : Int × Int × List UInt8) : Prop := x.lba ≤ k ∧ k < x.lba + x.len ∧ c = bAt x k
def Den (l : List Ex) (k : Int) (c : Int × Int × List UInt8) : Prop := ∃ x ∈ l, Cv x k c
theorem den_nil {k : Int} {c : Int × Int × List UInt8} : ¬ Den [] k c := fun ⟨x, hx, _⟩ => by cases hx
theorem den_cons {x : Ex} {l : List Ex} {k : Int} {c : Int × Int × List UInt8} : Den (x :: l) k c ↔ Cv x k c ∨ Den l k c := by
  unfold Den; simp
theorem ck_pos {x : Ex} (h : Ck x) : 0 ≤ x.lba ∧ x.lba ≤ 64 ∧ 1 ≤ x.len ∧ x.lba + x.len ≤ 64 := by
  unfold Ck at h; omega
theorem ck_d2 {x : Ex} (h : Ck x) (hk : x.kind = 2) : (x.d.length : Int) = 32 * x.len := by
  unfold Ck at h; exact h.2.2.2.2.2.2.2.2.1 hk
theorem ck_d0 {x : Ex} (h : Ck x) (hk : x.kind ≠ 2) : x.d = [] := by
  unfold Ck at h; exact h.2.2.2.2.2.2.2.2.2 hk
/-- A part holds what the whole holds there. -/
theorem bAt_cu {x : Ex} {lo n k : Int} (h : Ck x) (h1 : max x.lba lo ≤ k) (h2 : k < min (x.lba + x.len) (lo + n)) : bAt (cu x lo n) k = bAt x k := by
  have hp := ck_pos h
  simp only [bAt, cu, Prod.mk.injEq, true_and]
  split
  · rename_i hk
    have e : (32 * (k - x.lba)).toNat = (32 * (max x.lba lo - x.lba)).toNat + (32 * (k - max x.lba lo)).toNat := by omega
    rw [e, ← List.drop_drop, List.drop_take, List.take_take]
    congr 1
    omega
  · rename_i hk
    rw [ck_d0 h hk]; simp
theorem den_ge {l : List Ex} {s : Int} (h : CH s l) {k : Int} {c : Int × Int × List UInt8} (hd : Den l k c) : s ≤ k := by
  obtain ⟨x, hx, hc⟩ := hd
  have := (ch_ck h x hx).2
  have := hc.1
  omega
theorem d_ext {x y : Ex} (hx : Ck x) (hy : Ck y) (hb : x.lba = y.lba) (hl : x.len = y.len) (h : ∀ k, x.lba ≤ k → k < x.lba + x.len → bAt x k = bAt y k) : x = y := by
  have px := ck_pos hx
  have h0 := h x.lba (by omega) (by omega)
  simp only [bAt, Prod.mk.injEq] at h0
  have hd : x.d = y.d := by
    by_cases hk : x.kind = 2
    · have d1 := ck_d2 hx hk
      have d2 := ck_d2 hy (h0.1 ▸ hk)
      apply List.ext_getElem?
      intro j
      by_cases hj : j < x.d.length
      · have hq := h (x.lba + (j / 32 : Nat)) (by omega) (by omega)
        simp only [bAt, Prod.mk.injEq] at hq
        have hq : (List.take 32 (List.drop (32 * (x.lba + ((j / 32 : Nat) : Int) - x.lba)).toNat x.d))[j % 32]? = (List.take 32 (List.drop (32 * (x.lba + ((j / 32 : Nat) : Int) - y.lba)).toNat y.d))[j % 32]? := congrArg (fun l => l[j % 32]?) hq.2.2
        have hm : j % 32 < 32 := Nat.mod_lt _ (by omega)
        rw [List.getElem?_take_of_lt hm, List.getElem?_take_of_lt hm, List.getElem?_drop, List.getElem?_drop] at hq
        have e1 : (32 * (x.lba + ((j / 32 : Nat) : Int) - x.lba)).toNat + j % 32 = j := by omega
        have e2 : (32 * (x.lba + ((j / 32 : Nat) : Int) - y.lba)).toNat + j % 32 = j := by omega
        rw [e1, e2] at hq
        exact hq
      · rw [List.getElem?_eq_none (by omega), List.getElem?_eq_none (by omega)]
    · rw [ck_d0 hx hk, ck_d0 hy (h0.1 ▸ hk)]
  cases x; cases y
  simp_all
theorem sl_nn : ∀ {l : List Ex}, (∀ x ∈ l, Ck x) → 0 ≤ sl l
  | [], _ => by simp [sl]
  | x :: l, h => by
    have h1 := sl_nn fun y hy => h y (List.mem_cons_of_mem _ hy)
    have h2 := ck_pos (h x (by simp))
    simp only [sl]; omega
end Ab
end Go.Proofs.Ytimcbhhebnikiaa
namespace Go.Proofs.Ytimcbhhebnikiaa
open Go Go.Proofs.Ytimcbhhebnikiaa.Ab
set_option linter.unusedVariables false
set_option linter.unusedSimpArgs false
namespace Ab
/-- Of one extent of the map: what is left of it before, the new one if it is its turn, what is left behind. -/
def P1 (x : Ex) (fl : Bool) (e : Ex) : List Ex := (cut e 0 x.lba).toList ++ ((if fl = false ∧ e.lba + e.len > x.lba then [x] else []) ++ (cut e (x.lba + x.len) 64).toList)
def F1 (x : Ex) (fl : Bool) (e : Ex) : Bool := fl || decide (e.lba + e.len > x.lba)
def pcs (x : Ex) : Bool → List Ex → List Ex
  | _, [] => []
  | fl, e :: l => P1 x fl e ++ pcs x (F1 x fl e) l
/-- The map with the new extent over it. -/
def put (l : List Ex) (x : Ex) : List Ex := (pcs x false l).foldl add []
end Ab
end Go.Proofs.Ytimcbhhebnikiaa
namespace Go.Proofs.Ytimcbhhebnikiaa
open Go Go.Proofs.Ytimcbhhebnikiaa.Ab
set_option linter.unusedVariables false
set_option linter.unusedSimpArgs false
namespace Ab
theorem ch_len : ∀ {l : List Ex} {s : Int}, CH s l → (l.length : Int) ≤ sl l
  | [], _, _ => by simp [sl]
  | x :: l, s, h => by
    have := ch_len h.2.2.2
    have := ck_pos h.1
    simp only [sl, List.length_cons]; omega
theorem mk_len {blocks : Int} {l : List Ex} (h : Mk blocks l) : l.length ≤ 64 := by
  have h1 := ch_len (mk_ch h)
  have h2 := mk_blocks h
  have h3 := h.2.2
  omega
theorem ch_cov : ∀ {l : List Ex} {s : Int}, CH s l → ∀ {k : Int}, s ≤ k → k < s + sl l → ∃ x ∈ l, x.lba ≤ k ∧ k < x.lba + x.len
  | [], s, _, k, h1, h2 => by simp only [sl] at h2; omega
  | x :: l, s, h, k, h1, h2 => by
    have bx := h.2.1
    simp only [sl] at h2
    by_cases g : k < x.lba + x.len
    · exact ⟨x, by simp, by omega, g⟩
    · obtain ⟨y, hy, q⟩ := ch_cov h.2.2.2 (k := k) (by omega) (by omega)
      exact ⟨y, by simp [hy], q⟩
theorem ch_end : ∀ {l : List Ex} {s : Int}, CH s l → ∀ x ∈ l, x.lba + x.len ≤ s + sl l
  | [], _, _, x, hx => by cases hx
  | y :: l, s, h, x, hx => by
    have by_ := h.2.1
    have h0 : 0 ≤ sl l := sl_nn fun z hz => (ch_ck h.2.2.2 z hz).1
    simp only [sl]
    rcases List.mem_cons.1 hx with e | e
    · subst e; omega
    · have := ch_end h.2.2.2 x e
      omega
end Ab
end Go.Proofs.Ytimcbhhebnikiaa
namespace Go.Proofs.Ytimcbhhebnikiaa
open Go Go.Proofs.Ytimcbhhebnikiaa.Ab
set_option linter.unusedVariables false
set_option linter.unusedSimpArgs false
namespace Ab
/-- The bytes of an extent. -/
def eb (x : Ex) : List UInt8 := if x.kind = 2 then x.d else List.replicate (32 * x.len).toNat 0
theorem eb_len {x : Ex} (h : Ck x) : ((eb x).length : Int) = 32 * x.len := by
  unfold eb
  unfold Ck at h
  split
  · rename_i hk; exact h.2.2.2.2.2.2.2.2.1 hk
  · rw [List.length_replicate]; omega
end Ab
end Go.Proofs.Ytimcbhhebnikiaa
namespace Go.Proofs.Ytimcbhhebnikiaa
open Go Go.Proofs.Ytimcbhhebnikiaa.Ab
set_option linter.unusedVariables false
set_option linter.unusedSimpArgs false
namespace Ab
theorem th_run_at {σ α : Type} {step : σ → Option σ} {f : σ → Option α} (S : Nat → σ) (k : Nat) {s0 : σ} (h0 : s0 = S 0) (hs : ∀ i, i < k → step (S i) = some (S (i + 1))) (he : step (S k) = none) : th step s0 f = f (S k) := by
  subst h0; exact th_run S k hs he
theorem pad_rep (n m : Nat) : pad n (List.replicate m 0) = List.replicate n 0 := by
  unfold pad
  rw [List.replicate_append_replicate, List.take_replicate]
  congr 1; omega
theorem pad_nil (n : Nat) : pad n [] = List.replicate n 0 := pad_rep n 0
def CkC (c : Ce) : Prop := 0 ≤ c.kind ∧ c.kind ≤ 2 ∧ 0 ≤ c.gen ∧ c.gen ≤ 2147483647 ∧ (c.kind ≠ 2 → pad 32 c.d = List.replicate 32 0)
instance (c : Ce) : Decidable (CkC c) := by unfold CkC; infer_instance
/-- May blocks be? -/
def CkI (l : List Ce) : Prop := 1 ≤ l.length ∧ l.length ≤ 64 ∧ ∀ c ∈ l, CkC c
instance (l : List Ce) : Decidable (CkI l) := by unfold CkI; infer_instance
theorem ceAt_all (l : List Ce) (p : Ce → Prop) : (∀ i, i < l.length → p (ceAt l i)) ↔ ∀ x ∈ l, p x := by
  unfold ceAt; exact getD_all _ l p
end Ab
end Go.Proofs.Ytimcbhhebnikiaa
namespace Go.Proofs.Ytimcbhhebnikiaa
open Go Go.Proofs.Ytimcbhhebnikiaa.Ab
set_option linter.unusedVariables false
set_option linter.unusedSimpArgs false
namespace Ab
/-- A block as extents hold it; one as a list holds what extents do. -/
def blk (c : Ce) : Int × Int × List UInt8 := (c.kind, c.gen, if c.kind = 2 then pad 32 c.d else [])
def cb (c : Int × Int × List UInt8) : Ce := ⟨c.1, c.2.1, pad 32 c.2.2⟩
/-! Blocks of a map. -/
def xcs (x : Ex) : List Ce := (List.range x.len.toNat).map fun k => ⟨x.kind, x.gen, pad 32 ((eb x).drop (32 * k))⟩
def cellsM (m : List Ex) : List Ce := m.flatMap xcs
theorem pad_take (l : List UInt8) : pad 32 (l.take 32) = pad 32 l := by
  unfold pad
  rw [List.take_append, List.take_append, List.take_take, Nat.min_self, List.take_replicate, List.take_replicate, List.length_take]
  congr 2
  omega
theorem xcs_at {x : Ex} (h : Ck x) {k : Int} (h1 : x.lba ≤ k) (h2 : k < x.lba + x.len) : (xcs x)[(k - x.lba).toNat]? = some (cb (bAt x k)) := by
  unfold xcs
  rw [List.getElem?_map, List.getElem?_range (by omega)]
  simp only [Option.map_some, Option.some.injEq, cb, bAt, Ce.mk.injEq, true_and]
  unfold eb
  have e : 32 * (k - x.lba).toNat = (32 * (k - x.lba)).toNat := by omega
  rw [e, pad_take]
  split
  · rfl
  · rename_i hk
    rw [ck_d0 h hk, List.drop_replicate, List.drop_nil, pad_rep, pad_nil]
theorem xcs_len (x : Ex) : (xcs x).length = x.len.toNat := by simp [xcs]
theorem cellsM_len : ∀ {m : List Ex} {s : Int}, CH s m → ((cellsM m).length : Int) = sl m
  | [], _, _ => rfl
  | x :: m, s, h => by
    have := cellsM_len h.2.2.2
    have p := ck_pos h.1
    simp only [cellsM, List.flatMap_cons, List.length_append, xcs_len, sl] at this ⊢
    omega
theorem cellsM_den : ∀ {m : List Ex} {s : Int}, CH s m → ∀ {k : Int} {c : Int × Int × List UInt8}, Den m k c → (cellsM m)[(k - s).toNat]? = some (cb c)
  | [], _, _, k, c, hd => absurd hd den_nil
  | x :: m, s, h, k, c, hd => by
    have p := ck_pos h.1
    have hb := h.2.1
    simp only [cellsM, List.flatMap_cons]
    rcases den_cons.1 hd with q | q
    · rw [List.getElem?_append_left (by rw [xcs_len]; have := q.1; have := q.2.1; omega), q.2.2, ← hb]
      exact xcs_at h.1 q.1 q.2.1
    · have hg := den_ge h.2.2.2 q
      rw [List.getElem?_append_right (by rw [xcs_len]; omega), xcs_len]
      have := cellsM_den h.2.2.2 q
      rw [show (k - s).toNat - x.len.toNat = (k - (s + x.len)).toNat by omega]
      exact this
theorem den_ck {x : Ex} (h : Ck x) {k : Int} (h1 : x.lba ≤ k) (h2 : k < x.lba + x.len) : blk (cb (bAt x k)) = bAt x k ∧ CkC (cb (bAt x k)) := by
  have hc := h
  unfold Ck at hc
  have hl : x.kind = 2 → ((x.d.drop (32 * (k - x.lba)).toNat).take 32).length = 32 := fun hk => by
    have := ck_d2 h hk
    rw [List.length_take, List.length_drop]; omega
  constructor
  · have e : blk (cb (bAt x k)) = (x.kind, x.gen, if x.kind = 2 then pad 32 (pad 32 ((x.d.drop (32 * (k - x.lba)).toNat).take 32)) else []) := rfl
    rw [e]
    by_cases hk : x.kind = 2
    · rw [if_pos hk, pad_pad, pad_of (hl hk)]; rfl
    · rw [if_neg hk]; unfold bAt; rw [ck_d0 h hk]; simp
  · refine ⟨by simp only [cb, bAt]; omega, by simp only [cb, bAt]; omega, by simp only [cb, bAt]; omega, by simp only [cb, bAt]; omega, fun hk => ?_⟩
    have hk : x.kind ≠ 2 := hk
    simp only [cb, bAt, ck_d0 h hk, List.drop_nil, List.take_nil, pad_nil, pad_rep]
theorem ce_get {l : List Ce} {i : Nat} {c : Ce} (h : l[i]? = some c) : i < l.length ∧ ceAt l i = c := by
  obtain ⟨g, e⟩ := List.getElem?_eq_some_iff.1 h
  exact ⟨g, by unfold ceAt; simp [g, e]⟩
/-- A map's holdings, block by block. -/
theorem mk_get {blocks : Int} {m : List Ex} (h : Mk blocks m) {i : Nat} (hi : (i : Int) < blocks) : ∃ x ∈ m, Ck x ∧ x.lba ≤ i ∧ (i : Int) < x.lba + x.len ∧ Den m i (bAt x i) ∧ (cellsM m)[i]? = some (cb (bAt x i)) := by
  have hc := mk_ch h
  obtain ⟨x, hx, h1, h2⟩ := ch_cov hc (k := i) (by omega) (by rw [h.2.2]; omega)
  have hd : Den m i (bAt x i) := ⟨x, hx, h1, h2, rfl⟩
  have := cellsM_den hc hd
  rw [Int.sub_zero, Int.toNat_natCast] at this
  exact ⟨x, hx, (ch_ck hc x hx).1, h1, h2, hd, this⟩
theorem cellsM_mk {blocks : Int} {m : List Ex} (h : Mk blocks m) : CkI (cellsM m) ∧ ((cellsM m).length : Int) = blocks ∧ ∀ c ∈ cellsM m, c.d.length = 32 := by
  have hl : ((cellsM m).length : Int) = blocks := (cellsM_len (mk_ch h)).trans h.2.2
  have hb := mk_blocks h
  have key : ∀ c ∈ cellsM m, CkC c ∧ c.d.length = 32 := by
    intro c hc
    obtain ⟨i, hi, e⟩ := List.getElem_of_mem hc
    obtain ⟨x, hx, k1, k2, k3, k4, k5⟩ := mk_get h (i := i) (by omega)
    rw [List.getElem?_eq_getElem hi, e] at k5
    injection k5 with k5
    subst k5
    exact ⟨(den_ck k1 k2 k3).2, by simp only [cb, pad_len]⟩
  exact ⟨⟨by omega, by omega, fun c hc => (key c hc).1⟩, hl, fun c hc => (key c hc).2⟩
end Ab
end Go.Proofs.Ytimcbhhebnikiaa
namespace Go.Proofs.Ytimcbhhebnikiaa
open Go Go.Proofs.Ytimcbhhebnikiaa.Ab
set_option linter.unusedVariables false
set_option linter.unusedSimpArgs false
namespace Ab
theorem ceAt_one (c : Ce) : ceAt [c] 0 = c := rfl
/-- Are so many blocks there? -/
def Fits (l : List Ce) (lba n : Int) : Prop := 0 ≤ lba ∧ lba ≤ l.length ∧ 1 ≤ n ∧ n ≤ l.length - lba
instance (l : List Ce) (lba n : Int) : Decidable (Fits l lba n) := by unfold Fits; infer_instance
end Ab
end Go.Proofs.Ytimcbhhebnikiaa
namespace Go.Proofs.Ytimcbhhebnikiaa
open Go Go.Proofs.Ytimcbhhebnikiaa.Ab
set_option linter.unusedVariables false
set_option linter.unusedSimpArgs false
namespace Ab
theorem cellsM_take (m : List Ex) (i : Nat) (hi : i < m.length) : cellsM (m.take (i + 1)) = cellsM (m.take i) ++ xcs (exAt m i) := by
  have e : m.take (i + 1) = m.take i ++ [exAt m i] := take_at _ m i hi
  rw [e]; simp [cellsM]
theorem cellsM_le {blocks : Int} {m : List Ex} (h : Mk blocks m) (i : Nat) : (cellsM (m.take i)).length ≤ 64 := by
  have h1 := (cellsM_mk h).2.1
  have hb := mk_blocks h
  have e : cellsM m = cellsM (m.take i) ++ cellsM (m.drop i) := by unfold cellsM; rw [← List.flatMap_append, List.take_append_drop]
  rw [e, List.length_append] at h1
  omega
theorem mk_at {blocks : Int} {m : List Ex} (h : Mk blocks m) {i : Nat} (hi : i < m.length) : Ck (exAt m i) := (h.2.1 i hi).1
end Ab
end Go.Proofs.Ytimcbhhebnikiaa
namespace Go.Proofs.Ytimcbhhebnikiaa
open Go Go.Proofs.Ytimcbhhebnikiaa.Ab
set_option linter.unusedVariables false
set_option linter.unusedSimpArgs false
namespace Ab
/-- Blocks of which some, one behind the other, are others. -/
def putN (l : List Ce) (s : Nat) (f : Nat → Ce) : Nat → List Ce
  | 0 => l
  | i + 1 => (putN l s f i).set (s + i) (f i)
theorem putN_len (l : List Ce) (s : Nat) (f : Nat → Ce) : ∀ i, (putN l s f i).length = l.length
  | 0 => rfl
  | i + 1 => by rw [putN, List.length_set, putN_len l s f i]
theorem putN_get (l : List Ce) (s : Nat) (f : Nat → Ce) : ∀ n, s + n ≤ l.length → ∀ j, (putN l s f n)[j]? = if s ≤ j ∧ j < s + n then some (f (j - s)) else l[j]?
  | 0, _, j => by rw [putN, if_neg (by omega)]
  | n + 1, h, j => by
    rw [putN, List.getElem?_set, putN_get l s f n (by omega) j, putN_len]
    by_cases h1 : s + n = j
    · subst h1
      rw [if_pos rfl, if_pos (by omega), if_pos (by omega)]
      congr 2; omega
    · rw [if_neg h1]
      by_cases h2 : s ≤ j ∧ j < s + n
      · rw [if_pos h2, if_pos (by omega)]
      · rw [if_neg h2, if_neg (by omega)]
/-- Some of a block's bytes, the others 0. -/
def part (d : List UInt8) (k : Nat) : List UInt8 := (pad 32 d).take k ++ List.replicate (32 - k) 0
theorem part_len (d : List UInt8) {k : Nat} (h : k ≤ 32) : (part d k).length = 32 := by
  unfold part; rw [List.length_append, List.length_take, pad_len, List.length_replicate]; omega
theorem part_all (d : List UInt8) : part d 32 = pad 32 d := by
  unfold part; rw [Nat.sub_self, List.replicate_zero, List.append_nil, List.take_of_length_le (by simp)]
theorem pad_getD (d : List UInt8) {k : Nat} (h : k < 32) : (pad 32 d).getD k 0 = d.getD k 0 := by
  unfold pad
  rw [List.getD_eq_getElem?_getD, List.getElem?_take_of_lt h, List.getD_eq_getElem?_getD]
  by_cases hk : k < d.length
  · rw [List.getElem?_append_left hk]
  · rw [List.getElem?_append_right (by omega), List.getElem?_eq_none (l := d) (by omega)]
    rw [List.getElem?_replicate]; split <;> rfl
theorem part_step (d : List UInt8) {k : Nat} (h : k < 32) : (pad 32 (part d k)).set k (d.getD k 0) = part d (k + 1) := by
  rw [pad_of (part_len d (by omega)), ← pad_getD d h]
  unfold part
  have hl : ((pad 32 d).take k).length = k := by rw [List.length_take, pad_len]; omega
  rw [take_at 0 (pad 32 d) k (by simp; omega), show 32 - k = (32 - (k + 1)) + 1 by omega, List.replicate_succ, List.append_assoc, List.set_append_right _ _ (by omega), hl, Nat.sub_self]
  simp only [List.set_cons_zero, List.cons_append, List.nil_append]
end Ab
end Go.Proofs.Ytimcbhhebnikiaa
namespace Go.Proofs.Ytimcbhhebnikiaa
open Go Go.Proofs.Ytimcbhhebnikiaa.Ab
set_option linter.unusedVariables false
set_option linter.unusedSimpArgs false
set_option maxRecDepth 1000000
namespace Ab
noncomputable abbrev r8Cells_L2_I (blocks : Int) (l : List Ex) (s1 : Int × List Ce) (s4 : List UInt8) (s5 : Int × List Ce) : St := (St.mk [((0 : Nat), (AV.i blocks)), ((1 : Nat), (AV.sl (List.length l) (List.flatMap Ex.cells l))), ((4 : Nat), AV.nl), ((5 : Nat), (AV.rf 0 34 0 (Int.toNat blocks))), ((6 : Nat), (AV.i s1.1)), ((16 : Nat), (AV.b (decide (s1.1 < (↑(List.length l) : Int))))), ((7 : Nat), (AV.sl (List.length s4) (List.map AV.y s4))), ((8 : Nat), (AV.i s5.1)), ((24 : Nat), (AV.i s5.1)), ((25 : Nat), (AV.sl (List.length s4) (List.map AV.y s4))), ((26 : Nat), (AV.i (↑(List.length s4) : Int))), ((27 : Nat), (AV.i (wr (Int.tdiv (↑(List.length s4) : Int) (32 : Int))))), ((28 : Nat), (AV.b (decide (s5.1 < (wr (Int.tdiv (↑(List.length s4) : Int) (32 : Int))))))), ((31 : Nat), (AV.sl (List.length l) (List.flatMap Ex.cells l))), ((32 : Nat), (AV.i s1.1)), ((33 : Nat), (AV.ip (List.drop ((Int.toNat s1.1) * (5 : Nat)) (List.flatMap Ex.cells l)))), ((34 : Nat), (AV.ip (List.drop ((Int.toNat s1.1) * (5 : Nat)) (List.flatMap Ex.cells l)))), ((35 : Nat), (AV.i (exAt l (Int.toNat s1.1)).lba)), ((36 : Nat), (AV.i s5.1)), ((37 : Nat), (AV.i (wr ((exAt l (Int.toNat s1.1)).lba + s5.1)))), ((38 : Nat), (AV.i blocks)), ((39 : Nat), (AV.b (decide ((wr ((exAt l (Int.toNat s1.1)).lba + s5.1)) ≥ blocks)))), ((40 : Nat), (AV.sl (List.length l) (List.flatMap Ex.cells l))), ((41 : Nat), (AV.i s1.1)), ((42 : Nat), (AV.ip (List.drop ((Int.toNat s1.1) * (5 : Nat)) (List.flatMap Ex.cells l)))), ((43 : Nat), (AV.ip (List.drop 2 (List.drop ((Int.toNat s1.1) * (5 : Nat)) (List.flatMap Ex.cells l))))), ((44 : Nat), (AV.i (exAt l (Int.toNat s1.1)).kind)), ((45 : Nat), (AV.sl (List.length l) (List.flatMap Ex.cells l))), ((46 : Nat), (AV.i s1.1)), ((47 : Nat), (AV.ip (List.drop ((Int.toNat s1.1) * (5 : Nat)) (List.flatMap Ex.cells l)))), ((48 : Nat), (AV.ip (List.drop 3 (List.drop ((Int.toNat s1.1) * (5 : Nat)) (List.flatMap Ex.cells l))))), ((49 : Nat), (AV.i (exAt l (Int.toNat s1.1)).gen)), ((50 : Nat), (AV.ag ((AV.i (exAt l (Int.toNat s1.1)).kind) :: (AV.i (exAt l (Int.toNat s1.1)).gen) :: List.replicate (32 : Nat) (AV.y (UInt8.ofNat (0 : Nat)))))), ((9 : Nat), (AV.pt 1 0)), ((10 : Nat), (AV.i 0))] 76 (AH.mk 2 [((1 : Nat), (AObj.cells ((AV.i (exAt l (Int.toNat s1.1)).kind) :: (AV.i (exAt l (Int.toNat s1.1)).gen) :: List.replicate (32 : Nat) (AV.y (UInt8.ofNat (0 : Nat)))))), ((0 : Nat), (AObj.cells (List.flatMap Ce.cells s5.2)))]) Bool.false)
noncomputable abbrev r8Cells_L2_S (blocks : Int) (l : List Ex) (s1 : Int × List Ce) (s4 : List UInt8) (s5 : Int × List Ce) (s9 : Int × Ce) : St := (St.mk [((0 : Nat), (AV.i blocks)), ((1 : Nat), (AV.sl (List.length l) (List.flatMap Ex.cells l))), ((4 : Nat), AV.nl), ((5 : Nat), (AV.rf 0 34 0 (Int.toNat blocks))), ((6 : Nat), (AV.i s1.1)), ((16 : Nat), (AV.b (decide (s1.1 < (↑(List.length l) : Int))))), ((7 : Nat), (AV.sl (List.length s4) (List.map AV.y s4))), ((8 : Nat), (AV.i s5.1)), ((28 : Nat), (AV.b (decide (s5.1 < (wr (Int.tdiv (↑(List.length s4) : Int) (32 : Int))))))), ((39 : Nat), (AV.b (decide ((wr ((exAt l (Int.toNat s1.1)).lba + s5.1)) ≥ blocks)))), ((9 : Nat), (AV.pt 1 0)), ((10 : Nat), (AV.i s9.1))] 76 (AH.mk 2 [((1 : Nat), (AObj.cells (Ce.cells s9.2))), ((0 : Nat), (AObj.cells (List.flatMap Ce.cells s5.2)))]) Bool.false)
noncomputable def r8Cells_L2_step (blocks : Int) (l : List Ex) (s1 : Int × List Ce) (s4 : List UInt8) (s5 : Int × List Ce) (s9 : Int × Ce) : Option (Int × Ce) :=
 (tb ((decide (s9.1 < (32 : Int))))
  (tp ((((0 : Int) ≤ (wr ((wr ((32 : Int) * s5.1)) + s9.1))) ∧ ((wr ((wr ((32 : Int) * s5.1)) + s9.1)) < (↑(List.length s4) : Int))))
   (tp ((((0 : Int) ≤ s9.1) ∧ (s9.1 < (32 : Int))))
    (tp ((((List.length [(AV.y (List.getD s4 ((Int.toNat (wr ((wr ((32 : Int) * s5.1)) + s9.1))) * (1 : Nat)) (OfNat.ofNat 0)))]) = (1 : Nat)) ∧ ((((2 : Nat) + ((Int.toNat s9.1) * (1 : Nat))) + (List.length [(AV.y (List.getD s4 ((Int.toNat (wr ((wr ((32 : Int) * s5.1)) + s9.1))) * (1 : Nat)) (OfNat.ofNat 0)))])) ≤ (List.length ((AV.i s9.2.kind) :: (AV.i s9.2.gen) :: (List.map AV.y (pad 32 s9.2.d)))))))
     (some (((wr (s9.1 + (1 : Int))), (Ce.mk s9.2.kind s9.2.gen (List.set (pad 32 s9.2.d) ((Int.toNat s9.1) * (1 : Nat)) (List.getD s4 ((Int.toNat (wr ((wr ((32 : Int) * s5.1)) + s9.1))) * (1 : Nat)) (OfNat.ofNat 0))))))))))
  none /- exit -/)
theorem r8Cells_L2_s0 (blocks : Int) (l : List Ex) (s1 : Int × List Ce) (s4 : List UInt8) (s5 : Int × List Ce) (s9 : Int × Ce) (h10 : ((decide (s9.1 < (32 : Int)))) = true) (h10p : (s9.1 < (32 : Int))) (h11 : (((0 : Int) ≤ (wr ((wr ((32 : Int) * s5.1)) + s9.1))) ∧ ((wr ((wr ((32 : Int) * s5.1)) + s9.1)) < (↑(List.length s4) : Int)))) (h12 : (((0 : Int) ≤ s9.1) ∧ (s9.1 < (32 : Int)))) (h13 : (((List.length [(AV.y (List.getD s4 ((Int.toNat (wr ((wr ((32 : Int) * s5.1)) + s9.1))) * (1 : Nat)) (OfNat.ofNat 0)))]) = (1 : Nat)) ∧ ((((2 : Nat) + ((Int.toNat s9.1) * (1 : Nat))) + (List.length [(AV.y (List.getD s4 ((Int.toNat (wr ((wr ((32 : Int) * s5.1)) + s9.1))) * (1 : Nat)) (OfNat.ofNat 0)))])) ≤ (List.length ((AV.i s9.2.kind) :: (AV.i s9.2.gen) :: (List.map AV.y (pad 32 s9.2.d))))))) : EvStep Try.prog cf 2 (lp Try.prog 71 2) (r8Cells_L2_S blocks l s1 s4 s5 s9) (r8Cells_L2_S blocks l s1 s4 s5 (((wr (s9.1 + (1 : Int))), (Ce.mk s9.2.kind s9.2.gen (List.set (pad 32 s9.2.d) ((Int.toNat s9.1) * (1 : Nat)) (List.getD s4 ((Int.toNat (wr ((wr ((32 : Int) * s5.1)) + s9.1))) * (1 : Nat)) (OfNat.ofNat 0))))))) :=
  leafS vw_eq (k := 300) (r := []) (hs := hz [(2, [.yes]), (6, [.yes, .yes, .val ((AV.y (List.getD s4 ((Int.toNat (wr ((wr ((32 : Int) * s5.1)) + s9.1))) * (1 : Nat)) (0 : UInt8))))]), (1, [.yes, .yes, .cells (((AV.i s9.2.kind) :: (AV.i s9.2.gen) :: (List.map AV.y (List.set (pad 32 s9.2.d) ((Int.toNat s9.1) * (1 : Nat)) (List.getD s4 ((Int.toNat (wr ((wr ((32 : Int) * s5.1)) + s9.1))) * (1 : Nat)) (OfNat.ofNat 0))))))]), (3, [])]) (st1 := (St.mk [((0 : Nat), (AV.i blocks)), ((1 : Nat), (AV.sl (List.length l) (List.flatMap Ex.cells l))), ((4 : Nat), AV.nl), ((5 : Nat), (AV.rf 0 34 0 (Int.toNat blocks))), ((6 : Nat), (AV.i s1.1)), ((16 : Nat), (AV.b (decide (s1.1 < (↑(List.length l) : Int))))), ((7 : Nat), (AV.sl (List.length s4) (List.map AV.y s4))), ((8 : Nat), (AV.i s5.1)), ((28 : Nat), (AV.b (decide (s5.1 < (wr (Int.tdiv (↑(List.length s4) : Int) (32 : Int))))))), ((39 : Nat), (AV.b (decide ((wr ((exAt l (Int.toNat s1.1)).lba + s5.1)) ≥ blocks)))), ((9 : Nat), (AV.pt 1 0)), ((10 : Nat), (AV.i (wr (s9.1 + (1 : Int))))), ((51 : Nat), (AV.i s9.1)), ((52 : Nat), (AV.b (decide (s9.1 < (32 : Int))))), ((55 : Nat), (AV.i s9.1)), ((56 : Nat), (AV.sl (List.length s4) (List.map AV.y s4))), ((57 : Nat), (AV.i s5.1)), ((58 : Nat), (AV.i (wr ((32 : Int) * s5.1)))), ((59 : Nat), (AV.i s9.1)), ((60 : Nat), (AV.i (wr ((wr ((32 : Int) * s5.1)) + s9.1)))), ((61 : Nat), (AV.ip (List.drop ((Int.toNat (wr ((wr ((32 : Int) * s5.1)) + s9.1))) * (1 : Nat)) (List.map AV.y s4)))), ((62 : Nat), (AV.y (List.getD s4 ((Int.toNat (wr ((wr ((32 : Int) * s5.1)) + s9.1))) * (1 : Nat)) (OfNat.ofNat 0)))), ((63 : Nat), (AV.pt 1 2)), ((64 : Nat), (AV.pt 1 ((2 : Nat) + ((Int.toNat s9.1) * (1 : Nat))))), ((53 : Nat), (AV.i s9.1)), ((54 : Nat), (AV.i (wr (s9.1 + (1 : Int)))))] 76 (AH.mk 2 [((1 : Nat), (AObj.cells ((AV.i s9.2.kind) :: (AV.i s9.2.gen) :: (List.map AV.y (List.set (pad 32 s9.2.d) ((Int.toNat s9.1) * (1 : Nat)) (List.getD s4 ((Int.toNat (wr ((wr ((32 : Int) * s5.1)) + s9.1))) * (1 : Nat)) (OfNat.ofNat 0))))))), ((0 : Nat), (AObj.cells (List.flatMap Ce.cells s5.2)))]) Bool.false)) kq (ac h10 (ac h11 (ac (fq (p := ((1 : Nat) ≤ (List.length (List.drop ((Int.toNat (wr ((wr ((32 : Int) * s5.1)) + s9.1))) * (1 : Nat)) (List.map AV.y s4)))))) (ac (show (List.take 1 (List.drop ((Int.toNat (wr ((wr ((32 : Int) * s5.1)) + s9.1))) * (1 : Nat)) (List.map AV.y s4))) = [(AV.y (List.getD s4 ((Int.toNat (wr ((wr ((32 : Int) * s5.1)) + s9.1))) * (1 : Nat)) (0 : UInt8)))] from (by (try simp only [List.drop_drop]); exact one_drop_yC (l := s4) tq bq)) (ac h12 (ac h13 (ac (show (((List.take ((2 : Nat) + ((Int.toNat s9.1) * (1 : Nat))) ((AV.i s9.2.kind) :: (AV.i s9.2.gen) :: (List.map AV.y (pad 32 s9.2.d)))) ++ [(AV.y (List.getD s4 ((Int.toNat (wr ((wr ((32 : Int) * s5.1)) + s9.1))) * (1 : Nat)) (OfNat.ofNat 0)))]) ++ (List.drop (((2 : Nat) + ((Int.toNat s9.1) * (1 : Nat))) + (List.length [(AV.y (List.getD s4 ((Int.toNat (wr ((wr ((32 : Int) * s5.1)) + s9.1))) * (1 : Nat)) (OfNat.ofNat 0)))])) ((AV.i s9.2.kind) :: (AV.i s9.2.gen) :: (List.map AV.y (pad 32 s9.2.d))))) = ((AV.i s9.2.kind) :: (AV.i s9.2.gen) :: (List.map AV.y (List.set (pad 32 s9.2.d) ((Int.toNat s9.1) * (1 : Nat)) (List.getD s4 ((Int.toNat (wr ((wr ((32 : Int) * s5.1)) + s9.1))) * (1 : Nat)) (OfNat.ofNat 0))))) from (over_pre_y (p := [(AV.i s9.2.kind), (AV.i s9.2.gen)]) (l := (pad 32 s9.2.d)) (k := ((Int.toNat s9.1) * (1 : Nat))) tq bq)) an))))))) (Nat.le_of_ble_eq_true rfl) (absB_of [] [] kq (.consn kq (.eqv tq rfl) (.consn kq (.eqv tq rfl) (.consn kq .nl0 (.consn kq (.rf rfl) (.consn kq (.eqv tq rfl) (.consn kq (.eqv tq rfl) (.consn kq (.eqv tq rfl) (.consn kq (.eqv tq rfl) (.consn kq (.eqv tq rfl) (.consn kq (.eqv tq rfl) (.consn kq (.pt rfl) (.consn kq (.eqv tq rfl) .nil)))))))))))) (.cons (.old rfl rfl (.cells (.pl tq pq))) (.cons (.old rfl rfl (.cells (.pl rfl (by simp)))) .nil)))
theorem r8Cells_L2_ok (blocks : Int) (l : List Ex) (s1 : Int × List Ce) (s4 : List UInt8) (s5 : Int × List Ce) (s9 zz : Int × Ce) : r8Cells_L2_step blocks l s1 s4 s5 s9 = some zz → EvStep Try.prog cf 2 (lp Try.prog 71 2) (r8Cells_L2_S blocks l s1 s4 s5 s9) (r8Cells_L2_S blocks l s1 s4 s5 zz) := by
  unfold r8Cells_L2_step
  refine tb_ok (fun h10 => ?_) (fun h10 => ?_)
  ·
    have h10p := of_decide_eq_true h10
    refine tp_ok (fun h11 => ?_)
    refine tp_ok (fun h12 => ?_)
    refine tp_ok (fun h13 => ?_)
    exact fun e => tl_ok (G := (fun zz => EvStep Try.prog cf 2 (lp Try.prog 71 2) (r8Cells_L2_S blocks l s1 s4 s5 s9) (r8Cells_L2_S blocks l s1 s4 s5 zz))) (r8Cells_L2_s0 blocks l s1 s4 s5 s9 h10 h10p h11 h12 h13) e
  ·
    have h10p := of_decide_eq_false h10
    exact fun e => nomatch e
noncomputable abbrev r8Cells_L1_I (blocks : Int) (l : List Ex) (s1 : Int × List Ce) (s4 : List UInt8) : St := (St.mk [((0 : Nat), (AV.i blocks)), ((1 : Nat), (AV.sl (List.length l) (List.flatMap Ex.cells l))), ((4 : Nat), AV.nl), ((5 : Nat), (AV.rf 0 34 0 (Int.toNat blocks))), ((6 : Nat), (AV.i s1.1)), ((13 : Nat), (AV.i s1.1)), ((14 : Nat), (AV.sl (List.length l) (List.flatMap Ex.cells l))), ((15 : Nat), (AV.i (↑(List.length l) : Int))), ((16 : Nat), (AV.b (decide (s1.1 < (↑(List.length l) : Int))))), ((19 : Nat), (AV.sl (List.length l) (List.flatMap Ex.cells l))), ((20 : Nat), (AV.i s1.1)), ((21 : Nat), (AV.ip (List.drop ((Int.toNat s1.1) * (5 : Nat)) (List.flatMap Ex.cells l)))), ((22 : Nat), (AV.ag [(AV.i (exAt l (Int.toNat s1.1)).lba), (AV.i (exAt l (Int.toNat s1.1)).len), (AV.i (exAt l (Int.toNat s1.1)).kind), (AV.i (exAt l (Int.toNat s1.1)).gen), (AV.sl (List.length (exAt l (Int.toNat s1.1)).d) (List.map AV.y (exAt l (Int.toNat s1.1)).d))])), ((23 : Nat), (AV.sl (List.length s4) (List.map AV.y s4))), ((7 : Nat), (AV.sl (List.length s4) (List.map AV.y s4))), ((8 : Nat), (AV.i 0))] 76 (AH.mk 1 [((0 : Nat), (AObj.cells (List.flatMap Ce.cells s1.2)))]) Bool.false)
noncomputable abbrev r8Cells_L1_S (blocks : Int) (l : List Ex) (s1 : Int × List Ce) (s4 : List UInt8) (s5 : Int × List Ce) : St := (St.mk [((0 : Nat), (AV.i blocks)), ((1 : Nat), (AV.sl (List.length l) (List.flatMap Ex.cells l))), ((4 : Nat), AV.nl), ((5 : Nat), (AV.rf 0 34 0 (Int.toNat blocks))), ((6 : Nat), (AV.i s1.1)), ((16 : Nat), (AV.b (decide (s1.1 < (↑(List.length l) : Int))))), ((7 : Nat), (AV.sl (List.length s4) (List.map AV.y s4))), ((8 : Nat), (AV.i s5.1))] 76 (AH.mk 1 [((0 : Nat), (AObj.cells (List.flatMap Ce.cells s5.2)))]) Bool.false)
noncomputable def r8Cells_L1_step (blocks : Int) (l : List Ex) (s1 : Int × List Ce) (s4 : List UInt8) (s5 : Int × List Ce) : Option (Int × List Ce) :=
 (tb ((decide (s5.1 < (wr (Int.tdiv (↑(List.length s4) : Int) (32 : Int))))))
  (tp ((((0 : Int) ≤ s1.1) ∧ (s1.1 < (↑(List.length l) : Int))))
   (tb ((decide ((wr ((exAt l (Int.toNat s1.1)).lba + s5.1)) ≥ blocks)))
    none /- exit -/
    (th (r8Cells_L2_step blocks l s1 s4 s5) (((0 : Int), (Ce.mk (exAt l (Int.toNat s1.1)).kind (exAt l (Int.toNat s1.1)).gen (List.replicate (32 : Nat) (UInt8.ofNat (0 : Nat)))))) fun s9 =>
     (tb ((decide (s9.1 < (32 : Int))))
      none /- stop behind an operation -/
      (tp ((((0 : Int) ≤ (wr ((exAt l (Int.toNat s1.1)).lba + s5.1))) ∧ ((wr ((exAt l (Int.toNat s1.1)).lba + s5.1)) < (↑(Int.toNat blocks) : Int))))
       (tp ((((List.length ((AV.i s9.2.kind) :: (AV.i s9.2.gen) :: (List.map AV.y (pad 32 s9.2.d)))) = (34 : Nat)) ∧ ((((0 : Nat) + ((Int.toNat (wr ((exAt l (Int.toNat s1.1)).lba + s5.1))) * (34 : Nat))) + (List.length ((AV.i s9.2.kind) :: (AV.i s9.2.gen) :: (List.map AV.y (pad 32 s9.2.d))))) ≤ (List.length (List.flatMap Ce.cells s5.2)))))
        (some (((wr (s5.1 + (1 : Int))), (List.set s5.2 (Int.toNat (wr ((exAt l (Int.toNat s1.1)).lba + s5.1))) s9.2))))))))))
  none /- exit -/)
theorem r8Cells_L1_s0 (blocks : Int) (l : List Ex) (s1 : Int × List Ce) (s4 : List UInt8) (s5 : Int × List Ce) (h6 : ((decide (s5.1 < (wr (Int.tdiv (↑(List.length s4) : Int) (32 : Int)))))) = true) (h6p : (s5.1 < (wr (Int.tdiv (↑(List.length s4) : Int) (32 : Int))))) (h7 : (((0 : Int) ≤ s1.1) ∧ (s1.1 < (↑(List.length l) : Int)))) (h8 : ((decide ((wr ((exAt l (Int.toNat s1.1)).lba + s5.1)) ≥ blocks))) = false) (h8p : ¬ ((wr ((exAt l (Int.toNat s1.1)).lba + s5.1)) ≥ blocks)) (s9 : Int × Ce) (h9 : Runs (r8Cells_L2_step blocks l s1 s4 s5) (((0 : Int), (Ce.mk (exAt l (Int.toNat s1.1)).kind (exAt l (Int.toNat s1.1)).gen (List.replicate (32 : Nat) (UInt8.ofNat (0 : Nat)))))) s9) (h10 : ((decide (s9.1 < (32 : Int)))) = false) (h10p : ¬ (s9.1 < (32 : Int))) (h11 : (((0 : Int) ≤ (wr ((exAt l (Int.toNat s1.1)).lba + s5.1))) ∧ ((wr ((exAt l (Int.toNat s1.1)).lba + s5.1)) < (↑(Int.toNat blocks) : Int)))) (h12 : (((List.length ((AV.i s9.2.kind) :: (AV.i s9.2.gen) :: (List.map AV.y (pad 32 s9.2.d)))) = (34 : Nat)) ∧ ((((0 : Nat) + ((Int.toNat (wr ((exAt l (Int.toNat s1.1)).lba + s5.1))) * (34 : Nat))) + (List.length ((AV.i s9.2.kind) :: (AV.i s9.2.gen) :: (List.map AV.y (pad 32 s9.2.d))))) ≤ (List.length (List.flatMap Ce.cells s5.2))))) : EvStep Try.prog cf 1 (lp Try.prog 71 1) (r8Cells_L1_S blocks l s1 s4 s5) (r8Cells_L1_S blocks l s1 s4 (((wr (s5.1 + (1 : Int))), (List.set s5.2 (Int.toNat (wr ((exAt l (Int.toNat s1.1)).lba + s5.1))) s9.2)))) :=
  leafS vw_eq (k := 300) (r := []) (hs := hz [(5, [.yes]), (2, [.yes]), (1, [.yes, .val ((AV.i (exAt l (Int.toNat s1.1)).lba))]), (4, [.no]), (2, [.yes]), (1, [.yes, .val ((AV.i (exAt l (Int.toNat s1.1)).kind))]), (2, [.yes]), (1, [.yes, .val ((AV.i (exAt l (Int.toNat s1.1)).gen))]), (3, [.cells (((AV.i (exAt l (Int.toNat s1.1)).kind) :: (AV.i (exAt l (Int.toNat s1.1)).gen) :: List.replicate (32 : Nat) (AV.y (UInt8.ofNat (0 : Nat))))), .yes]), (1, [.head (r8Cells_L2_S blocks l s1 s4 s5 s9)]), (2, [.no]), (3, [.yes]), (1, [.yes, .val ((AV.i (exAt l (Int.toNat s1.1)).lba))]), (2, [.yes, .cells (((AV.i s9.2.kind) :: (AV.i s9.2.gen) :: (List.map AV.y (pad 32 s9.2.d)))), .yes, .yes, .cells ((List.flatMap Ce.cells (List.set s5.2 (Int.toNat (wr ((exAt l (Int.toNat s1.1)).lba + s5.1))) s9.2))), .yes]), (3, [])]) (st1 := (St.mk [((0 : Nat), (AV.i blocks)), ((1 : Nat), (AV.sl (List.length l) (List.flatMap Ex.cells l))), ((4 : Nat), AV.nl), ((5 : Nat), (AV.rf 0 34 0 (Int.toNat blocks))), ((6 : Nat), (AV.i s1.1)), ((16 : Nat), (AV.b (decide (s1.1 < (↑(List.length l) : Int))))), ((7 : Nat), (AV.sl (List.length s4) (List.map AV.y s4))), ((8 : Nat), (AV.i (wr (s5.1 + (1 : Int))))), ((28 : Nat), (AV.b (decide (s5.1 < (wr (Int.tdiv (↑(List.length s4) : Int) (32 : Int))))))), ((39 : Nat), (AV.b (decide ((wr ((exAt l (Int.toNat s1.1)).lba + s5.1)) ≥ blocks)))), ((9 : Nat), (AV.pt 1 0)), ((10 : Nat), (AV.i s9.1)), ((51 : Nat), (AV.i s9.1)), ((52 : Nat), (AV.b (decide (s9.1 < (32 : Int))))), ((65 : Nat), (AV.rf 0 34 0 (Int.toNat blocks))), ((66 : Nat), (AV.sl (List.length l) (List.flatMap Ex.cells l))), ((67 : Nat), (AV.i s1.1)), ((68 : Nat), (AV.ip (List.drop ((Int.toNat s1.1) * (5 : Nat)) (List.flatMap Ex.cells l)))), ((69 : Nat), (AV.ip (List.drop ((Int.toNat s1.1) * (5 : Nat)) (List.flatMap Ex.cells l)))), ((70 : Nat), (AV.i (exAt l (Int.toNat s1.1)).lba)), ((71 : Nat), (AV.i s5.1)), ((72 : Nat), (AV.i (wr ((exAt l (Int.toNat s1.1)).lba + s5.1)))), ((73 : Nat), (AV.ag ((AV.i s9.2.kind) :: (AV.i s9.2.gen) :: (List.map AV.y (pad 32 s9.2.d))))), ((74 : Nat), (AV.pt 0 ((0 : Nat) + ((Int.toNat (wr ((exAt l (Int.toNat s1.1)).lba + s5.1))) * (34 : Nat))))), ((29 : Nat), (AV.i s5.1)), ((30 : Nat), (AV.i (wr (s5.1 + (1 : Int)))))] 76 (AH.mk 2 [((1 : Nat), (AObj.cells ((AV.i s9.2.kind) :: (AV.i s9.2.gen) :: (List.map AV.y (pad 32 s9.2.d))))), ((0 : Nat), (AObj.cells (List.flatMap Ce.cells (List.set s5.2 (Int.toNat (wr ((exAt l (Int.toNat s1.1)).lba + s5.1))) s9.2))))]) Bool.false)) kq (ac h6 (ac h7 (ac (fq (p := ((1 : Nat) ≤ (List.length (List.drop ((Int.toNat s1.1) * (5 : Nat)) (List.flatMap Ex.cells l)))))) (ac (show (List.take 1 (List.drop ((Int.toNat s1.1) * (5 : Nat)) (List.flatMap Ex.cells l))) = [(AV.i (exAt l (Int.toNat s1.1)).lba)] from (by first | exact ex_one0 _ _ _ bq rfl | (simpa using ex_one (l) ((Int.toNat s1.1)) 0 _ bq rfl))) (ac h8 (ac h7 (ac (fq (p := ((1 : Nat) ≤ (List.length (List.drop 2 (List.drop ((Int.toNat s1.1) * (5 : Nat)) (List.flatMap Ex.cells l))))))) (ac (show (List.take 1 (List.drop 2 (List.drop ((Int.toNat s1.1) * (5 : Nat)) (List.flatMap Ex.cells l)))) = [(AV.i (exAt l (Int.toNat s1.1)).kind)] from (by first | exact ex_one _ _ _ _ bq rfl | exact ex_oneA _ _ _ _ bq rfl | (simpa using ex_one (l) ((Int.toNat s1.1)) 2 _ bq rfl) | ((try simp only [List.drop_drop]); rw [show ((2 : Nat) + ((Int.toNat s1.1) * (5 : Nat))) = ((Int.toNat s1.1)) * 5 + 2 by omega]; exact ex_oneA (l) ((Int.toNat s1.1)) 2 _ bq rfl))) (ac h7 (ac (fq (p := ((1 : Nat) ≤ (List.length (List.drop 3 (List.drop ((Int.toNat s1.1) * (5 : Nat)) (List.flatMap Ex.cells l))))))) (ac (show (List.take 1 (List.drop 3 (List.drop ((Int.toNat s1.1) * (5 : Nat)) (List.flatMap Ex.cells l)))) = [(AV.i (exAt l (Int.toNat s1.1)).gen)] from (by first | exact ex_one _ _ _ _ bq rfl | exact ex_oneA _ _ _ _ bq rfl | (simpa using ex_one (l) ((Int.toNat s1.1)) 3 _ bq rfl) | ((try simp only [List.drop_drop]); rw [show ((3 : Nat) + ((Int.toNat s1.1) * (5 : Nat))) = ((Int.toNat s1.1)) * 5 + 3 by omega]; exact ex_oneA (l) ((Int.toNat s1.1)) 3 _ bq rfl))) (ac (Eq.refl (((AV.i (exAt l (Int.toNat s1.1)).kind) :: (AV.i (exAt l (Int.toNat s1.1)).gen) :: List.replicate (32 : Nat) (AV.y (UInt8.ofNat (0 : Nat)))) : List AV)) (ac (show orderOk (rg Try.prog 71 0) = true ∧ allOk (Region.before (rg Try.prog 71 0)) [] 0 [(some [], some []), (some [], some []), (some [], some []), (some [], some []), (some [], some []), (some [], some []), (some [], some []), (some [], some []), (some [], some []), (some [], some []), (some [], some []), (some [], some [1]), (some [1], some [1])] = true from (ord_of ord_71_0 bef_71_0 kq)) (ac (show EvHead Try.prog cf (lp Try.prog 71 2) (r8Cells_L2_I blocks l s1 s4 s5) (r8Cells_L2_S blocks l s1 s4 s5 s9) from (EvHead.of (r8Cells_L2_ok blocks l s1 s4 s5) (absB_of [] [] kq (.consn kq (.eqv tq rfl) (.consn kq (.eqv tq rfl) (.consn kq .nl0 (.consn kq (.rf rfl) (.consn kq (.eqv tq rfl) (.consn kq (.eqv tq rfl) (.consn kq (.eqv tq rfl) (.consn kq (.eqv tq rfl) (.consn kq (.eqv tq rfl) (.consn kq (.eqv tq rfl) (.consn kq (.pt rfl) (.consn kq (.eqv tq rfl) .nil)))))))))))) (.cons (.old rfl rfl (.cells (.pl tq pq))) (.cons (.old rfl rfl (.cells (.pl rfl (by simp)))) .nil))) h9)) (ac h10 (ac h7 (ac (fq (p := ((1 : Nat) ≤ (List.length (List.drop ((Int.toNat s1.1) * (5 : Nat)) (List.flatMap Ex.cells l)))))) (ac (show (List.take 1 (List.drop ((Int.toNat s1.1) * (5 : Nat)) (List.flatMap Ex.cells l))) = [(AV.i (exAt l (Int.toNat s1.1)).lba)] from (by first | exact ex_one0 _ _ _ bq rfl | (simpa using ex_one (l) ((Int.toNat s1.1)) 0 _ bq rfl))) (ac (tq (p := ((34 : Nat) ≤ (List.length ((AV.i s9.2.kind) :: (AV.i s9.2.gen) :: (List.map AV.y (pad 32 s9.2.d))))))) (ac (show (List.take 34 ((AV.i s9.2.kind) :: (AV.i s9.2.gen) :: (List.map AV.y (pad 32 s9.2.d)))) = ((AV.i s9.2.kind) :: (AV.i s9.2.gen) :: (List.map AV.y (pad 32 s9.2.d))) from (List.take_of_length_le tq)) (ac h11 (ac h12 (ac (show (((List.take ((0 : Nat) + ((Int.toNat (wr ((exAt l (Int.toNat s1.1)).lba + s5.1))) * (34 : Nat))) (List.flatMap Ce.cells s5.2)) ++ ((AV.i s9.2.kind) :: (AV.i s9.2.gen) :: (List.map AV.y (pad 32 s9.2.d)))) ++ (List.drop (((0 : Nat) + ((Int.toNat (wr ((exAt l (Int.toNat s1.1)).lba + s5.1))) * (34 : Nat))) + (List.length ((AV.i s9.2.kind) :: (AV.i s9.2.gen) :: (List.map AV.y (pad 32 s9.2.d))))) (List.flatMap Ce.cells s5.2))) = (List.flatMap Ce.cells (List.set s5.2 (Int.toNat (wr ((exAt l (Int.toNat s1.1)).lba + s5.1))) s9.2)) from (ce_setO (x := s9.2) bq bq tq)) (ac (show orderOk (rg Try.prog 71 1) = true ∧ allOk (Region.before (rg Try.prog 71 1)) [] 0 [(some [], some []), (some [], some []), (some [], some []), (some [], some []), (some [], some []), (some [], some []), (some [], some []), (some [], some []), (some [1], some []), (some [], some []), (some [0], some [0])] = true from (ord_of ord_71_1 bef_71_1 kq)) an)))))))))))))))))))))))) (Nat.le_of_ble_eq_true rfl) (absB_of [] [] kq (.consn kq (.eqv tq rfl) (.consn kq (.eqv tq rfl) (.consn kq .nl0 (.consn kq (.rf rfl) (.consn kq (.eqv tq rfl) (.consn kq (.eqv tq rfl) (.consn kq (.eqv tq rfl) (.consn kq (.eqv tq rfl) .nil)))))))) (.cons (.old rfl rfl (.cells (.pl tq pq))) .nil))
theorem r8Cells_L1_ok (blocks : Int) (l : List Ex) (s1 : Int × List Ce) (s4 : List UInt8) (s5 zz : Int × List Ce) : r8Cells_L1_step blocks l s1 s4 s5 = some zz → EvStep Try.prog cf 1 (lp Try.prog 71 1) (r8Cells_L1_S blocks l s1 s4 s5) (r8Cells_L1_S blocks l s1 s4 zz) := by
  unfold r8Cells_L1_step
  refine tb_ok (fun h6 => ?_) (fun h6 => ?_)
  ·
    have h6p := of_decide_eq_true h6
    refine tp_ok (fun h7 => ?_)
    refine tb_ok (fun h8 => ?_) (fun h8 => ?_)
    ·
      have h8p := of_decide_eq_true h8
      exact fun e => nomatch e
    ·
      have h8p := of_decide_eq_false h8
      refine th_ok (fun s9 h9 => ?_)
      refine tb_ok (fun h10 => ?_) (fun h10 => ?_)
      ·
        have h10p := of_decide_eq_true h10
        exact fun e => nomatch e
      ·
        have h10p := of_decide_eq_false h10
        refine tp_ok (fun h11 => ?_)
        refine tp_ok (fun h12 => ?_)
        exact fun e => tl_ok (G := (fun zz => EvStep Try.prog cf 1 (lp Try.prog 71 1) (r8Cells_L1_S blocks l s1 s4 s5) (r8Cells_L1_S blocks l s1 s4 zz))) (r8Cells_L1_s0 blocks l s1 s4 s5 h6 h6p h7 h8 h8p s9 h9 h10 h10p h11 h12) e
  ·
    have h6p := of_decide_eq_false h6
    exact fun e => nomatch e
noncomputable abbrev r8Cells_L0_I (blocks : Int) (l : List Ex) : St := (St.mk [((0 : Nat), (AV.i blocks)), ((1 : Nat), (AV.sl (List.length l) (List.flatMap Ex.cells l))), ((4 : Nat), AV.nl), ((11 : Nat), (AV.i blocks)), ((12 : Nat), (AV.rf 0 34 0 (Int.toNat blocks))), ((5 : Nat), (AV.rf 0 34 0 (Int.toNat blocks))), ((6 : Nat), (AV.i 0))] 76 (AH.mk 1 [((0 : Nat), (AObj.cells (List.flatten (List.replicate (Int.toNat blocks) ((AV.i (Int.ofNat 0)) :: (AV.i (Int.ofNat 0)) :: List.replicate (32 : Nat) (AV.y (UInt8.ofNat (0 : Nat))))))))]) Bool.false)
noncomputable abbrev r8Cells_L0_S (blocks : Int) (l : List Ex) (s1 : Int × List Ce) : St := (St.mk [((0 : Nat), (AV.i blocks)), ((1 : Nat), (AV.sl (List.length l) (List.flatMap Ex.cells l))), ((4 : Nat), AV.nl), ((5 : Nat), (AV.rf 0 34 0 (Int.toNat blocks))), ((6 : Nat), (AV.i s1.1))] 76 (AH.mk 1 [((0 : Nat), (AObj.cells (List.flatMap Ce.cells s1.2)))]) Bool.false)
noncomputable def r8Cells_L0_step (blocks : Int) (l : List Ex) (s1 : Int × List Ce) : Option (Int × List Ce) :=
 (tb ((decide (s1.1 < (↑(List.length l) : Int))))
  (tp ((((0 : Int) ≤ s1.1) ∧ (s1.1 < (↑(List.length l) : Int))))
   (tc (r7Bytes ((exAt l (Int.toNat s1.1)))) fun s4 =>
    (th (r8Cells_L1_step blocks l s1 s4) (((0 : Int), s1.2)) fun s5 =>
     (tb ((decide (s5.1 < (wr (Int.tdiv (↑(List.length s4) : Int) (32 : Int))))))
      (tb ((decide ((wr ((exAt l (Int.toNat s1.1)).lba + s5.1)) ≥ blocks)))
       (some (((wr (s1.1 + (1 : Int))), s5.2)))
       none /- stop behind an operation -/)
      (some (((wr (s1.1 + (1 : Int))), s5.2)))))))
  none /- exit -/)
theorem r8Cells_L0_s0 (blocks : Int) (l : List Ex) (s1 : Int × List Ce) (h2 : ((decide (s1.1 < (↑(List.length l) : Int)))) = true) (h2p : (s1.1 < (↑(List.length l) : Int))) (h3 : (((0 : Int) ≤ s1.1) ∧ (s1.1 < (↑(List.length l) : Int)))) (s4 : List UInt8) (h4 : r7Bytes ((exAt l (Int.toNat s1.1))) = some s4) (s5 : Int × List Ce) (h5 : Runs (r8Cells_L1_step blocks l s1 s4) (((0 : Int), s1.2)) s5) (h6 : ((decide (s5.1 < (wr (Int.tdiv (↑(List.length s4) : Int) (32 : Int)))))) = true) (h6p : (s5.1 < (wr (Int.tdiv (↑(List.length s4) : Int) (32 : Int))))) (h7 : ((decide ((wr ((exAt l (Int.toNat s1.1)).lba + s5.1)) ≥ blocks))) = true) (h7p : ((wr ((exAt l (Int.toNat s1.1)).lba + s5.1)) ≥ blocks)) : EvStep Try.prog cf 1 (lp Try.prog 71 0) (r8Cells_L0_S blocks l s1) (r8Cells_L0_S blocks l (((wr (s1.1 + (1 : Int))), s5.2))) :=
  leafS vw_eq (k := 300) (r := []) (hs := hz [(4, [.yes]), (2, [.yes, .yes, .cells ((Ex.cells (exAt l (Int.toNat s1.1))))]), (1, [.fres (bys (s4))]), (2, [.head (r8Cells_L1_S blocks l s1 s4 s5)]), (5, [.yes]), (2, [.yes]), (1, [.yes, .val ((AV.i (exAt l (Int.toNat s1.1)).lba))]), (4, [.yes]), (3, [])]) (st1 := (St.mk [((0 : Nat), (AV.i blocks)), ((1 : Nat), (AV.sl (List.length l) (List.flatMap Ex.cells l))), ((4 : Nat), AV.nl), ((5 : Nat), (AV.rf 0 34 0 (Int.toNat blocks))), ((6 : Nat), (AV.i (wr (s1.1 + (1 : Int))))), ((16 : Nat), (AV.b (decide (s1.1 < (↑(List.length l) : Int))))), ((7 : Nat), (AV.sl (List.length s4) (List.map AV.y s4))), ((8 : Nat), (AV.i s5.1)), ((24 : Nat), (AV.i s5.1)), ((25 : Nat), (AV.sl (List.length s4) (List.map AV.y s4))), ((26 : Nat), (AV.i (↑(List.length s4) : Int))), ((27 : Nat), (AV.i (wr (Int.tdiv (↑(List.length s4) : Int) (32 : Int))))), ((28 : Nat), (AV.b (decide (s5.1 < (wr (Int.tdiv (↑(List.length s4) : Int) (32 : Int))))))), ((31 : Nat), (AV.sl (List.length l) (List.flatMap Ex.cells l))), ((32 : Nat), (AV.i s1.1)), ((33 : Nat), (AV.ip (List.drop ((Int.toNat s1.1) * (5 : Nat)) (List.flatMap Ex.cells l)))), ((34 : Nat), (AV.ip (List.drop ((Int.toNat s1.1) * (5 : Nat)) (List.flatMap Ex.cells l)))), ((35 : Nat), (AV.i (exAt l (Int.toNat s1.1)).lba)), ((36 : Nat), (AV.i s5.1)), ((37 : Nat), (AV.i (wr ((exAt l (Int.toNat s1.1)).lba + s5.1)))), ((38 : Nat), (AV.i blocks)), ((39 : Nat), (AV.b (decide ((wr ((exAt l (Int.toNat s1.1)).lba + s5.1)) ≥ blocks)))), ((17 : Nat), (AV.i s1.1)), ((18 : Nat), (AV.i (wr (s1.1 + (1 : Int)))))] 76 (AH.mk 1 [((0 : Nat), (AObj.cells (List.flatMap Ce.cells s5.2)))]) Bool.false)) kq (ac h2 (ac h3 (ac (fq (p := ((5 : Nat) ≤ (List.length (List.drop ((Int.toNat s1.1) * (5 : Nat)) (List.flatMap Ex.cells l)))))) (ac (show (List.take 5 (List.drop ((Int.toNat s1.1) * (5 : Nat)) (List.flatMap Ex.cells l))) = (Ex.cells (exAt l (Int.toNat s1.1))) from (ex_takeO bq bq)) (ac (r7Bytes_ok ((exAt l (Int.toNat s1.1))) _ h4).any0 (ac (show EvHead Try.prog cf (lp Try.prog 71 1) (r8Cells_L1_I blocks l s1 s4) (r8Cells_L1_S blocks l s1 s4 s5) from (EvHead.of (r8Cells_L1_ok blocks l s1 s4) (absB_of [] [] kq (.consn kq (.eqv tq rfl) (.consn kq (.eqv tq rfl) (.consn kq .nl0 (.consn kq (.rf rfl) (.consn kq (.eqv tq rfl) (.consn kq (.eqv tq rfl) (.consn kq (.eqv tq rfl) (.consn kq (.eqv tq rfl) .nil)))))))) (.cons (.old rfl rfl (.cells (.pl tq pq))) .nil)) h5)) (ac h6 (ac h3 (ac (fq (p := ((1 : Nat) ≤ (List.length (List.drop ((Int.toNat s1.1) * (5 : Nat)) (List.flatMap Ex.cells l)))))) (ac (show (List.take 1 (List.drop ((Int.toNat s1.1) * (5 : Nat)) (List.flatMap Ex.cells l))) = [(AV.i (exAt l (Int.toNat s1.1)).lba)] from (by first | exact ex_one0 _ _ _ bq rfl | (simpa using ex_one (l) ((Int.toNat s1.1)) 0 _ bq rfl))) (ac h7 an))))))))))) (Nat.le_of_ble_eq_true rfl) (absB_of [] [] kq (.consn kq (.eqv tq rfl) (.consn kq (.eqv tq rfl) (.consn kq .nl0 (.consn kq (.rf rfl) (.consn kq (.eqv tq rfl) .nil))))) (.cons (.old rfl rfl (.cells (.pl tq pq))) .nil))
theorem r8Cells_L0_s1 (blocks : Int) (l : List Ex) (s1 : Int × List Ce) (h2 : ((decide (s1.1 < (↑(List.length l) : Int)))) = true) (h2p : (s1.1 < (↑(List.length l) : Int))) (h3 : (((0 : Int) ≤ s1.1) ∧ (s1.1 < (↑(List.length l) : Int)))) (s4 : List UInt8) (h4 : r7Bytes ((exAt l (Int.toNat s1.1))) = some s4) (s5 : Int × List Ce) (h5 : Runs (r8Cells_L1_step blocks l s1 s4) (((0 : Int), s1.2)) s5) (h6 : ((decide (s5.1 < (wr (Int.tdiv (↑(List.length s4) : Int) (32 : Int)))))) = false) (h6p : ¬ (s5.1 < (wr (Int.tdiv (↑(List.length s4) : Int) (32 : Int))))) : EvStep Try.prog cf 1 (lp Try.prog 71 0) (r8Cells_L0_S blocks l s1) (r8Cells_L0_S blocks l (((wr (s1.1 + (1 : Int))), s5.2))) :=
  leafS vw_eq (k := 300) (r := []) (hs := hz [(4, [.yes]), (2, [.yes, .yes, .cells ((Ex.cells (exAt l (Int.toNat s1.1))))]), (1, [.fres (bys (s4))]), (2, [.head (r8Cells_L1_S blocks l s1 s4 s5)]), (5, [.no]), (3, [])]) (st1 := (St.mk [((0 : Nat), (AV.i blocks)), ((1 : Nat), (AV.sl (List.length l) (List.flatMap Ex.cells l))), ((4 : Nat), AV.nl), ((5 : Nat), (AV.rf 0 34 0 (Int.toNat blocks))), ((6 : Nat), (AV.i (wr (s1.1 + (1 : Int))))), ((16 : Nat), (AV.b (decide (s1.1 < (↑(List.length l) : Int))))), ((7 : Nat), (AV.sl (List.length s4) (List.map AV.y s4))), ((8 : Nat), (AV.i s5.1)), ((24 : Nat), (AV.i s5.1)), ((25 : Nat), (AV.sl (List.length s4) (List.map AV.y s4))), ((26 : Nat), (AV.i (↑(List.length s4) : Int))), ((27 : Nat), (AV.i (wr (Int.tdiv (↑(List.length s4) : Int) (32 : Int))))), ((28 : Nat), (AV.b (decide (s5.1 < (wr (Int.tdiv (↑(List.length s4) : Int) (32 : Int))))))), ((17 : Nat), (AV.i s1.1)), ((18 : Nat), (AV.i (wr (s1.1 + (1 : Int)))))] 76 (AH.mk 1 [((0 : Nat), (AObj.cells (List.flatMap Ce.cells s5.2)))]) Bool.false)) kq (ac h2 (ac h3 (ac (fq (p := ((5 : Nat) ≤ (List.length (List.drop ((Int.toNat s1.1) * (5 : Nat)) (List.flatMap Ex.cells l)))))) (ac (show (List.take 5 (List.drop ((Int.toNat s1.1) * (5 : Nat)) (List.flatMap Ex.cells l))) = (Ex.cells (exAt l (Int.toNat s1.1))) from (ex_takeO bq bq)) (ac (r7Bytes_ok ((exAt l (Int.toNat s1.1))) _ h4).any0 (ac (show EvHead Try.prog cf (lp Try.prog 71 1) (r8Cells_L1_I blocks l s1 s4) (r8Cells_L1_S blocks l s1 s4 s5) from (EvHead.of (r8Cells_L1_ok blocks l s1 s4) (absB_of [] [] kq (.consn kq (.eqv tq rfl) (.consn kq (.eqv tq rfl) (.consn kq .nl0 (.consn kq (.rf rfl) (.consn kq (.eqv tq rfl) (.consn kq (.eqv tq rfl) (.consn kq (.eqv tq rfl) (.consn kq (.eqv tq rfl) .nil)))))))) (.cons (.old rfl rfl (.cells (.pl tq pq))) .nil)) h5)) (ac h6 an))))))) (Nat.le_of_ble_eq_true rfl) (absB_of [] [] kq (.consn kq (.eqv tq rfl) (.consn kq (.eqv tq rfl) (.consn kq .nl0 (.consn kq (.rf rfl) (.consn kq (.eqv tq rfl) .nil))))) (.cons (.old rfl rfl (.cells (.pl tq pq))) .nil))
theorem r8Cells_L0_ok (blocks : Int) (l : List Ex) (s1 zz : Int × List Ce) : r8Cells_L0_step blocks l s1 = some zz → EvStep Try.prog cf 1 (lp Try.prog 71 0) (r8Cells_L0_S blocks l s1) (r8Cells_L0_S blocks l zz) := by
  unfold r8Cells_L0_step
  refine tb_ok (fun h2 => ?_) (fun h2 => ?_)
  ·
    have h2p := of_decide_eq_true h2
    refine tp_ok (fun h3 => ?_)
    refine tc_ok (fun s4 h4 => ?_)
    refine th_ok (fun s5 h5 => ?_)
    refine tb_ok (fun h6 => ?_) (fun h6 => ?_)
    ·
      have h6p := of_decide_eq_true h6
      refine tb_ok (fun h7 => ?_) (fun h7 => ?_)
      ·
        have h7p := of_decide_eq_true h7
        exact fun e => tl_ok (G := (fun zz => EvStep Try.prog cf 1 (lp Try.prog 71 0) (r8Cells_L0_S blocks l s1) (r8Cells_L0_S blocks l zz))) (r8Cells_L0_s0 blocks l s1 h2 h2p h3 s4 h4 s5 h5 h6 h6p h7 h7p) e
      ·
        have h7p := of_decide_eq_false h7
        exact fun e => nomatch e
    ·
      have h6p := of_decide_eq_false h6
      exact fun e => tl_ok (G := (fun zz => EvStep Try.prog cf 1 (lp Try.prog 71 0) (r8Cells_L0_S blocks l s1) (r8Cells_L0_S blocks l zz))) (r8Cells_L0_s1 blocks l s1 h2 h2p h3 s4 h4 s5 h5 h6 h6p) e
  ·
    have h2p := of_decide_eq_false h2
    exact fun e => nomatch e
/-- Function 71, as it answers. -/
noncomputable def r8Cells (blocks : Int) (l : List Ex) : Option (List Ce) :=
 (tp (((blocks = blocks) ∧ (((0 : Int) ≤ blocks) ∧ (blocks ≤ (4294967296 : Int)))))
  (th (r8Cells_L0_step blocks l) (((0 : Int), (List.replicate (Int.toNat blocks) (Ce.mk 0 0 (List.replicate (32 : Nat) (UInt8.ofNat (0 : Nat))))))) fun s1 =>
   (tb ((decide (s1.1 < (↑(List.length l) : Int))))
    none /- stop behind an operation -/
    (tp ((((0 : Nat) + ((Int.toNat blocks) * (34 : Nat))) ≤ (List.length (List.flatMap Ce.cells s1.2))))
     (some ((List.take (Int.toNat blocks) s1.2)))))))
abbrev r8Cells_G (blocks : Int) (l : List Ex) (r : List Ce) : Prop := EvFr Try.prog cf true 71 [.i (blocks), exs (l)] (ces (r))
theorem r8Cells_l0 (blocks : Int) (l : List Ex) (h0 : ((blocks = blocks) ∧ (((0 : Int) ≤ blocks) ∧ (blocks ≤ (4294967296 : Int))))) (s1 : Int × List Ce) (h1 : Runs (r8Cells_L0_step blocks l) (((0 : Int), (List.replicate (Int.toNat blocks) (Ce.mk 0 0 (List.replicate (32 : Nat) (UInt8.ofNat (0 : Nat))))))) s1) (h2 : ((decide (s1.1 < (↑(List.length l) : Int)))) = false) (h2p : ¬ (s1.1 < (↑(List.length l) : Int))) (h3 : (((0 : Nat) + ((Int.toNat blocks) * (34 : Nat))) ≤ (List.length (List.flatMap Ce.cells s1.2)))) : r8Cells_G blocks l ((List.take (Int.toNat blocks) s1.2)) :=
  leafR vw_eq (k := 300) (r := []) (hs := hz [(2, [.yes]), (2, [.head (r8Cells_L0_S blocks l s1)]), (4, [.no]), (2, [.no, .yes, .yes])]) (raw := (AV.sl (Int.toNat blocks) (List.take ((Int.toNat blocks) * (34 : Nat)) (List.flatMap Ce.cells s1.2)))) kq (ac h0 (ac (show EvHead Try.prog cf (lp Try.prog 71 0) (r8Cells_L0_I blocks l) (r8Cells_L0_S blocks l s1) from (EvHead.of (r8Cells_L0_ok blocks l) (absB_of [] [] kq (.consn kq (.eqv tq rfl) (.consn kq (.eqv tq rfl) (.consn kq .nl0 (.consn kq (.rf rfl) (.consn kq (.eqv tq rfl) .nil))))) (.cons (.old rfl rfl (.cells (.pl tq pq))) .nil)) h1)) (ac h2 (ac h3 (ac (pq (p := Pl Bool.true ((List.take ((Int.toNat blocks) * (34 : Nat)) (List.flatMap Ce.cells s1.2))))) an))))) tq
theorem r8Cells_ok (blocks : Int) (l : List Ex) (r : List Ce) : r8Cells blocks l = some r → r8Cells_G blocks l r := by
  unfold r8Cells
  refine tp_ok (fun h0 => ?_)
  refine th_ok (fun s1 h1 => ?_)
  refine tb_ok (fun h2 => ?_) (fun h2 => ?_)
  ·
    have h2p := of_decide_eq_true h2
    exact fun e => nomatch e
  ·
    have h2p := of_decide_eq_false h2
    refine tp_ok (fun h3 => ?_)
    exact fun e => tl_ok (G := r8Cells_G blocks l) (r8Cells_l0 blocks l h0 s1 h1 h2 h2p h3) e
noncomputable abbrev r11kept_L0_I (blocks : Int) (was : List Ex) (l : List Ex) (gen : Int) (s0 : List Ce) (s1 : List Ce) : St := (St.mk [((0 : Nat), (AV.i blocks)), ((1 : Nat), (AV.sl (List.length was) (List.flatMap Ex.cells was))), ((2 : Nat), (AV.sl (List.length l) (List.flatMap Ex.cells l))), ((3 : Nat), (AV.i gen)), ((8 : Nat), (AV.b Bool.false)), ((12 : Nat), (AV.i blocks)), ((13 : Nat), (AV.sl (List.length was) (List.flatMap Ex.cells was))), ((14 : Nat), (AV.sl (List.length s0) (List.flatMap Ce.cells s0))), ((9 : Nat), (AV.sl (List.length s0) (List.flatMap Ce.cells s0))), ((15 : Nat), (AV.i blocks)), ((16 : Nat), (AV.sl (List.length l) (List.flatMap Ex.cells l))), ((17 : Nat), (AV.sl (List.length s1) (List.flatMap Ce.cells s1))), ((10 : Nat), (AV.sl (List.length s1) (List.flatMap Ce.cells s1))), ((11 : Nat), (AV.i 0))] 41 (AH.mk 0 ([] : List (Prod Nat AObj))) Bool.false)
noncomputable abbrev r11kept_L0_S (blocks : Int) (was : List Ex) (l : List Ex) (gen : Int) (s0 : List Ce) (s1 : List Ce) (s2 : Int) : St := (St.mk [((0 : Nat), (AV.i blocks)), ((1 : Nat), (AV.sl (List.length was) (List.flatMap Ex.cells was))), ((2 : Nat), (AV.sl (List.length l) (List.flatMap Ex.cells l))), ((3 : Nat), (AV.i gen)), ((9 : Nat), (AV.sl (List.length s0) (List.flatMap Ce.cells s0))), ((10 : Nat), (AV.sl (List.length s1) (List.flatMap Ce.cells s1))), ((11 : Nat), (AV.i s2))] 41 (AH.mk 0 ([] : List (Prod Nat AObj))) Bool.false)
noncomputable def r11kept_L0_step (blocks : Int) (was : List Ex) (l : List Ex) (gen : Int) (s0 : List Ce) (s1 : List Ce) (s2 : Int) : Option (Int) :=
 (tb ((decide (s2 < blocks)))
  (tp ((((0 : Int) ≤ s2) ∧ (s2 < (↑(List.length s1) : Int))))
   (tb ((decide ((ceAt s1 (Int.toNat s2)).gen ≤ gen)))
    (tp ((((0 : Int) ≤ s2) ∧ (s2 < (↑(List.length s0) : Int))))
     (tb ((!(((ceAt s0 (Int.toNat s2)).kind == (ceAt s1 (Int.toNat s2)).kind) && (((ceAt s0 (Int.toNat s2)).gen == (ceAt s1 (Int.toNat s2)).gen) && ((pad 32 (ceAt s0 (Int.toNat s2)).d) == (pad 32 (ceAt s1 (Int.toNat s2)).d))))))
      none /- exit -/
      (some ((wr (s2 + (1 : Int)))))))
    (some ((wr (s2 + (1 : Int)))))))
  none /- exit -/)
theorem r11kept_L0_s0 (blocks : Int) (was : List Ex) (l : List Ex) (gen : Int) (s0 : List Ce) (s1 : List Ce) (s2 : Int) (h3 : ((decide (s2 < blocks))) = true) (h3p : (s2 < blocks)) (h4 : (((0 : Int) ≤ s2) ∧ (s2 < (↑(List.length s1) : Int)))) (h5 : ((decide ((ceAt s1 (Int.toNat s2)).gen ≤ gen))) = true) (h5p : ((ceAt s1 (Int.toNat s2)).gen ≤ gen)) (h6 : (((0 : Int) ≤ s2) ∧ (s2 < (↑(List.length s0) : Int)))) (h7 : ((!(((ceAt s0 (Int.toNat s2)).kind == (ceAt s1 (Int.toNat s2)).kind) && (((ceAt s0 (Int.toNat s2)).gen == (ceAt s1 (Int.toNat s2)).gen) && ((pad 32 (ceAt s0 (Int.toNat s2)).d) == (pad 32 (ceAt s1 (Int.toNat s2)).d)))))) = false) : EvStep Try.prog cf 0 (lp Try.prog 49 0) (r11kept_L0_S blocks was l gen s0 s1 s2) (r11kept_L0_S blocks was l gen s0 s1 ((wr (s2 + (1 : Int))))) :=
  leafS vw_eq (k := 300) (r := []) (hs := hz [(3, [.yes]), (2, [.yes]), (1, [.yes, .val ((AV.i (ceAt s1 (Int.toNat s2)).gen))]), (3, [.yes]), (1, [.yes]), (1, [.yes, .yes, .yes, .yes, .cells ((Ce.cells (ceAt s0 (Int.toNat s2)))), .yes]), (1, [.yes]), (1, [.yes, .yes, .yes, .yes, .cells ((Ce.cells (ceAt s1 (Int.toNat s2)))), .yes, .yes, .truth ((((ceAt s0 (Int.toNat s2)).kind == (ceAt s1 (Int.toNat s2)).kind) && (((ceAt s0 (Int.toNat s2)).gen == (ceAt s1 (Int.toNat s2)).gen) && ((pad 32 (ceAt s0 (Int.toNat s2)).d) == (pad 32 (ceAt s1 (Int.toNat s2)).d))))), .yes, .yes, .no]), (3, [])]) (st1 := (St.mk [((0 : Nat), (AV.i blocks)), ((1 : Nat), (AV.sl (List.length was) (List.flatMap Ex.cells was))), ((2 : Nat), (AV.sl (List.length l) (List.flatMap Ex.cells l))), ((3 : Nat), (AV.i gen)), ((9 : Nat), (AV.sl (List.length s0) (List.flatMap Ce.cells s0))), ((10 : Nat), (AV.sl (List.length s1) (List.flatMap Ce.cells s1))), ((11 : Nat), (AV.i (wr (s2 + (1 : Int))))), ((18 : Nat), (AV.i s2)), ((19 : Nat), (AV.i blocks)), ((20 : Nat), (AV.b (decide (s2 < blocks)))), ((23 : Nat), (AV.sl (List.length s1) (List.flatMap Ce.cells s1))), ((24 : Nat), (AV.i s2)), ((25 : Nat), (AV.ip (List.drop ((Int.toNat s2) * (34 : Nat)) (List.flatMap Ce.cells s1)))), ((26 : Nat), (AV.ip (List.drop 1 (List.drop ((Int.toNat s2) * (34 : Nat)) (List.flatMap Ce.cells s1))))), ((27 : Nat), (AV.i (ceAt s1 (Int.toNat s2)).gen)), ((28 : Nat), (AV.i gen)), ((29 : Nat), (AV.b (decide ((ceAt s1 (Int.toNat s2)).gen ≤ gen)))), ((30 : Nat), (AV.b (decide ((ceAt s1 (Int.toNat s2)).gen ≤ gen)))), ((31 : Nat), (AV.sl (List.length s0) (List.flatMap Ce.cells s0))), ((32 : Nat), (AV.i s2)), ((33 : Nat), (AV.ip (List.drop ((Int.toNat s2) * (34 : Nat)) (List.flatMap Ce.cells s0)))), ((34 : Nat), (AV.ag (Ce.cells (ceAt s0 (Int.toNat s2))))), ((35 : Nat), (AV.sl (List.length s1) (List.flatMap Ce.cells s1))), ((36 : Nat), (AV.i s2)), ((37 : Nat), (AV.ip (List.drop ((Int.toNat s2) * (34 : Nat)) (List.flatMap Ce.cells s1)))), ((38 : Nat), (AV.ag (Ce.cells (ceAt s1 (Int.toNat s2))))), ((39 : Nat), (AV.b (!(((ceAt s0 (Int.toNat s2)).kind == (ceAt s1 (Int.toNat s2)).kind) && (((ceAt s0 (Int.toNat s2)).gen == (ceAt s1 (Int.toNat s2)).gen) && ((pad 32 (ceAt s0 (Int.toNat s2)).d) == (pad 32 (ceAt s1 (Int.toNat s2)).d))))))), ((40 : Nat), (AV.b (!(((ceAt s0 (Int.toNat s2)).kind == (ceAt s1 (Int.toNat s2)).kind) && (((ceAt s0 (Int.toNat s2)).gen == (ceAt s1 (Int.toNat s2)).gen) && ((pad 32 (ceAt s0 (Int.toNat s2)).d) == (pad 32 (ceAt s1 (Int.toNat s2)).d))))))), ((21 : Nat), (AV.i s2)), ((22 : Nat), (AV.i (wr (s2 + (1 : Int)))))] 41 (AH.mk 0 ([] : List (Prod Nat AObj))) Bool.false)) kq (ac h3 (ac h4 (ac (fq (p := ((1 : Nat) ≤ (List.length (List.drop 1 (List.drop ((Int.toNat s2) * (34 : Nat)) (List.flatMap Ce.cells s1))))))) (ac (show (List.take 1 (List.drop 1 (List.drop ((Int.toNat s2) * (34 : Nat)) (List.flatMap Ce.cells s1)))) = [(AV.i (ceAt s1 (Int.toNat s2)).gen)] from (by first | exact ce_one _ _ _ _ bq rfl | exact ce_oneA _ _ _ _ bq rfl | (simpa using ce_one (s1) ((Int.toNat s2)) 1 _ bq rfl) | ((try simp only [List.drop_drop]); rw [show ((1 : Nat) + ((Int.toNat s2) * (34 : Nat))) = ((Int.toNat s2)) * 34 + 1 by omega]; exact ce_oneA (s1) ((Int.toNat s2)) 1 _ bq rfl))) (ac h5 (ac h5 (ac h5 (ac h6 (ac h5 (ac (fq (p := ((34 : Nat) ≤ (List.length (List.drop ((Int.toNat s2) * (34 : Nat)) (List.flatMap Ce.cells s0)))))) (ac (show (List.take 34 (List.drop ((Int.toNat s2) * (34 : Nat)) (List.flatMap Ce.cells s0))) = (Ce.cells (ceAt s0 (Int.toNat s2))) from (ce_takeO bq bq)) (ac h5 (ac h5 (ac h5 (ac h4 (ac h5 (ac (fq (p := ((34 : Nat) ≤ (List.length (List.drop ((Int.toNat s2) * (34 : Nat)) (List.flatMap Ce.cells s1)))))) (ac (show (List.take 34 (List.drop ((Int.toNat s2) * (34 : Nat)) (List.flatMap Ce.cells s1))) = (Ce.cells (ceAt s1 (Int.toNat s2))) from (ce_takeO bq bq)) (ac h5 (ac (tq (p := (((List.length ((AV.i (ceAt s0 (Int.toNat s2)).kind) :: (AV.i (ceAt s0 (Int.toNat s2)).gen) :: (List.map AV.y (pad 32 (ceAt s0 (Int.toNat s2)).d)))) = (34 : Nat)) ∧ ((List.length ((AV.i (ceAt s1 (Int.toNat s2)).kind) :: (AV.i (ceAt s1 (Int.toNat s2)).gen) :: (List.map AV.y (pad 32 (ceAt s1 (Int.toNat s2)).d)))) = (34 : Nat))))) (ac (show eqCells (((AV.i (ceAt s0 (Int.toNat s2)).kind) :: (AV.i (ceAt s0 (Int.toNat s2)).gen) :: (List.map AV.y (pad 32 (ceAt s0 (Int.toNat s2)).d)))) (((AV.i (ceAt s1 (Int.toNat s2)).kind) :: (AV.i (ceAt s1 (Int.toNat s2)).gen) :: (List.map AV.y (pad 32 (ceAt s1 (Int.toNat s2)).d)))) = some ((((ceAt s0 (Int.toNat s2)).kind == (ceAt s1 (Int.toNat s2)).kind) && (((ceAt s0 (Int.toNat s2)).gen == (ceAt s1 (Int.toNat s2)).gen) && ((pad 32 (ceAt s0 (Int.toNat s2)).d) == (pad 32 (ceAt s1 (Int.toNat s2)).d))))) from (eqCells_ci (eqCells_ci (eqCells_of tq tq tq)))) (ac h5 (ac (show orderOk (rg Try.prog 49 0) = true ∧ allOk (Region.before (rg Try.prog 49 0)) [] 0 [(some [], some []), (some [], some []), (some [], some []), (some [], some []), (some [], some []), (some [], some []), (some [], some []), (some [], some []), (some [], some []), (some [], some []), (some [], some []), (some [], some []), (some [], some []), (some [], some []), (some [], some []), (some [], some []), (some [], some []), (some [], some [])] = true from (ord_of ord_49_0 bef_49_0 kq)) (ac h7 an)))))))))))))))))))))))) (Nat.le_of_ble_eq_true rfl) (absB_of [] [] kq (.consn kq (.eqv tq rfl) (.consn kq (.eqv tq rfl) (.consn kq (.eqv tq rfl) (.consn kq (.eqv tq rfl) (.consn kq (.eqv tq rfl) (.consn kq (.eqv tq rfl) (.consn kq (.eqv tq rfl) .nil))))))) .nil)
theorem r11kept_L0_s1 (blocks : Int) (was : List Ex) (l : List Ex) (gen : Int) (s0 : List Ce) (s1 : List Ce) (s2 : Int) (h3 : ((decide (s2 < blocks))) = true) (h3p : (s2 < blocks)) (h4 : (((0 : Int) ≤ s2) ∧ (s2 < (↑(List.length s1) : Int)))) (h5 : ((decide ((ceAt s1 (Int.toNat s2)).gen ≤ gen))) = false) (h5p : ¬ ((ceAt s1 (Int.toNat s2)).gen ≤ gen)) : EvStep Try.prog cf 0 (lp Try.prog 49 0) (r11kept_L0_S blocks was l gen s0 s1 s2) (r11kept_L0_S blocks was l gen s0 s1 ((wr (s2 + (1 : Int))))) :=
  leafS vw_eq (k := 300) (r := []) (hs := hz [(3, [.yes]), (2, [.yes]), (1, [.yes, .val ((AV.i (ceAt s1 (Int.toNat s2)).gen))]), (3, [.no, .no, .no, .no, .no, .no, .no, .no, .no, .no, .yes]), (4, [])]) (st1 := (St.mk [((0 : Nat), (AV.i blocks)), ((1 : Nat), (AV.sl (List.length was) (List.flatMap Ex.cells was))), ((2 : Nat), (AV.sl (List.length l) (List.flatMap Ex.cells l))), ((3 : Nat), (AV.i gen)), ((9 : Nat), (AV.sl (List.length s0) (List.flatMap Ce.cells s0))), ((10 : Nat), (AV.sl (List.length s1) (List.flatMap Ce.cells s1))), ((11 : Nat), (AV.i (wr (s2 + (1 : Int))))), ((18 : Nat), (AV.i s2)), ((19 : Nat), (AV.i blocks)), ((20 : Nat), (AV.b (decide (s2 < blocks)))), ((23 : Nat), (AV.sl (List.length s1) (List.flatMap Ce.cells s1))), ((24 : Nat), (AV.i s2)), ((25 : Nat), (AV.ip (List.drop ((Int.toNat s2) * (34 : Nat)) (List.flatMap Ce.cells s1)))), ((26 : Nat), (AV.ip (List.drop 1 (List.drop ((Int.toNat s2) * (34 : Nat)) (List.flatMap Ce.cells s1))))), ((27 : Nat), (AV.i (ceAt s1 (Int.toNat s2)).gen)), ((28 : Nat), (AV.i gen)), ((29 : Nat), (AV.b (decide ((ceAt s1 (Int.toNat s2)).gen ≤ gen)))), ((30 : Nat), (AV.b (decide ((ceAt s1 (Int.toNat s2)).gen ≤ gen)))), ((31 : Nat), (AV.tu ([] : List AV))), ((32 : Nat), (AV.tu ([] : List AV))), ((33 : Nat), (AV.tu ([] : List AV))), ((34 : Nat), (AV.tu ([] : List AV))), ((35 : Nat), (AV.tu ([] : List AV))), ((36 : Nat), (AV.tu ([] : List AV))), ((37 : Nat), (AV.tu ([] : List AV))), ((38 : Nat), (AV.tu ([] : List AV))), ((39 : Nat), (AV.tu ([] : List AV))), ((40 : Nat), (AV.b Bool.false)), ((21 : Nat), (AV.i s2)), ((22 : Nat), (AV.i (wr (s2 + (1 : Int)))))] 41 (AH.mk 0 ([] : List (Prod Nat AObj))) Bool.false)) kq (ac h3 (ac h4 (ac (fq (p := ((1 : Nat) ≤ (List.length (List.drop 1 (List.drop ((Int.toNat s2) * (34 : Nat)) (List.flatMap Ce.cells s1))))))) (ac (show (List.take 1 (List.drop 1 (List.drop ((Int.toNat s2) * (34 : Nat)) (List.flatMap Ce.cells s1)))) = [(AV.i (ceAt s1 (Int.toNat s2)).gen)] from (by first | exact ce_one _ _ _ _ bq rfl | exact ce_oneA _ _ _ _ bq rfl | (simpa using ce_one (s1) ((Int.toNat s2)) 1 _ bq rfl) | ((try simp only [List.drop_drop]); rw [show ((1 : Nat) + ((Int.toNat s2) * (34 : Nat))) = ((Int.toNat s2)) * 34 + 1 by omega]; exact ce_oneA (s1) ((Int.toNat s2)) 1 _ bq rfl))) (ac h5 (ac h5 (ac h5 (ac h5 (ac h5 (ac h5 (ac h5 (ac h5 (ac h5 (ac h5 (ac (show orderOk (rg Try.prog 49 0) = true ∧ allOk (Region.before (rg Try.prog 49 0)) [] 0 [(some [], some []), (some [], some []), (some [], some []), (some [], some []), (some [], some []), (some [], some []), (some [], some []), (some [], some []), (some [], some []), (some [], some []), (some [], some []), (some [], some []), (some [], some []), (some [], some []), (some [], some []), (some [], some []), (some [], some []), (some [], some [])] = true from (ord_of ord_49_0 bef_49_0 kq)) an))))))))))))))) (Nat.le_of_ble_eq_true rfl) (absB_of [] [] kq (.consn kq (.eqv tq rfl) (.consn kq (.eqv tq rfl) (.consn kq (.eqv tq rfl) (.consn kq (.eqv tq rfl) (.consn kq (.eqv tq rfl) (.consn kq (.eqv tq rfl) (.consn kq (.eqv tq rfl) .nil))))))) .nil)
theorem r11kept_L0_ok (blocks : Int) (was : List Ex) (l : List Ex) (gen : Int) (s0 : List Ce) (s1 : List Ce) (s2 zz : Int) : r11kept_L0_step blocks was l gen s0 s1 s2 = some zz → EvStep Try.prog cf 0 (lp Try.prog 49 0) (r11kept_L0_S blocks was l gen s0 s1 s2) (r11kept_L0_S blocks was l gen s0 s1 zz) := by
  unfold r11kept_L0_step
  refine tb_ok (fun h3 => ?_) (fun h3 => ?_)
  ·
    have h3p := of_decide_eq_true h3
    refine tp_ok (fun h4 => ?_)
    refine tb_ok (fun h5 => ?_) (fun h5 => ?_)
    ·
      have h5p := of_decide_eq_true h5
      refine tp_ok (fun h6 => ?_)
      refine tb_ok (fun h7 => ?_) (fun h7 => ?_)
      ·
        exact fun e => nomatch e
      ·
        exact fun e => tl_ok (G := (fun zz => EvStep Try.prog cf 0 (lp Try.prog 49 0) (r11kept_L0_S blocks was l gen s0 s1 s2) (r11kept_L0_S blocks was l gen s0 s1 zz))) (r11kept_L0_s0 blocks was l gen s0 s1 s2 h3 h3p h4 h5 h5p h6 h7) e
    ·
      have h5p := of_decide_eq_false h5
      exact fun e => tl_ok (G := (fun zz => EvStep Try.prog cf 0 (lp Try.prog 49 0) (r11kept_L0_S blocks was l gen s0 s1 s2) (r11kept_L0_S blocks was l gen s0 s1 zz))) (r11kept_L0_s1 blocks was l gen s0 s1 s2 h3 h3p h4 h5 h5p) e
  ·
    have h3p := of_decide_eq_false h3
    exact fun e => nomatch e
/-- Function 49, as it answers. -/
noncomputable def r11kept (blocks : Int) (was : List Ex) (l : List Ex) (gen : Int) : Option (Bool) :=
 (tc (r8Cells (blocks) (was)) fun s0 =>
  (tc (r8Cells (blocks) (l)) fun s1 =>
   (th (r11kept_L0_step blocks was l gen s0 s1) ((0 : Int)) fun s2 =>
    (tb ((decide (s2 < blocks)))
     (tp ((((0 : Int) ≤ s2) ∧ (s2 < (↑(List.length s1) : Int))))
      (tb ((decide ((ceAt s1 (Int.toNat s2)).gen ≤ gen)))
       (tp ((((0 : Int) ≤ s2) ∧ (s2 < (↑(List.length s0) : Int))))
        (tb ((!(((ceAt s0 (Int.toNat s2)).kind == (ceAt s1 (Int.toNat s2)).kind) && (((ceAt s0 (Int.toNat s2)).gen == (ceAt s1 (Int.toNat s2)).gen) && ((pad 32 (ceAt s0 (Int.toNat s2)).d) == (pad 32 (ceAt s1 (Int.toNat s2)).d))))))
         (some (Bool.false))
         none /- stop behind an operation -/))
       none /- stop behind an operation -/))
     (some (Bool.true))))))
abbrev r11kept_G (blocks : Int) (was : List Ex) (l : List Ex) (gen : Int) (r : Bool) : Prop := EvFr Try.prog cf true 49 [.i (blocks), exs (was), exs (l), .i (gen)] (.b (r))
theorem r11kept_l0 (blocks : Int) (was : List Ex) (l : List Ex) (gen : Int) (s0 : List Ce) (h0 : r8Cells (blocks) (was) = some s0) (s1 : List Ce) (h1 : r8Cells (blocks) (l) = some s1) (s2 : Int) (h2 : Runs (r11kept_L0_step blocks was l gen s0 s1) ((0 : Int)) s2) (h3 : ((decide (s2 < blocks))) = true) (h3p : (s2 < blocks)) (h4 : (((0 : Int) ≤ s2) ∧ (s2 < (↑(List.length s1) : Int)))) (h5 : ((decide ((ceAt s1 (Int.toNat s2)).gen ≤ gen))) = true) (h5p : ((ceAt s1 (Int.toNat s2)).gen ≤ gen)) (h6 : (((0 : Int) ≤ s2) ∧ (s2 < (↑(List.length s0) : Int)))) (h7 : ((!(((ceAt s0 (Int.toNat s2)).kind == (ceAt s1 (Int.toNat s2)).kind) && (((ceAt s0 (Int.toNat s2)).gen == (ceAt s1 (Int.toNat s2)).gen) && ((pad 32 (ceAt s0 (Int.toNat s2)).d) == (pad 32 (ceAt s1 (Int.toNat s2)).d)))))) = true) : r11kept_G blocks was l gen (Bool.false) :=
  leafR vw_eq (k := 300) (r := []) (hs := hz [(4, [.fres (ces (s0))]), (4, [.fres (ces (s1))]), (2, [.head (r11kept_L0_S blocks was l gen s0 s1 s2)]), (3, [.yes]), (2, [.yes]), (1, [.yes, .val ((AV.i (ceAt s1 (Int.toNat s2)).gen))]), (3, [.yes]), (1, [.yes]), (1, [.yes, .yes, .yes, .yes, .cells ((Ce.cells (ceAt s0 (Int.toNat s2)))), .yes]), (1, [.yes]), (1, [.yes, .yes, .yes, .yes, .cells ((Ce.cells (ceAt s1 (Int.toNat s2)))), .yes, .yes, .truth ((((ceAt s0 (Int.toNat s2)).kind == (ceAt s1 (Int.toNat s2)).kind) && (((ceAt s0 (Int.toNat s2)).gen == (ceAt s1 (Int.toNat s2)).gen) && ((pad 32 (ceAt s0 (Int.toNat s2)).d) == (pad 32 (ceAt s1 (Int.toNat s2)).d))))), .yes, .yes, .yes]), (1, [])]) (raw := (AV.b Bool.false)) kq (ac (r8Cells_ok (blocks) (was) _ h0).any0 (ac (r8Cells_ok (blocks) (l) _ h1).any0 (ac (show EvHead Try.prog cf (lp Try.prog 49 0) (r11kept_L0_I blocks was l gen s0 s1) (r11kept_L0_S blocks was l gen s0 s1 s2) from (EvHead.of (r11kept_L0_ok blocks was l gen s0 s1) (absB_of [] [] kq (.consn kq (.eqv tq rfl) (.consn kq (.eqv tq rfl) (.consn kq (.eqv tq rfl) (.consn kq (.eqv tq rfl) (.consn kq (.eqv tq rfl) (.consn kq (.eqv tq rfl) (.consn kq (.eqv tq rfl) .nil))))))) .nil) h2)) (ac h3 (ac h4 (ac (fq (p := ((1 : Nat) ≤ (List.length (List.drop 1 (List.drop ((Int.toNat s2) * (34 : Nat)) (List.flatMap Ce.cells s1))))))) (ac (show (List.take 1 (List.drop 1 (List.drop ((Int.toNat s2) * (34 : Nat)) (List.flatMap Ce.cells s1)))) = [(AV.i (ceAt s1 (Int.toNat s2)).gen)] from (by first | exact ce_one _ _ _ _ bq rfl | exact ce_oneA _ _ _ _ bq rfl | (simpa using ce_one (s1) ((Int.toNat s2)) 1 _ bq rfl) | ((try simp only [List.drop_drop]); rw [show ((1 : Nat) + ((Int.toNat s2) * (34 : Nat))) = ((Int.toNat s2)) * 34 + 1 by omega]; exact ce_oneA (s1) ((Int.toNat s2)) 1 _ bq rfl))) (ac h5 (ac h5 (ac h5 (ac h6 (ac h5 (ac (fq (p := ((34 : Nat) ≤ (List.length (List.drop ((Int.toNat s2) * (34 : Nat)) (List.flatMap Ce.cells s0)))))) (ac (show (List.take 34 (List.drop ((Int.toNat s2) * (34 : Nat)) (List.flatMap Ce.cells s0))) = (Ce.cells (ceAt s0 (Int.toNat s2))) from (ce_takeO bq bq)) (ac h5 (ac h5 (ac h5 (ac h4 (ac h5 (ac (fq (p := ((34 : Nat) ≤ (List.length (List.drop ((Int.toNat s2) * (34 : Nat)) (List.flatMap Ce.cells s1)))))) (ac (show (List.take 34 (List.drop ((Int.toNat s2) * (34 : Nat)) (List.flatMap Ce.cells s1))) = (Ce.cells (ceAt s1 (Int.toNat s2))) from (ce_takeO bq bq)) (ac h5 (ac (tq (p := (((List.length ((AV.i (ceAt s0 (Int.toNat s2)).kind) :: (AV.i (ceAt s0 (Int.toNat s2)).gen) :: (List.map AV.y (pad 32 (ceAt s0 (Int.toNat s2)).d)))) = (34 : Nat)) ∧ ((List.length ((AV.i (ceAt s1 (Int.toNat s2)).kind) :: (AV.i (ceAt s1 (Int.toNat s2)).gen) :: (List.map AV.y (pad 32 (ceAt s1 (Int.toNat s2)).d)))) = (34 : Nat))))) (ac (show eqCells (((AV.i (ceAt s0 (Int.toNat s2)).kind) :: (AV.i (ceAt s0 (Int.toNat s2)).gen) :: (List.map AV.y (pad 32 (ceAt s0 (Int.toNat s2)).d)))) (((AV.i (ceAt s1 (Int.toNat s2)).kind) :: (AV.i (ceAt s1 (Int.toNat s2)).gen) :: (List.map AV.y (pad 32 (ceAt s1 (Int.toNat s2)).d)))) = some ((((ceAt s0 (Int.toNat s2)).kind == (ceAt s1 (Int.toNat s2)).kind) && (((ceAt s0 (Int.toNat s2)).gen == (ceAt s1 (Int.toNat s2)).gen) && ((pad 32 (ceAt s0 (Int.toNat s2)).d) == (pad 32 (ceAt s1 (Int.toNat s2)).d))))) from (eqCells_ci (eqCells_ci (eqCells_of tq tq tq)))) (ac h5 (ac (show orderOk (rg Try.prog 49 0) = true ∧ allOk (Region.before (rg Try.prog 49 0)) [] 0 [(some [], some []), (some [], some []), (some [], some []), (some [], some []), (some [], some []), (some [], some []), (some [], some []), (some [], some []), (some [], some []), (some [], some []), (some [], some []), (some [], some []), (some [], some []), (some [], some []), (some [], some []), (some [], some []), (some [], some []), (some [], some [])] = true from (ord_of ord_49_0 bef_49_0 kq)) (ac h7 an))))))))))))))))))))))))))) tq
theorem r11kept_l1 (blocks : Int) (was : List Ex) (l : List Ex) (gen : Int) (s0 : List Ce) (h0 : r8Cells (blocks) (was) = some s0) (s1 : List Ce) (h1 : r8Cells (blocks) (l) = some s1) (s2 : Int) (h2 : Runs (r11kept_L0_step blocks was l gen s0 s1) ((0 : Int)) s2) (h3 : ((decide (s2 < blocks))) = false) (h3p : ¬ (s2 < blocks)) : r11kept_G blocks was l gen (Bool.true) :=
  leafR vw_eq (k := 300) (r := []) (hs := hz [(4, [.fres (ces (s0))]), (4, [.fres (ces (s1))]), (2, [.head (r11kept_L0_S blocks was l gen s0 s1 s2)]), (3, [.no]), (1, [])]) (raw := (AV.b Bool.true)) kq (ac (r8Cells_ok (blocks) (was) _ h0).any0 (ac (r8Cells_ok (blocks) (l) _ h1).any0 (ac (show EvHead Try.prog cf (lp Try.prog 49 0) (r11kept_L0_I blocks was l gen s0 s1) (r11kept_L0_S blocks was l gen s0 s1 s2) from (EvHead.of (r11kept_L0_ok blocks was l gen s0 s1) (absB_of [] [] kq (.consn kq (.eqv tq rfl) (.consn kq (.eqv tq rfl) (.consn kq (.eqv tq rfl) (.consn kq (.eqv tq rfl) (.consn kq (.eqv tq rfl) (.consn kq (.eqv tq rfl) (.consn kq (.eqv tq rfl) .nil))))))) .nil) h2)) (ac h3 an)))) tq
theorem r11kept_ok (blocks : Int) (was : List Ex) (l : List Ex) (gen : Int) (r : Bool) : r11kept blocks was l gen = some r → r11kept_G blocks was l gen r := by
  unfold r11kept
  refine tc_ok (fun s0 h0 => ?_)
  refine tc_ok (fun s1 h1 => ?_)
  refine th_ok (fun s2 h2 => ?_)
  refine tb_ok (fun h3 => ?_) (fun h3 => ?_)
  ·
    have h3p := of_decide_eq_true h3
    refine tp_ok (fun h4 => ?_)
    refine tb_ok (fun h5 => ?_) (fun h5 => ?_)
    ·
      have h5p := of_decide_eq_true h5
      refine tp_ok (fun h6 => ?_)
      refine tb_ok (fun h7 => ?_) (fun h7 => ?_)
      ·
        exact fun e => tl_ok (G := r11kept_G blocks was l gen) (r11kept_l0 blocks was l gen s0 h0 s1 h1 s2 h2 h3 h3p h4 h5 h5p h6 h7) e
      ·
        exact fun e => nomatch e
    ·
      have h5p := of_decide_eq_false h5
      exact fun e => nomatch e
  ·
    have h3p := of_decide_eq_false h3
    exact fun e => tl_ok (G := r11kept_G blocks was l gen) (r11kept_l1 blocks was l gen s0 h0 s1 h1 s2 h2 h3 h3p) e
noncomputable abbrev r11Check_L0_I (s : Sa) (s0 : Bool) : St := (St.mk [((0 : Nat), (AV.ag [(AV.i s.blocks), (AV.i s.gen), (AV.sl (List.length s.map) (List.flatMap Ex.cells s.map)), (AV.sl (List.length s.points) (List.flatMap Po.cells s.points)), (AV.i s.last), (AV.sl (List.length s.staged) (List.map AV.y s.staged))])), ((1 : Nat), (AV.pt 0 0)), ((2 : Nat), (AV.i 0)), ((11 : Nat), (AV.pt 0 0)), ((12 : Nat), (AV.i s.blocks)), ((13 : Nat), (AV.pt 0 2)), ((14 : Nat), (AV.sl (List.length s.map) (List.flatMap Ex.cells s.map))), ((15 : Nat), (AV.pt 0 1)), ((16 : Nat), (AV.i s.gen)), ((17 : Nat), (AV.b s0)), ((3 : Nat), (AV.b s0)), ((18 : Nat), (AV.b s0)), ((19 : Nat), (AV.b (!s0))), ((20 : Nat), (AV.b (!s0))), ((21 : Nat), (AV.pt 0 1)), ((22 : Nat), (AV.i s.gen)), ((23 : Nat), (AV.b (decide (s.gen < (1 : Int))))), ((24 : Nat), (AV.b (decide (s.gen < (1 : Int))))), ((25 : Nat), (AV.b (decide (s.gen < (1 : Int))))), ((26 : Nat), (AV.pt 0 1)), ((27 : Nat), (AV.i s.gen)), ((28 : Nat), (AV.b (decide (s.gen ≥ (2147483648 : Int))))), ((29 : Nat), (AV.b (decide (s.gen ≥ (2147483648 : Int))))), ((30 : Nat), (AV.b (decide (s.gen ≥ (2147483648 : Int))))), ((31 : Nat), (AV.pt 0 3)), ((32 : Nat), (AV.sl (List.length s.points) (List.flatMap Po.cells s.points))), ((33 : Nat), (AV.i (↑(List.length s.points) : Int))), ((34 : Nat), (AV.b (decide ((↑(List.length s.points) : Int) > (4 : Int))))), ((35 : Nat), (AV.b (decide ((↑(List.length s.points) : Int) > (4 : Int))))), ((36 : Nat), (AV.b (decide ((↑(List.length s.points) : Int) > (4 : Int))))), ((37 : Nat), (AV.pt 0 4)), ((38 : Nat), (AV.i s.last)), ((39 : Nat), (AV.b (decide (s.last < (0 : Int))))), ((40 : Nat), (AV.b (decide (s.last < (0 : Int))))), ((41 : Nat), (AV.b (decide (s.last < (0 : Int))))), ((42 : Nat), (AV.pt 0 4)), ((43 : Nat), (AV.i s.last)), ((44 : Nat), (AV.b (decide (s.last ≥ (2147483648 : Int))))), ((45 : Nat), (AV.b (decide (s.last ≥ (2147483648 : Int))))), ((46 : Nat), (AV.b (decide (s.last ≥ (2147483648 : Int))))), ((47 : Nat), (AV.pt 0 5)), ((48 : Nat), (AV.sl (List.length s.staged) (List.map AV.y s.staged))), ((49 : Nat), (AV.i (↑(List.length s.staged) : Int))), ((50 : Nat), (AV.b (decide ((↑(List.length s.staged) : Int) > (4000 : Int))))), ((51 : Nat), (AV.b (decide ((↑(List.length s.staged) : Int) > (4000 : Int))))), ((4 : Nat), (AV.i 0)), ((5 : Nat), (AV.i 0)), ((6 : Nat), (AV.i 0))] 141 (AH.mk 1 [((0 : Nat), (AObj.cells [(AV.i s.blocks), (AV.i s.gen), (AV.sl (List.length s.map) (List.flatMap Ex.cells s.map)), (AV.sl (List.length s.points) (List.flatMap Po.cells s.points)), (AV.i s.last), (AV.sl (List.length s.staged) (List.map AV.y s.staged))]))]) Bool.false)
noncomputable abbrev r11Check_L0_S (s : Sa) (s0 : Bool) (s8 : Int × Int × Int) : St := (St.mk [((0 : Nat), (AV.ag [(AV.i s.blocks), (AV.i s.gen), (AV.sl (List.length s.map) (List.flatMap Ex.cells s.map)), (AV.sl (List.length s.points) (List.flatMap Po.cells s.points)), (AV.i s.last), (AV.sl (List.length s.staged) (List.map AV.y s.staged))])), ((1 : Nat), (AV.pt 0 0)), ((3 : Nat), (AV.b s0)), ((51 : Nat), (AV.b (decide ((↑(List.length s.staged) : Int) > (4000 : Int))))), ((4 : Nat), (AV.i s8.1)), ((5 : Nat), (AV.i s8.2.1)), ((6 : Nat), (AV.i s8.2.2))] 141 (AH.mk 1 [((0 : Nat), (AObj.cells [(AV.i s.blocks), (AV.i s.gen), (AV.sl (List.length s.map) (List.flatMap Ex.cells s.map)), (AV.sl (List.length s.points) (List.flatMap Po.cells s.points)), (AV.i s.last), (AV.sl (List.length s.staged) (List.map AV.y s.staged))]))]) Bool.false)
noncomputable def r11Check_L0_step (s : Sa) (s0 : Bool) (s8 : Int × Int × Int) : Option (Int × Int × Int) :=
 (tb ((decide (s8.2.2 < (↑(List.length s.points) : Int))))
  (tp ((((0 : Int) ≤ s8.2.2) ∧ (s8.2.2 < (↑(List.length s.points) : Int))))
   (tc (r11upto (s.blocks) ((poAt s.points (Int.toNat s8.2.2)).map) ((poAt s.points (Int.toNat s8.2.2)).gen)) fun s11 =>
    (tb ((!s11))
     none /- exit -/
     (tb ((decide ((poAt s.points (Int.toNat s8.2.2)).id ≤ s8.1)))
      none /- exit -/
      (tb ((decide ((poAt s.points (Int.toNat s8.2.2)).id > s.last)))
       none /- exit -/
       (tb ((decide ((poAt s.points (Int.toNat s8.2.2)).gen ≤ s8.2.1)))
        none /- exit -/
        (tb ((decide ((poAt s.points (Int.toNat s8.2.2)).gen ≥ s.gen)))
         none /- exit -/
         (tb ((decide (s8.2.2 > (0 : Int))))
          (tp ((((0 : Int) ≤ (wr (s8.2.2 - (1 : Int)))) ∧ ((wr (s8.2.2 - (1 : Int))) < (↑(List.length s.points) : Int))))
           (tc (r11kept (s.blocks) ((poAt s.points (Int.toNat (wr (s8.2.2 - (1 : Int))))).map) ((poAt s.points (Int.toNat s8.2.2)).map) (s8.2.1)) fun s19 =>
            (tb ((!s19))
             none /- exit -/
             (some (((poAt s.points (Int.toNat s8.2.2)).id, ((poAt s.points (Int.toNat s8.2.2)).gen, (wr (s8.2.2 + (1 : Int))))))))))
          (some (((poAt s.points (Int.toNat s8.2.2)).id, ((poAt s.points (Int.toNat s8.2.2)).gen, (wr (s8.2.2 + (1 : Int)))))))))))))))
  none /- exit -/)
theorem r11Check_L0_s0 (s : Sa) (s0 : Bool) (s8 : Int × Int × Int) (h9 : ((decide (s8.2.2 < (↑(List.length s.points) : Int)))) = true) (h9p : (s8.2.2 < (↑(List.length s.points) : Int))) (h10 : (((0 : Int) ≤ s8.2.2) ∧ (s8.2.2 < (↑(List.length s.points) : Int)))) (s11 : Bool) (h11 : r11upto (s.blocks) ((poAt s.points (Int.toNat s8.2.2)).map) ((poAt s.points (Int.toNat s8.2.2)).gen) = some s11) (h12 : ((!s11)) = false) (h13 : ((decide ((poAt s.points (Int.toNat s8.2.2)).id ≤ s8.1))) = false) (h13p : ¬ ((poAt s.points (Int.toNat s8.2.2)).id ≤ s8.1)) (h14 : ((decide ((poAt s.points (Int.toNat s8.2.2)).id > s.last))) = false) (h14p : ¬ ((poAt s.points (Int.toNat s8.2.2)).id > s.last)) (h15 : ((decide ((poAt s.points (Int.toNat s8.2.2)).gen ≤ s8.2.1))) = false) (h15p : ¬ ((poAt s.points (Int.toNat s8.2.2)).gen ≤ s8.2.1)) (h16 : ((decide ((poAt s.points (Int.toNat s8.2.2)).gen ≥ s.gen))) = false) (h16p : ¬ ((poAt s.points (Int.toNat s8.2.2)).gen ≥ s.gen)) (h17 : ((decide (s8.2.2 > (0 : Int)))) = true) (h17p : (s8.2.2 > (0 : Int))) (h18 : (((0 : Int) ≤ (wr (s8.2.2 - (1 : Int)))) ∧ ((wr (s8.2.2 - (1 : Int))) < (↑(List.length s.points) : Int)))) (s19 : Bool) (h19 : r11kept (s.blocks) ((poAt s.points (Int.toNat (wr (s8.2.2 - (1 : Int))))).map) ((poAt s.points (Int.toNat s8.2.2)).map) (s8.2.1) = some s19) (h20 : ((!s19)) = false) : EvStep Try.prog cf 1 (lp Try.prog 22 0) (r11Check_L0_S s s0 s8) (r11Check_L0_S s s0 (((poAt s.points (Int.toNat s8.2.2)).id, ((poAt s.points (Int.toNat s8.2.2)).gen, (wr (s8.2.2 + (1 : Int))))))) :=
  leafS vw_eq (k := 300) (r := []) (hs := hz [(6, [.yes]), (4, [.yes, .yes, .cells ((Po.cells (poAt s.points (Int.toNat s8.2.2))))]), (2, [.cells ([(AV.i (poAt s.points (Int.toNat s8.2.2)).id), (AV.i (poAt s.points (Int.toNat s8.2.2)).gen), (AV.sl (List.length (poAt s.points (Int.toNat s8.2.2)).map) (List.flatMap Ex.cells (poAt s.points (Int.toNat s8.2.2)).map))])]), (10, [.fres (.b (s11))]), (4, [.no]), (1, [.no]), (2, [.no]), (1, [.no]), (1, [.no]), (1, [.no]), (1, [.no]), (2, [.no]), (1, [.no]), (2, [.no]), (1, [.no]), (1, [.no]), (1, [.no]), (2, [.no]), (1, [.no]), (1, [.no]), (1, [.no]), (1, [.no]), (2, [.no]), (1, [.no]), (2, [.no]), (1, [.no, .no]), (2, [.yes]), (8, [.yes]), (1, [.yes, .val ((exs (poAt s.points (Int.toNat (wr (s8.2.2 - (1 : Int))))).map))]), (5, [.fres (.b (s19))]), (1, [.yes]), (2, [.no]), (11, [])]) (st1 := (St.mk [((0 : Nat), (AV.ag [(AV.i s.blocks), (AV.i s.gen), (AV.sl (List.length s.map) (List.flatMap Ex.cells s.map)), (AV.sl (List.length s.points) (List.flatMap Po.cells s.points)), (AV.i s.last), (AV.sl (List.length s.staged) (List.map AV.y s.staged))])), ((1 : Nat), (AV.pt 0 0)), ((3 : Nat), (AV.b s0)), ((51 : Nat), (AV.b (decide ((↑(List.length s.staged) : Int) > (4000 : Int))))), ((4 : Nat), (AV.i (poAt s.points (Int.toNat s8.2.2)).id)), ((5 : Nat), (AV.i (poAt s.points (Int.toNat s8.2.2)).gen)), ((6 : Nat), (AV.i (wr (s8.2.2 + (1 : Int))))), ((52 : Nat), (AV.i s8.2.2)), ((53 : Nat), (AV.pt 0 3)), ((54 : Nat), (AV.sl (List.length s.points) (List.flatMap Po.cells s.points))), ((55 : Nat), (AV.i (↑(List.length s.points) : Int))), ((56 : Nat), (AV.b (decide (s8.2.2 < (↑(List.length s.points) : Int))))), ((59 : Nat), (AV.pt 0 3)), ((60 : Nat), (AV.sl (List.length s.points) (List.flatMap Po.cells s.points))), ((61 : Nat), (AV.i s8.2.2)), ((62 : Nat), (AV.ip (List.drop ((Int.toNat s8.2.2) * (3 : Nat)) (List.flatMap Po.cells s.points)))), ((63 : Nat), (AV.ag [(AV.i (poAt s.points (Int.toNat s8.2.2)).id), (AV.i (poAt s.points (Int.toNat s8.2.2)).gen), (AV.sl (List.length (poAt s.points (Int.toNat s8.2.2)).map) (List.flatMap Ex.cells (poAt s.points (Int.toNat s8.2.2)).map))])), ((7 : Nat), (AV.pt 1 0)), ((64 : Nat), (AV.pt 0 0)), ((65 : Nat), (AV.i s.blocks)), ((66 : Nat), (AV.pt 1 2)), ((67 : Nat), (AV.sl (List.length (poAt s.points (Int.toNat s8.2.2)).map) (List.flatMap Ex.cells (poAt s.points (Int.toNat s8.2.2)).map))), ((68 : Nat), (AV.pt 1 1)), ((69 : Nat), (AV.i (poAt s.points (Int.toNat s8.2.2)).gen)), ((70 : Nat), (AV.b s11)), ((8 : Nat), (AV.b s11)), ((71 : Nat), (AV.b s11)), ((72 : Nat), (AV.b (!s11))), ((73 : Nat), (AV.b (!s11))), ((74 : Nat), (AV.pt 1 0)), ((75 : Nat), (AV.i (poAt s.points (Int.toNat s8.2.2)).id)), ((76 : Nat), (AV.i s8.1)), ((77 : Nat), (AV.b (decide ((poAt s.points (Int.toNat s8.2.2)).id ≤ s8.1)))), ((78 : Nat), (AV.b (decide ((poAt s.points (Int.toNat s8.2.2)).id ≤ s8.1)))), ((79 : Nat), (AV.b (decide ((poAt s.points (Int.toNat s8.2.2)).id ≤ s8.1)))), ((80 : Nat), (AV.pt 1 0)), ((81 : Nat), (AV.i (poAt s.points (Int.toNat s8.2.2)).id)), ((82 : Nat), (AV.pt 0 4)), ((83 : Nat), (AV.i s.last)), ((84 : Nat), (AV.b (decide ((poAt s.points (Int.toNat s8.2.2)).id > s.last)))), ((85 : Nat), (AV.b (decide ((poAt s.points (Int.toNat s8.2.2)).id > s.last)))), ((86 : Nat), (AV.b (decide ((poAt s.points (Int.toNat s8.2.2)).id > s.last)))), ((87 : Nat), (AV.pt 1 1)), ((88 : Nat), (AV.i (poAt s.points (Int.toNat s8.2.2)).gen)), ((89 : Nat), (AV.i s8.2.1)), ((90 : Nat), (AV.b (decide ((poAt s.points (Int.toNat s8.2.2)).gen ≤ s8.2.1)))), ((91 : Nat), (AV.b (decide ((poAt s.points (Int.toNat s8.2.2)).gen ≤ s8.2.1)))), ((92 : Nat), (AV.b (decide ((poAt s.points (Int.toNat s8.2.2)).gen ≤ s8.2.1)))), ((93 : Nat), (AV.pt 1 1)), ((94 : Nat), (AV.i (poAt s.points (Int.toNat s8.2.2)).gen)), ((95 : Nat), (AV.pt 0 1)), ((96 : Nat), (AV.i s.gen)), ((97 : Nat), (AV.b (decide ((poAt s.points (Int.toNat s8.2.2)).gen ≥ s.gen)))), ((98 : Nat), (AV.b (decide ((poAt s.points (Int.toNat s8.2.2)).gen ≥ s.gen)))), ((99 : Nat), (AV.i s8.2.2)), ((100 : Nat), (AV.b (decide (s8.2.2 > (0 : Int))))), ((101 : Nat), (AV.pt 0 0)), ((102 : Nat), (AV.i s.blocks)), ((103 : Nat), (AV.pt 0 3)), ((104 : Nat), (AV.sl (List.length s.points) (List.flatMap Po.cells s.points))), ((105 : Nat), (AV.i s8.2.2)), ((106 : Nat), (AV.i (wr (s8.2.2 - (1 : Int))))), ((107 : Nat), (AV.ip (List.drop ((Int.toNat (wr (s8.2.2 - (1 : Int)))) * (3 : Nat)) (List.flatMap Po.cells s.points)))), ((108 : Nat), (AV.ip (List.drop 2 (List.drop ((Int.toNat (wr (s8.2.2 - (1 : Int)))) * (3 : Nat)) (List.flatMap Po.cells s.points))))), ((109 : Nat), (AV.sl (List.length (poAt s.points (Int.toNat (wr (s8.2.2 - (1 : Int))))).map) (List.flatMap Ex.cells (poAt s.points (Int.toNat (wr (s8.2.2 - (1 : Int))))).map))), ((110 : Nat), (AV.pt 1 2)), ((111 : Nat), (AV.sl (List.length (poAt s.points (Int.toNat s8.2.2)).map) (List.flatMap Ex.cells (poAt s.points (Int.toNat s8.2.2)).map))), ((112 : Nat), (AV.i s8.2.1)), ((113 : Nat), (AV.b s19)), ((9 : Nat), (AV.b s19)), ((114 : Nat), (AV.b s19)), ((115 : Nat), (AV.b (!s19))), ((116 : Nat), (AV.pt 1 0)), ((117 : Nat), (AV.i (poAt s.points (Int.toNat s8.2.2)).id)), ((118 : Nat), (AV.pt 1 1)), ((119 : Nat), (AV.i (poAt s.points (Int.toNat s8.2.2)).gen)), ((57 : Nat), (AV.i s8.2.2)), ((58 : Nat), (AV.i (wr (s8.2.2 + (1 : Int)))))] 141 (AH.mk 2 [((1 : Nat), (AObj.cells [(AV.i (poAt s.points (Int.toNat s8.2.2)).id), (AV.i (poAt s.points (Int.toNat s8.2.2)).gen), (AV.sl (List.length (poAt s.points (Int.toNat s8.2.2)).map) (List.flatMap Ex.cells (poAt s.points (Int.toNat s8.2.2)).map))])), ((0 : Nat), (AObj.cells [(AV.i s.blocks), (AV.i s.gen), (AV.sl (List.length s.map) (List.flatMap Ex.cells s.map)), (AV.sl (List.length s.points) (List.flatMap Po.cells s.points)), (AV.i s.last), (AV.sl (List.length s.staged) (List.map AV.y s.staged))]))]) Bool.false)) kq (ac h9 (ac h10 (ac (fq (p := ((3 : Nat) ≤ (List.length (List.drop ((Int.toNat s8.2.2) * (3 : Nat)) (List.flatMap Po.cells s.points)))))) (ac (show (List.take 3 (List.drop ((Int.toNat s8.2.2) * (3 : Nat)) (List.flatMap Po.cells s.points))) = (Po.cells (poAt s.points (Int.toNat s8.2.2))) from (po_takeO bq bq)) (ac (Eq.refl ([(AV.i (poAt s.points (Int.toNat s8.2.2)).id), (AV.i (poAt s.points (Int.toNat s8.2.2)).gen), (AV.sl (List.length (poAt s.points (Int.toNat s8.2.2)).map) (List.flatMap Ex.cells (poAt s.points (Int.toNat s8.2.2)).map))] : List AV)) (ac (r11upto_ok (s.blocks) ((poAt s.points (Int.toNat s8.2.2)).map) ((poAt s.points (Int.toNat s8.2.2)).gen) _ h11).any0 (ac h12 (ac h12 (ac h12 (ac h12 (ac h12 (ac h13 (ac h13 (ac h13 (ac h13 (ac h13 (ac h13 (ac h14 (ac h14 (ac h14 (ac h14 (ac h14 (ac h15 (ac h15 (ac h15 (ac h15 (ac h15 (ac h15 (ac h16 (ac h17 (ac h18 (ac (fq (p := ((1 : Nat) ≤ (List.length (List.drop 2 (List.drop ((Int.toNat (wr (s8.2.2 - (1 : Int)))) * (3 : Nat)) (List.flatMap Po.cells s.points))))))) (ac (show (List.take 1 (List.drop 2 (List.drop ((Int.toNat (wr (s8.2.2 - (1 : Int)))) * (3 : Nat)) (List.flatMap Po.cells s.points)))) = [(exs (poAt s.points (Int.toNat (wr (s8.2.2 - (1 : Int))))).map)] from (by first | exact po_one _ _ _ _ bq rfl | exact po_oneA _ _ _ _ bq rfl | (simpa using po_one (s.points) ((Int.toNat (wr (s8.2.2 - (1 : Int))))) 2 _ bq rfl) | ((try simp only [List.drop_drop]); rw [show ((2 : Nat) + ((Int.toNat (wr (s8.2.2 - (1 : Int)))) * (3 : Nat))) = ((Int.toNat (wr (s8.2.2 - (1 : Int))))) * 3 + 2 by omega]; exact po_oneA (s.points) ((Int.toNat (wr (s8.2.2 - (1 : Int))))) 2 _ bq rfl))) (ac (r11kept_ok (s.blocks) ((poAt s.points (Int.toNat (wr (s8.2.2 - (1 : Int))))).map) ((poAt s.points (Int.toNat s8.2.2)).map) (s8.2.1) _ h19).any0 (ac (show orderOk (rg Try.prog 22 0) = true ∧ allOk (Region.before (rg Try.prog 22 0)) [] 0 [(some [], some []), (some [0], some []), (some [], some []), (some [0], some []), (some [], some []), (some [], some []), (some [], some []), (some [], some []), (some [], some []), (some [], some []), (some [1], some []), (some [], some []), (some [], some []), (some [], some [])] = true from (ord_of ord_22_0 bef_22_0 kq)) (ac h20 an)))))))))))))))))))))))))))))))))))) (Nat.le_of_ble_eq_true rfl) (absB_of [] [] kq (.consn kq (.agp pq) (.consn kq (.pt rfl) (.consn kq (.eqv tq rfl) (.consn kq (.eqv tq rfl) (.consn kq (.eqv tq rfl) (.consn kq (.eqv tq rfl) (.consn kq (.eqv tq rfl) .nil))))))) (.cons (.old rfl rfl (.cells (.pl rfl pq))) .nil))
theorem r11Check_L0_s1 (s : Sa) (s0 : Bool) (s8 : Int × Int × Int) (h9 : ((decide (s8.2.2 < (↑(List.length s.points) : Int)))) = true) (h9p : (s8.2.2 < (↑(List.length s.points) : Int))) (h10 : (((0 : Int) ≤ s8.2.2) ∧ (s8.2.2 < (↑(List.length s.points) : Int)))) (s11 : Bool) (h11 : r11upto (s.blocks) ((poAt s.points (Int.toNat s8.2.2)).map) ((poAt s.points (Int.toNat s8.2.2)).gen) = some s11) (h12 : ((!s11)) = false) (h13 : ((decide ((poAt s.points (Int.toNat s8.2.2)).id ≤ s8.1))) = false) (h13p : ¬ ((poAt s.points (Int.toNat s8.2.2)).id ≤ s8.1)) (h14 : ((decide ((poAt s.points (Int.toNat s8.2.2)).id > s.last))) = false) (h14p : ¬ ((poAt s.points (Int.toNat s8.2.2)).id > s.last)) (h15 : ((decide ((poAt s.points (Int.toNat s8.2.2)).gen ≤ s8.2.1))) = false) (h15p : ¬ ((poAt s.points (Int.toNat s8.2.2)).gen ≤ s8.2.1)) (h16 : ((decide ((poAt s.points (Int.toNat s8.2.2)).gen ≥ s.gen))) = false) (h16p : ¬ ((poAt s.points (Int.toNat s8.2.2)).gen ≥ s.gen)) (h17 : ((decide (s8.2.2 > (0 : Int)))) = false) (h17p : ¬ (s8.2.2 > (0 : Int))) : EvStep Try.prog cf 1 (lp Try.prog 22 0) (r11Check_L0_S s s0 s8) (r11Check_L0_S s s0 (((poAt s.points (Int.toNat s8.2.2)).id, ((poAt s.points (Int.toNat s8.2.2)).gen, (wr (s8.2.2 + (1 : Int))))))) :=
  leafS vw_eq (k := 300) (r := []) (hs := hz [(6, [.yes]), (4, [.yes, .yes, .cells ((Po.cells (poAt s.points (Int.toNat s8.2.2))))]), (2, [.cells ([(AV.i (poAt s.points (Int.toNat s8.2.2)).id), (AV.i (poAt s.points (Int.toNat s8.2.2)).gen), (AV.sl (List.length (poAt s.points (Int.toNat s8.2.2)).map) (List.flatMap Ex.cells (poAt s.points (Int.toNat s8.2.2)).map))])]), (10, [.fres (.b (s11))]), (4, [.no]), (1, [.no]), (2, [.no]), (1, [.no]), (1, [.no]), (1, [.no]), (1, [.no]), (2, [.no]), (1, [.no]), (2, [.no]), (1, [.no]), (1, [.no]), (1, [.no]), (2, [.no]), (1, [.no]), (1, [.no]), (1, [.no]), (1, [.no]), (2, [.no]), (1, [.no]), (2, [.no]), (1, [.no, .no]), (2, [.no]), (11, [])]) (st1 := (St.mk [((0 : Nat), (AV.ag [(AV.i s.blocks), (AV.i s.gen), (AV.sl (List.length s.map) (List.flatMap Ex.cells s.map)), (AV.sl (List.length s.points) (List.flatMap Po.cells s.points)), (AV.i s.last), (AV.sl (List.length s.staged) (List.map AV.y s.staged))])), ((1 : Nat), (AV.pt 0 0)), ((3 : Nat), (AV.b s0)), ((51 : Nat), (AV.b (decide ((↑(List.length s.staged) : Int) > (4000 : Int))))), ((4 : Nat), (AV.i (poAt s.points (Int.toNat s8.2.2)).id)), ((5 : Nat), (AV.i (poAt s.points (Int.toNat s8.2.2)).gen)), ((6 : Nat), (AV.i (wr (s8.2.2 + (1 : Int))))), ((52 : Nat), (AV.i s8.2.2)), ((53 : Nat), (AV.pt 0 3)), ((54 : Nat), (AV.sl (List.length s.points) (List.flatMap Po.cells s.points))), ((55 : Nat), (AV.i (↑(List.length s.points) : Int))), ((56 : Nat), (AV.b (decide (s8.2.2 < (↑(List.length s.points) : Int))))), ((59 : Nat), (AV.pt 0 3)), ((60 : Nat), (AV.sl (List.length s.points) (List.flatMap Po.cells s.points))), ((61 : Nat), (AV.i s8.2.2)), ((62 : Nat), (AV.ip (List.drop ((Int.toNat s8.2.2) * (3 : Nat)) (List.flatMap Po.cells s.points)))), ((63 : Nat), (AV.ag [(AV.i (poAt s.points (Int.toNat s8.2.2)).id), (AV.i (poAt s.points (Int.toNat s8.2.2)).gen), (AV.sl (List.length (poAt s.points (Int.toNat s8.2.2)).map) (List.flatMap Ex.cells (poAt s.points (Int.toNat s8.2.2)).map))])), ((7 : Nat), (AV.pt 1 0)), ((64 : Nat), (AV.pt 0 0)), ((65 : Nat), (AV.i s.blocks)), ((66 : Nat), (AV.pt 1 2)), ((67 : Nat), (AV.sl (List.length (poAt s.points (Int.toNat s8.2.2)).map) (List.flatMap Ex.cells (poAt s.points (Int.toNat s8.2.2)).map))), ((68 : Nat), (AV.pt 1 1)), ((69 : Nat), (AV.i (poAt s.points (Int.toNat s8.2.2)).gen)), ((70 : Nat), (AV.b s11)), ((8 : Nat), (AV.b s11)), ((71 : Nat), (AV.b s11)), ((72 : Nat), (AV.b (!s11))), ((73 : Nat), (AV.b (!s11))), ((74 : Nat), (AV.pt 1 0)), ((75 : Nat), (AV.i (poAt s.points (Int.toNat s8.2.2)).id)), ((76 : Nat), (AV.i s8.1)), ((77 : Nat), (AV.b (decide ((poAt s.points (Int.toNat s8.2.2)).id ≤ s8.1)))), ((78 : Nat), (AV.b (decide ((poAt s.points (Int.toNat s8.2.2)).id ≤ s8.1)))), ((79 : Nat), (AV.b (decide ((poAt s.points (Int.toNat s8.2.2)).id ≤ s8.1)))), ((80 : Nat), (AV.pt 1 0)), ((81 : Nat), (AV.i (poAt s.points (Int.toNat s8.2.2)).id)), ((82 : Nat), (AV.pt 0 4)), ((83 : Nat), (AV.i s.last)), ((84 : Nat), (AV.b (decide ((poAt s.points (Int.toNat s8.2.2)).id > s.last)))), ((85 : Nat), (AV.b (decide ((poAt s.points (Int.toNat s8.2.2)).id > s.last)))), ((86 : Nat), (AV.b (decide ((poAt s.points (Int.toNat s8.2.2)).id > s.last)))), ((87 : Nat), (AV.pt 1 1)), ((88 : Nat), (AV.i (poAt s.points (Int.toNat s8.2.2)).gen)), ((89 : Nat), (AV.i s8.2.1)), ((90 : Nat), (AV.b (decide ((poAt s.points (Int.toNat s8.2.2)).gen ≤ s8.2.1)))), ((91 : Nat), (AV.b (decide ((poAt s.points (Int.toNat s8.2.2)).gen ≤ s8.2.1)))), ((92 : Nat), (AV.b (decide ((poAt s.points (Int.toNat s8.2.2)).gen ≤ s8.2.1)))), ((93 : Nat), (AV.pt 1 1)), ((94 : Nat), (AV.i (poAt s.points (Int.toNat s8.2.2)).gen)), ((95 : Nat), (AV.pt 0 1)), ((96 : Nat), (AV.i s.gen)), ((97 : Nat), (AV.b (decide ((poAt s.points (Int.toNat s8.2.2)).gen ≥ s.gen)))), ((98 : Nat), (AV.b (decide ((poAt s.points (Int.toNat s8.2.2)).gen ≥ s.gen)))), ((99 : Nat), (AV.i s8.2.2)), ((100 : Nat), (AV.b (decide (s8.2.2 > (0 : Int))))), ((116 : Nat), (AV.pt 1 0)), ((117 : Nat), (AV.i (poAt s.points (Int.toNat s8.2.2)).id)), ((118 : Nat), (AV.pt 1 1)), ((119 : Nat), (AV.i (poAt s.points (Int.toNat s8.2.2)).gen)), ((57 : Nat), (AV.i s8.2.2)), ((58 : Nat), (AV.i (wr (s8.2.2 + (1 : Int)))))] 141 (AH.mk 2 [((1 : Nat), (AObj.cells [(AV.i (poAt s.points (Int.toNat s8.2.2)).id), (AV.i (poAt s.points (Int.toNat s8.2.2)).gen), (AV.sl (List.length (poAt s.points (Int.toNat s8.2.2)).map) (List.flatMap Ex.cells (poAt s.points (Int.toNat s8.2.2)).map))])), ((0 : Nat), (AObj.cells [(AV.i s.blocks), (AV.i s.gen), (AV.sl (List.length s.map) (List.flatMap Ex.cells s.map)), (AV.sl (List.length s.points) (List.flatMap Po.cells s.points)), (AV.i s.last), (AV.sl (List.length s.staged) (List.map AV.y s.staged))]))]) Bool.false)) kq (ac h9 (ac h10 (ac (fq (p := ((3 : Nat) ≤ (List.length (List.drop ((Int.toNat s8.2.2) * (3 : Nat)) (List.flatMap Po.cells s.points)))))) (ac (show (List.take 3 (List.drop ((Int.toNat s8.2.2) * (3 : Nat)) (List.flatMap Po.cells s.points))) = (Po.cells (poAt s.points (Int.toNat s8.2.2))) from (po_takeO bq bq)) (ac (Eq.refl ([(AV.i (poAt s.points (Int.toNat s8.2.2)).id), (AV.i (poAt s.points (Int.toNat s8.2.2)).gen), (AV.sl (List.length (poAt s.points (Int.toNat s8.2.2)).map) (List.flatMap Ex.cells (poAt s.points (Int.toNat s8.2.2)).map))] : List AV)) (ac (r11upto_ok (s.blocks) ((poAt s.points (Int.toNat s8.2.2)).map) ((poAt s.points (Int.toNat s8.2.2)).gen) _ h11).any0 (ac h12 (ac h12 (ac h12 (ac h12 (ac h12 (ac h13 (ac h13 (ac h13 (ac h13 (ac h13 (ac h13 (ac h14 (ac h14 (ac h14 (ac h14 (ac h14 (ac h15 (ac h15 (ac h15 (ac h15 (ac h15 (ac h15 (ac h16 (ac h17 an)))))))))))))))))))))))))))))) (Nat.le_of_ble_eq_true rfl) (absB_of [] [] kq (.consn kq (.agp pq) (.consn kq (.pt rfl) (.consn kq (.eqv tq rfl) (.consn kq (.eqv tq rfl) (.consn kq (.eqv tq rfl) (.consn kq (.eqv tq rfl) (.consn kq (.eqv tq rfl) .nil))))))) (.cons (.old rfl rfl (.cells (.pl rfl pq))) .nil))
theorem r11Check_L0_ok (s : Sa) (s0 : Bool) (s8 zz : Int × Int × Int) : r11Check_L0_step s s0 s8 = some zz → EvStep Try.prog cf 1 (lp Try.prog 22 0) (r11Check_L0_S s s0 s8) (r11Check_L0_S s s0 zz) := by
  unfold r11Check_L0_step
  refine tb_ok (fun h9 => ?_) (fun h9 => ?_)
  ·
    have h9p := of_decide_eq_true h9
    refine tp_ok (fun h10 => ?_)
    refine tc_ok (fun s11 h11 => ?_)
    refine tb_ok (fun h12 => ?_) (fun h12 => ?_)
    ·
      exact fun e => nomatch e
    ·
      refine tb_ok (fun h13 => ?_) (fun h13 => ?_)
      ·
        have h13p := of_decide_eq_true h13
        exact fun e => nomatch e
      ·
        have h13p := of_decide_eq_false h13
        refine tb_ok (fun h14 => ?_) (fun h14 => ?_)
        ·
          have h14p := of_decide_eq_true h14
          exact fun e => nomatch e
        ·
          have h14p := of_decide_eq_false h14
          refine tb_ok (fun h15 => ?_) (fun h15 => ?_)
          ·
            have h15p := of_decide_eq_true h15
            exact fun e => nomatch e
          ·
            have h15p := of_decide_eq_false h15
            refine tb_ok (fun h16 => ?_) (fun h16 => ?_)
            ·
              have h16p := of_decide_eq_true h16
              exact fun e => nomatch e
            ·
              have h16p := of_decide_eq_false h16
              refine tb_ok (fun h17 => ?_) (fun h17 => ?_)
              ·
                have h17p := of_decide_eq_true h17
                refine tp_ok (fun h18 => ?_)
                refine tc_ok (fun s19 h19 => ?_)
                refine tb_ok (fun h20 => ?_) (fun h20 => ?_)
                ·
                  exact fun e => nomatch e
                ·
                  exact fun e => tl_ok (G := (fun zz => EvStep Try.prog cf 1 (lp Try.prog 22 0) (r11Check_L0_S s s0 s8) (r11Check_L0_S s s0 zz))) (r11Check_L0_s0 s s0 s8 h9 h9p h10 s11 h11 h12 h13 h13p h14 h14p h15 h15p h16 h16p h17 h17p h18 s19 h19 h20) e
              ·
                have h17p := of_decide_eq_false h17
                exact fun e => tl_ok (G := (fun zz => EvStep Try.prog cf 1 (lp Try.prog 22 0) (r11Check_L0_S s s0 s8) (r11Check_L0_S s s0 zz))) (r11Check_L0_s1 s s0 s8 h9 h9p h10 s11 h11 h12 h13 h13p h14 h14p h15 h15p h16 h16p h17 h17p) e
  ·
    have h9p := of_decide_eq_false h9
    exact fun e => nomatch e
/-- Function 22, as it answers. -/
noncomputable def r11Check (s : Sa) : Option (Int) :=
 (tc (r11upto (s.blocks) (s.map) (s.gen)) fun s0 =>
  (tb ((!s0))
   (some ((110 : Int)))
   (tb ((decide (s.gen < (1 : Int))))
    (some ((110 : Int)))
    (tb ((decide (s.gen ≥ (2147483648 : Int))))
     (some ((110 : Int)))
     (tb ((decide ((↑(List.length s.points) : Int) > (4 : Int))))
      (some ((110 : Int)))
      (tb ((decide (s.last < (0 : Int))))
       (some ((110 : Int)))
       (tb ((decide (s.last ≥ (2147483648 : Int))))
        (some ((110 : Int)))
        (tb ((decide ((↑(List.length s.staged) : Int) > (4000 : Int))))
         (some ((110 : Int)))
         (th (r11Check_L0_step s s0) (((0 : Int), ((0 : Int), (0 : Int)))) fun s8 =>
          (tb ((decide (s8.2.2 < (↑(List.length s.points) : Int))))
           (tp ((((0 : Int) ≤ s8.2.2) ∧ (s8.2.2 < (↑(List.length s.points) : Int))))
            (tc (r11upto (s.blocks) ((poAt s.points (Int.toNat s8.2.2)).map) ((poAt s.points (Int.toNat s8.2.2)).gen)) fun s11 =>
             (tb ((!s11))
              (some ((110 : Int)))
              (tb ((decide ((poAt s.points (Int.toNat s8.2.2)).id ≤ s8.1)))
               (some ((110 : Int)))
               (tb ((decide ((poAt s.points (Int.toNat s8.2.2)).id > s.last)))
                (some ((110 : Int)))
                (tb ((decide ((poAt s.points (Int.toNat s8.2.2)).gen ≤ s8.2.1)))
                 (some ((110 : Int)))
                 (tb ((decide ((poAt s.points (Int.toNat s8.2.2)).gen ≥ s.gen)))
                  (some ((110 : Int)))
                  (tb ((decide (s8.2.2 > (0 : Int))))
                   (tp ((((0 : Int) ≤ (wr (s8.2.2 - (1 : Int)))) ∧ ((wr (s8.2.2 - (1 : Int))) < (↑(List.length s.points) : Int))))
                    (tc (r11kept (s.blocks) ((poAt s.points (Int.toNat (wr (s8.2.2 - (1 : Int))))).map) ((poAt s.points (Int.toNat s8.2.2)).map) (s8.2.1)) fun s19 =>
                     (tb ((!s19))
                      (some ((110 : Int)))
                      none /- stop behind an operation -/)))
                   none /- stop behind an operation -/))))))))
           (tb ((decide ((↑(List.length s.points) : Int) > (0 : Int))))
            (tp ((((0 : Int) ≤ (wr ((↑(List.length s.points) : Int) - (1 : Int)))) ∧ ((wr ((↑(List.length s.points) : Int) - (1 : Int))) < (↑(List.length s.points) : Int))))
             (tc (r11kept (s.blocks) ((poAt s.points (Int.toNat (wr ((↑(List.length s.points) : Int) - (1 : Int))))).map) (s.map) (s8.2.1)) fun s12 =>
              (tb ((!s12))
               (some ((110 : Int)))
               (some ((0 : Int))))))
            (some ((0 : Int))))))))))))))
abbrev r11Check_G (s : Sa) (r : Int) : Prop := EvFr Try.prog cf true 22 [Sa.av (s)] (.i (r))
theorem r11Check_l0 (s : Sa) (s0 : Bool) (h0 : r11upto (s.blocks) (s.map) (s.gen) = some s0) (h1 : ((!s0)) = true) : r11Check_G s ((110 : Int)) :=
  leafR vw_eq (k := 300) (r := []) (hs := hz [(12, [.fres (.b (s0))]), (4, [.yes, .yes, .yes, .yes]), (29, [])]) (raw := (AV.i 110)) kq (ac (r11upto_ok (s.blocks) (s.map) (s.gen) _ h0).any0 (ac h1 (ac h1 (ac h1 (ac h1 an))))) tq
theorem r11Check_l1 (s : Sa) (s0 : Bool) (h0 : r11upto (s.blocks) (s.map) (s.gen) = some s0) (h1 : ((!s0)) = false) (h2 : ((decide (s.gen < (1 : Int)))) = true) (h2p : (s.gen < (1 : Int))) : r11Check_G s ((110 : Int)) :=
  leafR vw_eq (k := 300) (r := []) (hs := hz [(12, [.fres (.b (s0))]), (4, [.no]), (1, [.no]), (2, [.no]), (1, [.no]), (1, [.yes, .yes, .yes, .yes]), (24, [])]) (raw := (AV.i 110)) kq (ac (r11upto_ok (s.blocks) (s.map) (s.gen) _ h0).any0 (ac h1 (ac h1 (ac h1 (ac h1 (ac h2 (ac h2 (ac h2 (ac h2 an))))))))) tq
theorem r11Check_l2 (s : Sa) (s0 : Bool) (h0 : r11upto (s.blocks) (s.map) (s.gen) = some s0) (h1 : ((!s0)) = false) (h2 : ((decide (s.gen < (1 : Int)))) = false) (h2p : ¬ (s.gen < (1 : Int))) (h3 : ((decide (s.gen ≥ (2147483648 : Int)))) = true) (h3p : (s.gen ≥ (2147483648 : Int))) : r11Check_G s ((110 : Int)) :=
  leafR vw_eq (k := 300) (r := []) (hs := hz [(12, [.fres (.b (s0))]), (4, [.no]), (1, [.no]), (2, [.no]), (1, [.no]), (1, [.no]), (1, [.no]), (2, [.no]), (1, [.no]), (1, [.yes, .yes, .yes, .yes, .yes]), (18, [])]) (raw := (AV.i 110)) kq (ac (r11upto_ok (s.blocks) (s.map) (s.gen) _ h0).any0 (ac h1 (ac h1 (ac h1 (ac h1 (ac h2 (ac h2 (ac h2 (ac h2 (ac h3 (ac h3 (ac h3 (ac h3 (ac h3 an)))))))))))))) tq
theorem r11Check_l3 (s : Sa) (s0 : Bool) (h0 : r11upto (s.blocks) (s.map) (s.gen) = some s0) (h1 : ((!s0)) = false) (h2 : ((decide (s.gen < (1 : Int)))) = false) (h2p : ¬ (s.gen < (1 : Int))) (h3 : ((decide (s.gen ≥ (2147483648 : Int)))) = false) (h3p : ¬ (s.gen ≥ (2147483648 : Int))) (h4 : ((decide ((↑(List.length s.points) : Int) > (4 : Int)))) = true) (h4p : ((↑(List.length s.points) : Int) > (4 : Int))) : r11Check_G s ((110 : Int)) :=
  leafR vw_eq (k := 300) (r := []) (hs := hz [(12, [.fres (.b (s0))]), (4, [.no]), (1, [.no]), (2, [.no]), (1, [.no]), (1, [.no]), (1, [.no]), (2, [.no]), (1, [.no]), (1, [.no]), (1, [.no]), (2, [.no]), (1, [.no]), (1, [.no]), (1, [.yes, .yes, .yes, .yes]), (13, [])]) (raw := (AV.i 110)) kq (ac (r11upto_ok (s.blocks) (s.map) (s.gen) _ h0).any0 (ac h1 (ac h1 (ac h1 (ac h1 (ac h2 (ac h2 (ac h2 (ac h2 (ac h3 (ac h3 (ac h3 (ac h3 (ac h3 (ac h4 (ac h4 (ac h4 (ac h4 an)))))))))))))))))) tq
theorem r11Check_l4 (s : Sa) (s0 : Bool) (h0 : r11upto (s.blocks) (s.map) (s.gen) = some s0) (h1 : ((!s0)) = false) (h2 : ((decide (s.gen < (1 : Int)))) = false) (h2p : ¬ (s.gen < (1 : Int))) (h3 : ((decide (s.gen ≥ (2147483648 : Int)))) = false) (h3p : ¬ (s.gen ≥ (2147483648 : Int))) (h4 : ((decide ((↑(List.length s.points) : Int) > (4 : Int)))) = false) (h4p : ¬ ((↑(List.length s.points) : Int) > (4 : Int))) (h5 : ((decide (s.last < (0 : Int)))) = true) (h5p : (s.last < (0 : Int))) : r11Check_G s ((110 : Int)) :=
  leafR vw_eq (k := 300) (r := []) (hs := hz [(12, [.fres (.b (s0))]), (4, [.no]), (1, [.no]), (2, [.no]), (1, [.no]), (1, [.no]), (1, [.no]), (2, [.no]), (1, [.no]), (1, [.no]), (1, [.no]), (2, [.no]), (1, [.no]), (1, [.no]), (1, [.no]), (1, [.no]), (2, [.no]), (1, [.no]), (1, [.yes, .yes, .yes, .yes]), (8, [])]) (raw := (AV.i 110)) kq (ac (r11upto_ok (s.blocks) (s.map) (s.gen) _ h0).any0 (ac h1 (ac h1 (ac h1 (ac h1 (ac h2 (ac h2 (ac h2 (ac h2 (ac h3 (ac h3 (ac h3 (ac h3 (ac h3 (ac h4 (ac h4 (ac h4 (ac h4 (ac h5 (ac h5 (ac h5 (ac h5 an)))))))))))))))))))))) tq
theorem r11Check_l5 (s : Sa) (s0 : Bool) (h0 : r11upto (s.blocks) (s.map) (s.gen) = some s0) (h1 : ((!s0)) = false) (h2 : ((decide (s.gen < (1 : Int)))) = false) (h2p : ¬ (s.gen < (1 : Int))) (h3 : ((decide (s.gen ≥ (2147483648 : Int)))) = false) (h3p : ¬ (s.gen ≥ (2147483648 : Int))) (h4 : ((decide ((↑(List.length s.points) : Int) > (4 : Int)))) = false) (h4p : ¬ ((↑(List.length s.points) : Int) > (4 : Int))) (h5 : ((decide (s.last < (0 : Int)))) = false) (h5p : ¬ (s.last < (0 : Int))) (h6 : ((decide (s.last ≥ (2147483648 : Int)))) = true) (h6p : (s.last ≥ (2147483648 : Int))) : r11Check_G s ((110 : Int)) :=
  leafR vw_eq (k := 300) (r := []) (hs := hz [(12, [.fres (.b (s0))]), (4, [.no]), (1, [.no]), (2, [.no]), (1, [.no]), (1, [.no]), (1, [.no]), (2, [.no]), (1, [.no]), (1, [.no]), (1, [.no]), (2, [.no]), (1, [.no]), (1, [.no]), (1, [.no]), (1, [.no]), (2, [.no]), (1, [.no]), (1, [.no]), (1, [.no]), (2, [.no]), (1, [.no]), (1, [.yes, .yes, .yes, .yes, .yes]), (2, [])]) (raw := (AV.i 110)) kq (ac (r11upto_ok (s.blocks) (s.map) (s.gen) _ h0).any0 (ac h1 (ac h1 (ac h1 (ac h1 (ac h2 (ac h2 (ac h2 (ac h2 (ac h3 (ac h3 (ac h3 (ac h3 (ac h3 (ac h4 (ac h4 (ac h4 (ac h4 (ac h5 (ac h5 (ac h5 (ac h5 (ac h6 (ac h6 (ac h6 (ac h6 (ac h6 an))))))))))))))))))))))))))) tq
theorem r11Check_l6 (s : Sa) (s0 : Bool) (h0 : r11upto (s.blocks) (s.map) (s.gen) = some s0) (h1 : ((!s0)) = false) (h2 : ((decide (s.gen < (1 : Int)))) = false) (h2p : ¬ (s.gen < (1 : Int))) (h3 : ((decide (s.gen ≥ (2147483648 : Int)))) = false) (h3p : ¬ (s.gen ≥ (2147483648 : Int))) (h4 : ((decide ((↑(List.length s.points) : Int) > (4 : Int)))) = false) (h4p : ¬ ((↑(List.length s.points) : Int) > (4 : Int))) (h5 : ((decide (s.last < (0 : Int)))) = false) (h5p : ¬ (s.last < (0 : Int))) (h6 : ((decide (s.last ≥ (2147483648 : Int)))) = false) (h6p : ¬ (s.last ≥ (2147483648 : Int))) (h7 : ((decide ((↑(List.length s.staged) : Int) > (4000 : Int)))) = true) (h7p : ((↑(List.length s.staged) : Int) > (4000 : Int))) : r11Check_G s ((110 : Int)) :=
  leafR vw_eq (k := 300) (r := []) (hs := hz [(12, [.fres (.b (s0))]), (4, [.no]), (1, [.no]), (2, [.no]), (1, [.no]), (1, [.no]), (1, [.no]), (2, [.no]), (1, [.no]), (1, [.no]), (1, [.no]), (2, [.no]), (1, [.no]), (1, [.no]), (1, [.no]), (1, [.no]), (2, [.no]), (1, [.no]), (1, [.no]), (1, [.no]), (2, [.no]), (1, [.no]), (1, [.no]), (1, [.no]), (2, [.no]), (1, [.no]), (1, [.no, .yes]), (1, [])]) (raw := (AV.i 110)) kq (ac (r11upto_ok (s.blocks) (s.map) (s.gen) _ h0).any0 (ac h1 (ac h1 (ac h1 (ac h1 (ac h2 (ac h2 (ac h2 (ac h2 (ac h3 (ac h3 (ac h3 (ac h3 (ac h3 (ac h4 (ac h4 (ac h4 (ac h4 (ac h5 (ac h5 (ac h5 (ac h5 (ac h6 (ac h6 (ac h6 (ac h6 (ac h6 (ac h7 an)))))))))))))))))))))))))))) tq
theorem r11Check_l7 (s : Sa) (s0 : Bool) (h0 : r11upto (s.blocks) (s.map) (s.gen) = some s0) (h1 : ((!s0)) = false) (h2 : ((decide (s.gen < (1 : Int)))) = false) (h2p : ¬ (s.gen < (1 : Int))) (h3 : ((decide (s.gen ≥ (2147483648 : Int)))) = false) (h3p : ¬ (s.gen ≥ (2147483648 : Int))) (h4 : ((decide ((↑(List.length s.points) : Int) > (4 : Int)))) = false) (h4p : ¬ ((↑(List.length s.points) : Int) > (4 : Int))) (h5 : ((decide (s.last < (0 : Int)))) = false) (h5p : ¬ (s.last < (0 : Int))) (h6 : ((decide (s.last ≥ (2147483648 : Int)))) = false) (h6p : ¬ (s.last ≥ (2147483648 : Int))) (h7 : ((decide ((↑(List.length s.staged) : Int) > (4000 : Int)))) = false) (h7p : ¬ ((↑(List.length s.staged) : Int) > (4000 : Int))) (s8 : Int × Int × Int) (h8 : Runs (r11Check_L0_step s s0) (((0 : Int), ((0 : Int), (0 : Int)))) s8) (h9 : ((decide (s8.2.2 < (↑(List.length s.points) : Int)))) = true) (h9p : (s8.2.2 < (↑(List.length s.points) : Int))) (h10 : (((0 : Int) ≤ s8.2.2) ∧ (s8.2.2 < (↑(List.length s.points) : Int)))) (s11 : Bool) (h11 : r11upto (s.blocks) ((poAt s.points (Int.toNat s8.2.2)).map) ((poAt s.points (Int.toNat s8.2.2)).gen) = some s11) (h12 : ((!s11)) = true) : r11Check_G s ((110 : Int)) :=
  leafR vw_eq (k := 300) (r := []) (hs := hz [(12, [.fres (.b (s0))]), (4, [.no]), (1, [.no]), (2, [.no]), (1, [.no]), (1, [.no]), (1, [.no]), (2, [.no]), (1, [.no]), (1, [.no]), (1, [.no]), (2, [.no]), (1, [.no]), (1, [.no]), (1, [.no]), (1, [.no]), (2, [.no]), (1, [.no]), (1, [.no]), (1, [.no]), (2, [.no]), (1, [.no]), (1, [.no]), (1, [.no]), (2, [.no]), (1, [.no]), (1, [.no, .no]), (3, [.head (r11Check_L0_S s s0 s8)]), (6, [.yes]), (4, [.yes, .yes, .cells ((Po.cells (poAt s.points (Int.toNat s8.2.2))))]), (2, [.cells ([(AV.i (poAt s.points (Int.toNat s8.2.2)).id), (AV.i (poAt s.points (Int.toNat s8.2.2)).gen), (AV.sl (List.length (poAt s.points (Int.toNat s8.2.2)).map) (List.flatMap Ex.cells (poAt s.points (Int.toNat s8.2.2)).map))])]), (10, [.fres (.b (s11))]), (4, [.yes, .yes, .yes, .yes, .yes]), (22, [])]) (raw := (AV.i 110)) kq (ac (r11upto_ok (s.blocks) (s.map) (s.gen) _ h0).any0 (ac h1 (ac h1 (ac h1 (ac h1 (ac h2 (ac h2 (ac h2 (ac h2 (ac h3 (ac h3 (ac h3 (ac h3 (ac h3 (ac h4 (ac h4 (ac h4 (ac h4 (ac h5 (ac h5 (ac h5 (ac h5 (ac h6 (ac h6 (ac h6 (ac h6 (ac h6 (ac h7 (ac (show EvHead Try.prog cf (lp Try.prog 22 0) (r11Check_L0_I s s0) (r11Check_L0_S s s0 s8) from (EvHead.of (r11Check_L0_ok s s0) (absB_of [] [] kq (.consn kq (.agp pq) (.consn kq (.pt rfl) (.consn kq (.eqv tq rfl) (.consn kq (.eqv tq rfl) (.consn kq (.eqv tq rfl) (.consn kq (.eqv tq rfl) (.consn kq (.eqv tq rfl) .nil))))))) (.cons (.old rfl rfl (.cells (.pl rfl pq))) .nil)) h8)) (ac h9 (ac h10 (ac (fq (p := ((3 : Nat) ≤ (List.length (List.drop ((Int.toNat s8.2.2) * (3 : Nat)) (List.flatMap Po.cells s.points)))))) (ac (show (List.take 3 (List.drop ((Int.toNat s8.2.2) * (3 : Nat)) (List.flatMap Po.cells s.points))) = (Po.cells (poAt s.points (Int.toNat s8.2.2))) from (po_takeO bq bq)) (ac (Eq.refl ([(AV.i (poAt s.points (Int.toNat s8.2.2)).id), (AV.i (poAt s.points (Int.toNat s8.2.2)).gen), (AV.sl (List.length (poAt s.points (Int.toNat s8.2.2)).map) (List.flatMap Ex.cells (poAt s.points (Int.toNat s8.2.2)).map))] : List AV)) (ac (r11upto_ok (s.blocks) ((poAt s.points (Int.toNat s8.2.2)).map) ((poAt s.points (Int.toNat s8.2.2)).gen) _ h11).any0 (ac h12 (ac h12 (ac h12 (ac h12 (ac h12 an)))))))))))))))))))))))))))))))))))))))) tq
theorem r11Check_l8 (s : Sa) (s0 : Bool) (h0 : r11upto (s.blocks) (s.map) (s.gen) = some s0) (h1 : ((!s0)) = false) (h2 : ((decide (s.gen < (1 : Int)))) = false) (h2p : ¬ (s.gen < (1 : Int))) (h3 : ((decide (s.gen ≥ (2147483648 : Int)))) = false) (h3p : ¬ (s.gen ≥ (2147483648 : Int))) (h4 : ((decide ((↑(List.length s.points) : Int) > (4 : Int)))) = false) (h4p : ¬ ((↑(List.length s.points) : Int) > (4 : Int))) (h5 : ((decide (s.last < (0 : Int)))) = false) (h5p : ¬ (s.last < (0 : Int))) (h6 : ((decide (s.last ≥ (2147483648 : Int)))) = false) (h6p : ¬ (s.last ≥ (2147483648 : Int))) (h7 : ((decide ((↑(List.length s.staged) : Int) > (4000 : Int)))) = false) (h7p : ¬ ((↑(List.length s.staged) : Int) > (4000 : Int))) (s8 : Int × Int × Int) (h8 : Runs (r11Check_L0_step s s0) (((0 : Int), ((0 : Int), (0 : Int)))) s8) (h9 : ((decide (s8.2.2 < (↑(List.length s.points) : Int)))) = true) (h9p : (s8.2.2 < (↑(List.length s.points) : Int))) (h10 : (((0 : Int) ≤ s8.2.2) ∧ (s8.2.2 < (↑(List.length s.points) : Int)))) (s11 : Bool) (h11 : r11upto (s.blocks) ((poAt s.points (Int.toNat s8.2.2)).map) ((poAt s.points (Int.toNat s8.2.2)).gen) = some s11) (h12 : ((!s11)) = false) (h13 : ((decide ((poAt s.points (Int.toNat s8.2.2)).id ≤ s8.1))) = true) (h13p : ((poAt s.points (Int.toNat s8.2.2)).id ≤ s8.1)) : r11Check_G s ((110 : Int)) :=
  leafR vw_eq (k := 300) (r := []) (hs := hz [(12, [.fres (.b (s0))]), (4, [.no]), (1, [.no]), (2, [.no]), (1, [.no]), (1, [.no]), (1, [.no]), (2, [.no]), (1, [.no]), (1, [.no]), (1, [.no]), (2, [.no]), (1, [.no]), (1, [.no]), (1, [.no]), (1, [.no]), (2, [.no]), (1, [.no]), (1, [.no]), (1, [.no]), (2, [.no]), (1, [.no]), (1, [.no]), (1, [.no]), (2, [.no]), (1, [.no]), (1, [.no, .no]), (3, [.head (r11Check_L0_S s s0 s8)]), (6, [.yes]), (4, [.yes, .yes, .cells ((Po.cells (poAt s.points (Int.toNat s8.2.2))))]), (2, [.cells ([(AV.i (poAt s.points (Int.toNat s8.2.2)).id), (AV.i (poAt s.points (Int.toNat s8.2.2)).gen), (AV.sl (List.length (poAt s.points (Int.toNat s8.2.2)).map) (List.flatMap Ex.cells (poAt s.points (Int.toNat s8.2.2)).map))])]), (10, [.fres (.b (s11))]), (4, [.no]), (1, [.no]), (2, [.no]), (1, [.no]), (1, [.no]), (1, [.yes, .yes, .yes, .yes, .yes, .yes]), (15, [])]) (raw := (AV.i 110)) kq (ac (r11upto_ok (s.blocks) (s.map) (s.gen) _ h0).any0 (ac h1 (ac h1 (ac h1 (ac h1 (ac h2 (ac h2 (ac h2 (ac h2 (ac h3 (ac h3 (ac h3 (ac h3 (ac h3 (ac h4 (ac h4 (ac h4 (ac h4 (ac h5 (ac h5 (ac h5 (ac h5 (ac h6 (ac h6 (ac h6 (ac h6 (ac h6 (ac h7 (ac (show EvHead Try.prog cf (lp Try.prog 22 0) (r11Check_L0_I s s0) (r11Check_L0_S s s0 s8) from (EvHead.of (r11Check_L0_ok s s0) (absB_of [] [] kq (.consn kq (.agp pq) (.consn kq (.pt rfl) (.consn kq (.eqv tq rfl) (.consn kq (.eqv tq rfl) (.consn kq (.eqv tq rfl) (.consn kq (.eqv tq rfl) (.consn kq (.eqv tq rfl) .nil))))))) (.cons (.old rfl rfl (.cells (.pl rfl pq))) .nil)) h8)) (ac h9 (ac h10 (ac (fq (p := ((3 : Nat) ≤ (List.length (List.drop ((Int.toNat s8.2.2) * (3 : Nat)) (List.flatMap Po.cells s.points)))))) (ac (show (List.take 3 (List.drop ((Int.toNat s8.2.2) * (3 : Nat)) (List.flatMap Po.cells s.points))) = (Po.cells (poAt s.points (Int.toNat s8.2.2))) from (po_takeO bq bq)) (ac (Eq.refl ([(AV.i (poAt s.points (Int.toNat s8.2.2)).id), (AV.i (poAt s.points (Int.toNat s8.2.2)).gen), (AV.sl (List.length (poAt s.points (Int.toNat s8.2.2)).map) (List.flatMap Ex.cells (poAt s.points (Int.toNat s8.2.2)).map))] : List AV)) (ac (r11upto_ok (s.blocks) ((poAt s.points (Int.toNat s8.2.2)).map) ((poAt s.points (Int.toNat s8.2.2)).gen) _ h11).any0 (ac h12 (ac h12 (ac h12 (ac h12 (ac h12 (ac h13 (ac h13 (ac h13 (ac h13 (ac h13 (ac h13 an)))))))))))))))))))))))))))))))))))))))))))))) tq
theorem r11Check_l9 (s : Sa) (s0 : Bool) (h0 : r11upto (s.blocks) (s.map) (s.gen) = some s0) (h1 : ((!s0)) = false) (h2 : ((decide (s.gen < (1 : Int)))) = false) (h2p : ¬ (s.gen < (1 : Int))) (h3 : ((decide (s.gen ≥ (2147483648 : Int)))) = false) (h3p : ¬ (s.gen ≥ (2147483648 : Int))) (h4 : ((decide ((↑(List.length s.points) : Int) > (4 : Int)))) = false) (h4p : ¬ ((↑(List.length s.points) : Int) > (4 : Int))) (h5 : ((decide (s.last < (0 : Int)))) = false) (h5p : ¬ (s.last < (0 : Int))) (h6 : ((decide (s.last ≥ (2147483648 : Int)))) = false) (h6p : ¬ (s.last ≥ (2147483648 : Int))) (h7 : ((decide ((↑(List.length s.staged) : Int) > (4000 : Int)))) = false) (h7p : ¬ ((↑(List.length s.staged) : Int) > (4000 : Int))) (s8 : Int × Int × Int) (h8 : Runs (r11Check_L0_step s s0) (((0 : Int), ((0 : Int), (0 : Int)))) s8) (h9 : ((decide (s8.2.2 < (↑(List.length s.points) : Int)))) = true) (h9p : (s8.2.2 < (↑(List.length s.points) : Int))) (h10 : (((0 : Int) ≤ s8.2.2) ∧ (s8.2.2 < (↑(List.length s.points) : Int)))) (s11 : Bool) (h11 : r11upto (s.blocks) ((poAt s.points (Int.toNat s8.2.2)).map) ((poAt s.points (Int.toNat s8.2.2)).gen) = some s11) (h12 : ((!s11)) = false) (h13 : ((decide ((poAt s.points (Int.toNat s8.2.2)).id ≤ s8.1))) = false) (h13p : ¬ ((poAt s.points (Int.toNat s8.2.2)).id ≤ s8.1)) (h14 : ((decide ((poAt s.points (Int.toNat s8.2.2)).id > s.last))) = true) (h14p : ((poAt s.points (Int.toNat s8.2.2)).id > s.last)) : r11Check_G s ((110 : Int)) :=
  leafR vw_eq (k := 300) (r := []) (hs := hz [(12, [.fres (.b (s0))]), (4, [.no]), (1, [.no]), (2, [.no]), (1, [.no]), (1, [.no]), (1, [.no]), (2, [.no]), (1, [.no]), (1, [.no]), (1, [.no]), (2, [.no]), (1, [.no]), (1, [.no]), (1, [.no]), (1, [.no]), (2, [.no]), (1, [.no]), (1, [.no]), (1, [.no]), (2, [.no]), (1, [.no]), (1, [.no]), (1, [.no]), (2, [.no]), (1, [.no]), (1, [.no, .no]), (3, [.head (r11Check_L0_S s s0 s8)]), (6, [.yes]), (4, [.yes, .yes, .cells ((Po.cells (poAt s.points (Int.toNat s8.2.2))))]), (2, [.cells ([(AV.i (poAt s.points (Int.toNat s8.2.2)).id), (AV.i (poAt s.points (Int.toNat s8.2.2)).gen), (AV.sl (List.length (poAt s.points (Int.toNat s8.2.2)).map) (List.flatMap Ex.cells (poAt s.points (Int.toNat s8.2.2)).map))])]), (10, [.fres (.b (s11))]), (4, [.no]), (1, [.no]), (2, [.no]), (1, [.no]), (1, [.no]), (1, [.no]), (1, [.no]), (2, [.no]), (1, [.no]), (2, [.no]), (1, [.no]), (1, [.yes, .yes, .yes, .yes, .yes]), (9, [])]) (raw := (AV.i 110)) kq (ac (r11upto_ok (s.blocks) (s.map) (s.gen) _ h0).any0 (ac h1 (ac h1 (ac h1 (ac h1 (ac h2 (ac h2 (ac h2 (ac h2 (ac h3 (ac h3 (ac h3 (ac h3 (ac h3 (ac h4 (ac h4 (ac h4 (ac h4 (ac h5 (ac h5 (ac h5 (ac h5 (ac h6 (ac h6 (ac h6 (ac h6 (ac h6 (ac h7 (ac (show EvHead Try.prog cf (lp Try.prog 22 0) (r11Check_L0_I s s0) (r11Check_L0_S s s0 s8) from (EvHead.of (r11Check_L0_ok s s0) (absB_of [] [] kq (.consn kq (.agp pq) (.consn kq (.pt rfl) (.consn kq (.eqv tq rfl) (.consn kq (.eqv tq rfl) (.consn kq (.eqv tq rfl) (.consn kq (.eqv tq rfl) (.consn kq (.eqv tq rfl) .nil))))))) (.cons (.old rfl rfl (.cells (.pl rfl pq))) .nil)) h8)) (ac h9 (ac h10 (ac (fq (p := ((3 : Nat) ≤ (List.length (List.drop ((Int.toNat s8.2.2) * (3 : Nat)) (List.flatMap Po.cells s.points)))))) (ac (show (List.take 3 (List.drop ((Int.toNat s8.2.2) * (3 : Nat)) (List.flatMap Po.cells s.points))) = (Po.cells (poAt s.points (Int.toNat s8.2.2))) from (po_takeO bq bq)) (ac (Eq.refl ([(AV.i (poAt s.points (Int.toNat s8.2.2)).id), (AV.i (poAt s.points (Int.toNat s8.2.2)).gen), (AV.sl (List.length (poAt s.points (Int.toNat s8.2.2)).map) (List.flatMap Ex.cells (poAt s.points (Int.toNat s8.2.2)).map))] : List AV)) (ac (r11upto_ok (s.blocks) ((poAt s.points (Int.toNat s8.2.2)).map) ((poAt s.points (Int.toNat s8.2.2)).gen) _ h11).any0 (ac h12 (ac h12 (ac h12 (ac h12 (ac h12 (ac h13 (ac h13 (ac h13 (ac h13 (ac h13 (ac h13 (ac h14 (ac h14 (ac h14 (ac h14 (ac h14 an))))))))))))))))))))))))))))))))))))))))))))))))))) tq
theorem r11Check_l10 (s : Sa) (s0 : Bool) (h0 : r11upto (s.blocks) (s.map) (s.gen) = some s0) (h1 : ((!s0)) = false) (h2 : ((decide (s.gen < (1 : Int)))) = false) (h2p : ¬ (s.gen < (1 : Int))) (h3 : ((decide (s.gen ≥ (2147483648 : Int)))) = false) (h3p : ¬ (s.gen ≥ (2147483648 : Int))) (h4 : ((decide ((↑(List.length s.points) : Int) > (4 : Int)))) = false) (h4p : ¬ ((↑(List.length s.points) : Int) > (4 : Int))) (h5 : ((decide (s.last < (0 : Int)))) = false) (h5p : ¬ (s.last < (0 : Int))) (h6 : ((decide (s.last ≥ (2147483648 : Int)))) = false) (h6p : ¬ (s.last ≥ (2147483648 : Int))) (h7 : ((decide ((↑(List.length s.staged) : Int) > (4000 : Int)))) = false) (h7p : ¬ ((↑(List.length s.staged) : Int) > (4000 : Int))) (s8 : Int × Int × Int) (h8 : Runs (r11Check_L0_step s s0) (((0 : Int), ((0 : Int), (0 : Int)))) s8) (h9 : ((decide (s8.2.2 < (↑(List.length s.points) : Int)))) = true) (h9p : (s8.2.2 < (↑(List.length s.points) : Int))) (h10 : (((0 : Int) ≤ s8.2.2) ∧ (s8.2.2 < (↑(List.length s.points) : Int)))) (s11 : Bool) (h11 : r11upto (s.blocks) ((poAt s.points (Int.toNat s8.2.2)).map) ((poAt s.points (Int.toNat s8.2.2)).gen) = some s11) (h12 : ((!s11)) = false) (h13 : ((decide ((poAt s.points (Int.toNat s8.2.2)).id ≤ s8.1))) = false) (h13p : ¬ ((poAt s.points (Int.toNat s8.2.2)).id ≤ s8.1)) (h14 : ((decide ((poAt s.points (Int.toNat s8.2.2)).id > s.last))) = false) (h14p : ¬ ((poAt s.points (Int.toNat s8.2.2)).id > s.last)) (h15 : ((decide ((poAt s.points (Int.toNat s8.2.2)).gen ≤ s8.2.1))) = true) (h15p : ((poAt s.points (Int.toNat s8.2.2)).gen ≤ s8.2.1)) : r11Check_G s ((110 : Int)) :=
  leafR vw_eq (k := 300) (r := []) (hs := hz [(12, [.fres (.b (s0))]), (4, [.no]), (1, [.no]), (2, [.no]), (1, [.no]), (1, [.no]), (1, [.no]), (2, [.no]), (1, [.no]), (1, [.no]), (1, [.no]), (2, [.no]), (1, [.no]), (1, [.no]), (1, [.no]), (1, [.no]), (2, [.no]), (1, [.no]), (1, [.no]), (1, [.no]), (2, [.no]), (1, [.no]), (1, [.no]), (1, [.no]), (2, [.no]), (1, [.no]), (1, [.no, .no]), (3, [.head (r11Check_L0_S s s0 s8)]), (6, [.yes]), (4, [.yes, .yes, .cells ((Po.cells (poAt s.points (Int.toNat s8.2.2))))]), (2, [.cells ([(AV.i (poAt s.points (Int.toNat s8.2.2)).id), (AV.i (poAt s.points (Int.toNat s8.2.2)).gen), (AV.sl (List.length (poAt s.points (Int.toNat s8.2.2)).map) (List.flatMap Ex.cells (poAt s.points (Int.toNat s8.2.2)).map))])]), (10, [.fres (.b (s11))]), (4, [.no]), (1, [.no]), (2, [.no]), (1, [.no]), (1, [.no]), (1, [.no]), (1, [.no]), (2, [.no]), (1, [.no]), (2, [.no]), (1, [.no]), (1, [.no]), (1, [.no]), (2, [.no]), (1, [.no]), (1, [.no]), (1, [.yes, .yes, .yes, .yes, .yes, .yes]), (2, [])]) (raw := (AV.i 110)) kq (ac (r11upto_ok (s.blocks) (s.map) (s.gen) _ h0).any0 (ac h1 (ac h1 (ac h1 (ac h1 (ac h2 (ac h2 (ac h2 (ac h2 (ac h3 (ac h3 (ac h3 (ac h3 (ac h3 (ac h4 (ac h4 (ac h4 (ac h4 (ac h5 (ac h5 (ac h5 (ac h5 (ac h6 (ac h6 (ac h6 (ac h6 (ac h6 (ac h7 (ac (show EvHead Try.prog cf (lp Try.prog 22 0) (r11Check_L0_I s s0) (r11Check_L0_S s s0 s8) from (EvHead.of (r11Check_L0_ok s s0) (absB_of [] [] kq (.consn kq (.agp pq) (.consn kq (.pt rfl) (.consn kq (.eqv tq rfl) (.consn kq (.eqv tq rfl) (.consn kq (.eqv tq rfl) (.consn kq (.eqv tq rfl) (.consn kq (.eqv tq rfl) .nil))))))) (.cons (.old rfl rfl (.cells (.pl rfl pq))) .nil)) h8)) (ac h9 (ac h10 (ac (fq (p := ((3 : Nat) ≤ (List.length (List.drop ((Int.toNat s8.2.2) * (3 : Nat)) (List.flatMap Po.cells s.points)))))) (ac (show (List.take 3 (List.drop ((Int.toNat s8.2.2) * (3 : Nat)) (List.flatMap Po.cells s.points))) = (Po.cells (poAt s.points (Int.toNat s8.2.2))) from (po_takeO bq bq)) (ac (Eq.refl ([(AV.i (poAt s.points (Int.toNat s8.2.2)).id), (AV.i (poAt s.points (Int.toNat s8.2.2)).gen), (AV.sl (List.length (poAt s.points (Int.toNat s8.2.2)).map) (List.flatMap Ex.cells (poAt s.points (Int.toNat s8.2.2)).map))] : List AV)) (ac (r11upto_ok (s.blocks) ((poAt s.points (Int.toNat s8.2.2)).map) ((poAt s.points (Int.toNat s8.2.2)).gen) _ h11).any0 (ac h12 (ac h12 (ac h12 (ac h12 (ac h12 (ac h13 (ac h13 (ac h13 (ac h13 (ac h13 (ac h13 (ac h14 (ac h14 (ac h14 (ac h14 (ac h14 (ac h15 (ac h15 (ac h15 (ac h15 (ac h15 (ac h15 an))))))))))))))))))))))))))))))))))))))))))))))))))))))))) tq
theorem r11Check_l11 (s : Sa) (s0 : Bool) (h0 : r11upto (s.blocks) (s.map) (s.gen) = some s0) (h1 : ((!s0)) = false) (h2 : ((decide (s.gen < (1 : Int)))) = false) (h2p : ¬ (s.gen < (1 : Int))) (h3 : ((decide (s.gen ≥ (2147483648 : Int)))) = false) (h3p : ¬ (s.gen ≥ (2147483648 : Int))) (h4 : ((decide ((↑(List.length s.points) : Int) > (4 : Int)))) = false) (h4p : ¬ ((↑(List.length s.points) : Int) > (4 : Int))) (h5 : ((decide (s.last < (0 : Int)))) = false) (h5p : ¬ (s.last < (0 : Int))) (h6 : ((decide (s.last ≥ (2147483648 : Int)))) = false) (h6p : ¬ (s.last ≥ (2147483648 : Int))) (h7 : ((decide ((↑(List.length s.staged) : Int) > (4000 : Int)))) = false) (h7p : ¬ ((↑(List.length s.staged) : Int) > (4000 : Int))) (s8 : Int × Int × Int) (h8 : Runs (r11Check_L0_step s s0) (((0 : Int), ((0 : Int), (0 : Int)))) s8) (h9 : ((decide (s8.2.2 < (↑(List.length s.points) : Int)))) = true) (h9p : (s8.2.2 < (↑(List.length s.points) : Int))) (h10 : (((0 : Int) ≤ s8.2.2) ∧ (s8.2.2 < (↑(List.length s.points) : Int)))) (s11 : Bool) (h11 : r11upto (s.blocks) ((poAt s.points (Int.toNat s8.2.2)).map) ((poAt s.points (Int.toNat s8.2.2)).gen) = some s11) (h12 : ((!s11)) = false) (h13 : ((decide ((poAt s.points (Int.toNat s8.2.2)).id ≤ s8.1))) = false) (h13p : ¬ ((poAt s.points (Int.toNat s8.2.2)).id ≤ s8.1)) (h14 : ((decide ((poAt s.points (Int.toNat s8.2.2)).id > s.last))) = false) (h14p : ¬ ((poAt s.points (Int.toNat s8.2.2)).id > s.last)) (h15 : ((decide ((poAt s.points (Int.toNat s8.2.2)).gen ≤ s8.2.1))) = false) (h15p : ¬ ((poAt s.points (Int.toNat s8.2.2)).gen ≤ s8.2.1)) (h16 : ((decide ((poAt s.points (Int.toNat s8.2.2)).gen ≥ s.gen))) = true) (h16p : ((poAt s.points (Int.toNat s8.2.2)).gen ≥ s.gen)) : r11Check_G s ((110 : Int)) :=
  leafR vw_eq (k := 300) (r := []) (hs := hz [(12, [.fres (.b (s0))]), (4, [.no]), (1, [.no]), (2, [.no]), (1, [.no]), (1, [.no]), (1, [.no]), (2, [.no]), (1, [.no]), (1, [.no]), (1, [.no]), (2, [.no]), (1, [.no]), (1, [.no]), (1, [.no]), (1, [.no]), (2, [.no]), (1, [.no]), (1, [.no]), (1, [.no]), (2, [.no]), (1, [.no]), (1, [.no]), (1, [.no]), (2, [.no]), (1, [.no]), (1, [.no, .no]), (3, [.head (r11Check_L0_S s s0 s8)]), (6, [.yes]), (4, [.yes, .yes, .cells ((Po.cells (poAt s.points (Int.toNat s8.2.2))))]), (2, [.cells ([(AV.i (poAt s.points (Int.toNat s8.2.2)).id), (AV.i (poAt s.points (Int.toNat s8.2.2)).gen), (AV.sl (List.length (poAt s.points (Int.toNat s8.2.2)).map) (List.flatMap Ex.cells (poAt s.points (Int.toNat s8.2.2)).map))])]), (10, [.fres (.b (s11))]), (4, [.no]), (1, [.no]), (2, [.no]), (1, [.no]), (1, [.no]), (1, [.no]), (1, [.no]), (2, [.no]), (1, [.no]), (2, [.no]), (1, [.no]), (1, [.no]), (1, [.no]), (2, [.no]), (1, [.no]), (1, [.no]), (1, [.no]), (1, [.no]), (2, [.no]), (1, [.no]), (2, [.no]), (1, [.no, .yes]), (1, [])]) (raw := (AV.i 110)) kq (ac (r11upto_ok (s.blocks) (s.map) (s.gen) _ h0).any0 (ac h1 (ac h1 (ac h1 (ac h1 (ac h2 (ac h2 (ac h2 (ac h2 (ac h3 (ac h3 (ac h3 (ac h3 (ac h3 (ac h4 (ac h4 (ac h4 (ac h4 (ac h5 (ac h5 (ac h5 (ac h5 (ac h6 (ac h6 (ac h6 (ac h6 (ac h6 (ac h7 (ac (show EvHead Try.prog cf (lp Try.prog 22 0) (r11Check_L0_I s s0) (r11Check_L0_S s s0 s8) from (EvHead.of (r11Check_L0_ok s s0) (absB_of [] [] kq (.consn kq (.agp pq) (.consn kq (.pt rfl) (.consn kq (.eqv tq rfl) (.consn kq (.eqv tq rfl) (.consn kq (.eqv tq rfl) (.consn kq (.eqv tq rfl) (.consn kq (.eqv tq rfl) .nil))))))) (.cons (.old rfl rfl (.cells (.pl rfl pq))) .nil)) h8)) (ac h9 (ac h10 (ac (fq (p := ((3 : Nat) ≤ (List.length (List.drop ((Int.toNat s8.2.2) * (3 : Nat)) (List.flatMap Po.cells s.points)))))) (ac (show (List.take 3 (List.drop ((Int.toNat s8.2.2) * (3 : Nat)) (List.flatMap Po.cells s.points))) = (Po.cells (poAt s.points (Int.toNat s8.2.2))) from (po_takeO bq bq)) (ac (Eq.refl ([(AV.i (poAt s.points (Int.toNat s8.2.2)).id), (AV.i (poAt s.points (Int.toNat s8.2.2)).gen), (AV.sl (List.length (poAt s.points (Int.toNat s8.2.2)).map) (List.flatMap Ex.cells (poAt s.points (Int.toNat s8.2.2)).map))] : List AV)) (ac (r11upto_ok (s.blocks) ((poAt s.points (Int.toNat s8.2.2)).map) ((poAt s.points (Int.toNat s8.2.2)).gen) _ h11).any0 (ac h12 (ac h12 (ac h12 (ac h12 (ac h12 (ac h13 (ac h13 (ac h13 (ac h13 (ac h13 (ac h13 (ac h14 (ac h14 (ac h14 (ac h14 (ac h14 (ac h15 (ac h15 (ac h15 (ac h15 (ac h15 (ac h15 (ac h16 an)))))))))))))))))))))))))))))))))))))))))))))))))))))))))) tq
theorem r11Check_l12 (s : Sa) (s0 : Bool) (h0 : r11upto (s.blocks) (s.map) (s.gen) = some s0) (h1 : ((!s0)) = false) (h2 : ((decide (s.gen < (1 : Int)))) = false) (h2p : ¬ (s.gen < (1 : Int))) (h3 : ((decide (s.gen ≥ (2147483648 : Int)))) = false) (h3p : ¬ (s.gen ≥ (2147483648 : Int))) (h4 : ((decide ((↑(List.length s.points) : Int) > (4 : Int)))) = false) (h4p : ¬ ((↑(List.length s.points) : Int) > (4 : Int))) (h5 : ((decide (s.last < (0 : Int)))) = false) (h5p : ¬ (s.last < (0 : Int))) (h6 : ((decide (s.last ≥ (2147483648 : Int)))) = false) (h6p : ¬ (s.last ≥ (2147483648 : Int))) (h7 : ((decide ((↑(List.length s.staged) : Int) > (4000 : Int)))) = false) (h7p : ¬ ((↑(List.length s.staged) : Int) > (4000 : Int))) (s8 : Int × Int × Int) (h8 : Runs (r11Check_L0_step s s0) (((0 : Int), ((0 : Int), (0 : Int)))) s8) (h9 : ((decide (s8.2.2 < (↑(List.length s.points) : Int)))) = true) (h9p : (s8.2.2 < (↑(List.length s.points) : Int))) (h10 : (((0 : Int) ≤ s8.2.2) ∧ (s8.2.2 < (↑(List.length s.points) : Int)))) (s11 : Bool) (h11 : r11upto (s.blocks) ((poAt s.points (Int.toNat s8.2.2)).map) ((poAt s.points (Int.toNat s8.2.2)).gen) = some s11) (h12 : ((!s11)) = false) (h13 : ((decide ((poAt s.points (Int.toNat s8.2.2)).id ≤ s8.1))) = false) (h13p : ¬ ((poAt s.points (Int.toNat s8.2.2)).id ≤ s8.1)) (h14 : ((decide ((poAt s.points (Int.toNat s8.2.2)).id > s.last))) = false) (h14p : ¬ ((poAt s.points (Int.toNat s8.2.2)).id > s.last)) (h15 : ((decide ((poAt s.points (Int.toNat s8.2.2)).gen ≤ s8.2.1))) = false) (h15p : ¬ ((poAt s.points (Int.toNat s8.2.2)).gen ≤ s8.2.1)) (h16 : ((decide ((poAt s.points (Int.toNat s8.2.2)).gen ≥ s.gen))) = false) (h16p : ¬ ((poAt s.points (Int.toNat s8.2.2)).gen ≥ s.gen)) (h17 : ((decide (s8.2.2 > (0 : Int)))) = true) (h17p : (s8.2.2 > (0 : Int))) (h18 : (((0 : Int) ≤ (wr (s8.2.2 - (1 : Int)))) ∧ ((wr (s8.2.2 - (1 : Int))) < (↑(List.length s.points) : Int)))) (s19 : Bool) (h19 : r11kept (s.blocks) ((poAt s.points (Int.toNat (wr (s8.2.2 - (1 : Int))))).map) ((poAt s.points (Int.toNat s8.2.2)).map) (s8.2.1) = some s19) (h20 : ((!s19)) = true) : r11Check_G s ((110 : Int)) :=
  leafR vw_eq (k := 300) (r := []) (hs := hz [(12, [.fres (.b (s0))]), (4, [.no]), (1, [.no]), (2, [.no]), (1, [.no]), (1, [.no]), (1, [.no]), (2, [.no]), (1, [.no]), (1, [.no]), (1, [.no]), (2, [.no]), (1, [.no]), (1, [.no]), (1, [.no]), (1, [.no]), (2, [.no]), (1, [.no]), (1, [.no]), (1, [.no]), (2, [.no]), (1, [.no]), (1, [.no]), (1, [.no]), (2, [.no]), (1, [.no]), (1, [.no, .no]), (3, [.head (r11Check_L0_S s s0 s8)]), (6, [.yes]), (4, [.yes, .yes, .cells ((Po.cells (poAt s.points (Int.toNat s8.2.2))))]), (2, [.cells ([(AV.i (poAt s.points (Int.toNat s8.2.2)).id), (AV.i (poAt s.points (Int.toNat s8.2.2)).gen), (AV.sl (List.length (poAt s.points (Int.toNat s8.2.2)).map) (List.flatMap Ex.cells (poAt s.points (Int.toNat s8.2.2)).map))])]), (10, [.fres (.b (s11))]), (4, [.no]), (1, [.no]), (2, [.no]), (1, [.no]), (1, [.no]), (1, [.no]), (1, [.no]), (2, [.no]), (1, [.no]), (2, [.no]), (1, [.no]), (1, [.no]), (1, [.no]), (2, [.no]), (1, [.no]), (1, [.no]), (1, [.no]), (1, [.no]), (2, [.no]), (1, [.no]), (2, [.no]), (1, [.no, .no]), (2, [.yes]), (8, [.yes]), (1, [.yes, .val ((exs (poAt s.points (Int.toNat (wr (s8.2.2 - (1 : Int))))).map))]), (5, [.fres (.b (s19))]), (1, [.yes]), (2, [.yes]), (1, [])]) (raw := (AV.i 110)) kq (ac (r11upto_ok (s.blocks) (s.map) (s.gen) _ h0).any0 (ac h1 (ac h1 (ac h1 (ac h1 (ac h2 (ac h2 (ac h2 (ac h2 (ac h3 (ac h3 (ac h3 (ac h3 (ac h3 (ac h4 (ac h4 (ac h4 (ac h4 (ac h5 (ac h5 (ac h5 (ac h5 (ac h6 (ac h6 (ac h6 (ac h6 (ac h6 (ac h7 (ac (show EvHead Try.prog cf (lp Try.prog 22 0) (r11Check_L0_I s s0) (r11Check_L0_S s s0 s8) from (EvHead.of (r11Check_L0_ok s s0) (absB_of [] [] kq (.consn kq (.agp pq) (.consn kq (.pt rfl) (.consn kq (.eqv tq rfl) (.consn kq (.eqv tq rfl) (.consn kq (.eqv tq rfl) (.consn kq (.eqv tq rfl) (.consn kq (.eqv tq rfl) .nil))))))) (.cons (.old rfl rfl (.cells (.pl rfl pq))) .nil)) h8)) (ac h9 (ac h10 (ac (fq (p := ((3 : Nat) ≤ (List.length (List.drop ((Int.toNat s8.2.2) * (3 : Nat)) (List.flatMap Po.cells s.points)))))) (ac (show (List.take 3 (List.drop ((Int.toNat s8.2.2) * (3 : Nat)) (List.flatMap Po.cells s.points))) = (Po.cells (poAt s.points (Int.toNat s8.2.2))) from (po_takeO bq bq)) (ac (Eq.refl ([(AV.i (poAt s.points (Int.toNat s8.2.2)).id), (AV.i (poAt s.points (Int.toNat s8.2.2)).gen), (AV.sl (List.length (poAt s.points (Int.toNat s8.2.2)).map) (List.flatMap Ex.cells (poAt s.points (Int.toNat s8.2.2)).map))] : List AV)) (ac (r11upto_ok (s.blocks) ((poAt s.points (Int.toNat s8.2.2)).map) ((poAt s.points (Int.toNat s8.2.2)).gen) _ h11).any0 (ac h12 (ac h12 (ac h12 (ac h12 (ac h12 (ac h13 (ac h13 (ac h13 (ac h13 (ac h13 (ac h13 (ac h14 (ac h14 (ac h14 (ac h14 (ac h14 (ac h15 (ac h15 (ac h15 (ac h15 (ac h15 (ac h15 (ac h16 (ac h17 (ac h18 (ac (fq (p := ((1 : Nat) ≤ (List.length (List.drop 2 (List.drop ((Int.toNat (wr (s8.2.2 - (1 : Int)))) * (3 : Nat)) (List.flatMap Po.cells s.points))))))) (ac (show (List.take 1 (List.drop 2 (List.drop ((Int.toNat (wr (s8.2.2 - (1 : Int)))) * (3 : Nat)) (List.flatMap Po.cells s.points)))) = [(exs (poAt s.points (Int.toNat (wr (s8.2.2 - (1 : Int))))).map)] from (by first | exact po_one _ _ _ _ bq rfl | exact po_oneA _ _ _ _ bq rfl | (simpa using po_one (s.points) ((Int.toNat (wr (s8.2.2 - (1 : Int))))) 2 _ bq rfl) | ((try simp only [List.drop_drop]); rw [show ((2 : Nat) + ((Int.toNat (wr (s8.2.2 - (1 : Int)))) * (3 : Nat))) = ((Int.toNat (wr (s8.2.2 - (1 : Int))))) * 3 + 2 by omega]; exact po_oneA (s.points) ((Int.toNat (wr (s8.2.2 - (1 : Int))))) 2 _ bq rfl))) (ac (r11kept_ok (s.blocks) ((poAt s.points (Int.toNat (wr (s8.2.2 - (1 : Int))))).map) ((poAt s.points (Int.toNat s8.2.2)).map) (s8.2.1) _ h19).any0 (ac (show orderOk (rg Try.prog 22 0) = true ∧ allOk (Region.before (rg Try.prog 22 0)) [] 0 [(some [], some []), (some [0], some []), (some [], some []), (some [0], some []), (some [], some []), (some [], some []), (some [], some []), (some [], some []), (some [], some []), (some [], some []), (some [1], some []), (some [], some []), (some [], some []), (some [], some [])] = true from (ord_of ord_22_0 bef_22_0 kq)) (ac h20 an))))))))))))))))))))))))))))))))))))))))))))))))))))))))))))))))) tq
theorem r11Check_l13 (s : Sa) (s0 : Bool) (h0 : r11upto (s.blocks) (s.map) (s.gen) = some s0) (h1 : ((!s0)) = false) (h2 : ((decide (s.gen < (1 : Int)))) = false) (h2p : ¬ (s.gen < (1 : Int))) (h3 : ((decide (s.gen ≥ (2147483648 : Int)))) = false) (h3p : ¬ (s.gen ≥ (2147483648 : Int))) (h4 : ((decide ((↑(List.length s.points) : Int) > (4 : Int)))) = false) (h4p : ¬ ((↑(List.length s.points) : Int) > (4 : Int))) (h5 : ((decide (s.last < (0 : Int)))) = false) (h5p : ¬ (s.last < (0 : Int))) (h6 : ((decide (s.last ≥ (2147483648 : Int)))) = false) (h6p : ¬ (s.last ≥ (2147483648 : Int))) (h7 : ((decide ((↑(List.length s.staged) : Int) > (4000 : Int)))) = false) (h7p : ¬ ((↑(List.length s.staged) : Int) > (4000 : Int))) (s8 : Int × Int × Int) (h8 : Runs (r11Check_L0_step s s0) (((0 : Int), ((0 : Int), (0 : Int)))) s8) (h9 : ((decide (s8.2.2 < (↑(List.length s.points) : Int)))) = false) (h9p : ¬ (s8.2.2 < (↑(List.length s.points) : Int))) (h10 : ((decide ((↑(List.length s.points) : Int) > (0 : Int)))) = true) (h10p : ((↑(List.length s.points) : Int) > (0 : Int))) (h11 : (((0 : Int) ≤ (wr ((↑(List.length s.points) : Int) - (1 : Int)))) ∧ ((wr ((↑(List.length s.points) : Int) - (1 : Int))) < (↑(List.length s.points) : Int)))) (s12 : Bool) (h12 : r11kept (s.blocks) ((poAt s.points (Int.toNat (wr ((↑(List.length s.points) : Int) - (1 : Int))))).map) (s.map) (s8.2.1) = some s12) (h13 : ((!s12)) = true) : r11Check_G s ((110 : Int)) :=
  leafR vw_eq (k := 300) (r := []) (hs := hz [(12, [.fres (.b (s0))]), (4, [.no]), (1, [.no]), (2, [.no]), (1, [.no]), (1, [.no]), (1, [.no]), (2, [.no]), (1, [.no]), (1, [.no]), (1, [.no]), (2, [.no]), (1, [.no]), (1, [.no]), (1, [.no]), (1, [.no]), (2, [.no]), (1, [.no]), (1, [.no]), (1, [.no]), (2, [.no]), (1, [.no]), (1, [.no]), (1, [.no]), (2, [.no]), (1, [.no]), (1, [.no, .no]), (3, [.head (r11Check_L0_S s s0 s8)]), (6, [.no]), (5, [.yes]), (11, [.yes]), (1, [.yes, .val ((exs (poAt s.points (Int.toNat (wr ((↑(List.length s.points) : Int) - (1 : Int))))).map))]), (5, [.fres (.b (s12))]), (1, [.yes]), (2, [.yes]), (1, [])]) (raw := (AV.i 110)) kq (ac (r11upto_ok (s.blocks) (s.map) (s.gen) _ h0).any0 (ac h1 (ac h1 (ac h1 (ac h1 (ac h2 (ac h2 (ac h2 (ac h2 (ac h3 (ac h3 (ac h3 (ac h3 (ac h3 (ac h4 (ac h4 (ac h4 (ac h4 (ac h5 (ac h5 (ac h5 (ac h5 (ac h6 (ac h6 (ac h6 (ac h6 (ac h6 (ac h7 (ac (show EvHead Try.prog cf (lp Try.prog 22 0) (r11Check_L0_I s s0) (r11Check_L0_S s s0 s8) from (EvHead.of (r11Check_L0_ok s s0) (absB_of [] [] kq (.consn kq (.agp pq) (.consn kq (.pt rfl) (.consn kq (.eqv tq rfl) (.consn kq (.eqv tq rfl) (.consn kq (.eqv tq rfl) (.consn kq (.eqv tq rfl) (.consn kq (.eqv tq rfl) .nil))))))) (.cons (.old rfl rfl (.cells (.pl rfl pq))) .nil)) h8)) (ac h9 (ac h10 (ac h11 (ac (fq (p := ((1 : Nat) ≤ (List.length (List.drop 2 (List.drop ((Int.toNat (wr ((↑(List.length s.points) : Int) - (1 : Int)))) * (3 : Nat)) (List.flatMap Po.cells s.points))))))) (ac (show (List.take 1 (List.drop 2 (List.drop ((Int.toNat (wr ((↑(List.length s.points) : Int) - (1 : Int)))) * (3 : Nat)) (List.flatMap Po.cells s.points)))) = [(exs (poAt s.points (Int.toNat (wr ((↑(List.length s.points) : Int) - (1 : Int))))).map)] from (by first | exact po_one _ _ _ _ bq rfl | exact po_oneA _ _ _ _ bq rfl | (simpa using po_one (s.points) ((Int.toNat (wr ((↑(List.length s.points) : Int) - (1 : Int))))) 2 _ bq rfl) | ((try simp only [List.drop_drop]); rw [show ((2 : Nat) + ((Int.toNat (wr ((↑(List.length s.points) : Int) - (1 : Int)))) * (3 : Nat))) = ((Int.toNat (wr ((↑(List.length s.points) : Int) - (1 : Int))))) * 3 + 2 by omega]; exact po_oneA (s.points) ((Int.toNat (wr ((↑(List.length s.points) : Int) - (1 : Int))))) 2 _ bq rfl))) (ac (r11kept_ok (s.blocks) ((poAt s.points (Int.toNat (wr ((↑(List.length s.points) : Int) - (1 : Int))))).map) (s.map) (s8.2.1) _ h12).any0 (ac (show orderOk (rg Try.prog 22 1) = true ∧ allOk (Region.before (rg Try.prog 22 1)) [] 0 [(some [], some []), (some [0], some []), (some [], some []), (some [0], some []), (some [], some []), (some [0], some []), (some [], some []), (some [], some []), (some [], some []), (some [], some []), (some [], some []), (some [], some []), (some [0], some []), (some [], some []), (some [], some []), (some [], some [])] = true from (ord_of ord_22_1 bef_22_1 kq)) (ac h13 an))))))))))))))))))))))))))))))))))))) tq
theorem r11Check_l14 (s : Sa) (s0 : Bool) (h0 : r11upto (s.blocks) (s.map) (s.gen) = some s0) (h1 : ((!s0)) = false) (h2 : ((decide (s.gen < (1 : Int)))) = false) (h2p : ¬ (s.gen < (1 : Int))) (h3 : ((decide (s.gen ≥ (2147483648 : Int)))) = false) (h3p : ¬ (s.gen ≥ (2147483648 : Int))) (h4 : ((decide ((↑(List.length s.points) : Int) > (4 : Int)))) = false) (h4p : ¬ ((↑(List.length s.points) : Int) > (4 : Int))) (h5 : ((decide (s.last < (0 : Int)))) = false) (h5p : ¬ (s.last < (0 : Int))) (h6 : ((decide (s.last ≥ (2147483648 : Int)))) = false) (h6p : ¬ (s.last ≥ (2147483648 : Int))) (h7 : ((decide ((↑(List.length s.staged) : Int) > (4000 : Int)))) = false) (h7p : ¬ ((↑(List.length s.staged) : Int) > (4000 : Int))) (s8 : Int × Int × Int) (h8 : Runs (r11Check_L0_step s s0) (((0 : Int), ((0 : Int), (0 : Int)))) s8) (h9 : ((decide (s8.2.2 < (↑(List.length s.points) : Int)))) = false) (h9p : ¬ (s8.2.2 < (↑(List.length s.points) : Int))) (h10 : ((decide ((↑(List.length s.points) : Int) > (0 : Int)))) = true) (h10p : ((↑(List.length s.points) : Int) > (0 : Int))) (h11 : (((0 : Int) ≤ (wr ((↑(List.length s.points) : Int) - (1 : Int)))) ∧ ((wr ((↑(List.length s.points) : Int) - (1 : Int))) < (↑(List.length s.points) : Int)))) (s12 : Bool) (h12 : r11kept (s.blocks) ((poAt s.points (Int.toNat (wr ((↑(List.length s.points) : Int) - (1 : Int))))).map) (s.map) (s8.2.1) = some s12) (h13 : ((!s12)) = false) : r11Check_G s ((0 : Int)) :=
  leafR vw_eq (k := 300) (r := []) (hs := hz [(12, [.fres (.b (s0))]), (4, [.no]), (1, [.no]), (2, [.no]), (1, [.no]), (1, [.no]), (1, [.no]), (2, [.no]), (1, [.no]), (1, [.no]), (1, [.no]), (2, [.no]), (1, [.no]), (1, [.no]), (1, [.no]), (1, [.no]), (2, [.no]), (1, [.no]), (1, [.no]), (1, [.no]), (2, [.no]), (1, [.no]), (1, [.no]), (1, [.no]), (2, [.no]), (1, [.no]), (1, [.no, .no]), (3, [.head (r11Check_L0_S s s0 s8)]), (6, [.no]), (5, [.yes]), (11, [.yes]), (1, [.yes, .val ((exs (poAt s.points (Int.toNat (wr ((↑(List.length s.points) : Int) - (1 : Int))))).map))]), (5, [.fres (.b (s12))]), (1, [.yes]), (2, [.no]), (1, [])]) (raw := (AV.i 0)) kq (ac (r11upto_ok (s.blocks) (s.map) (s.gen) _ h0).any0 (ac h1 (ac h1 (ac h1 (ac h1 (ac h2 (ac h2 (ac h2 (ac h2 (ac h3 (ac h3 (ac h3 (ac h3 (ac h3 (ac h4 (ac h4 (ac h4 (ac h4 (ac h5 (ac h5 (ac h5 (ac h5 (ac h6 (ac h6 (ac h6 (ac h6 (ac h6 (ac h7 (ac (show EvHead Try.prog cf (lp Try.prog 22 0) (r11Check_L0_I s s0) (r11Check_L0_S s s0 s8) from (EvHead.of (r11Check_L0_ok s s0) (absB_of [] [] kq (.consn kq (.agp pq) (.consn kq (.pt rfl) (.consn kq (.eqv tq rfl) (.consn kq (.eqv tq rfl) (.consn kq (.eqv tq rfl) (.consn kq (.eqv tq rfl) (.consn kq (.eqv tq rfl) .nil))))))) (.cons (.old rfl rfl (.cells (.pl rfl pq))) .nil)) h8)) (ac h9 (ac h10 (ac h11 (ac (fq (p := ((1 : Nat) ≤ (List.length (List.drop 2 (List.drop ((Int.toNat (wr ((↑(List.length s.points) : Int) - (1 : Int)))) * (3 : Nat)) (List.flatMap Po.cells s.points))))))) (ac (show (List.take 1 (List.drop 2 (List.drop ((Int.toNat (wr ((↑(List.length s.points) : Int) - (1 : Int)))) * (3 : Nat)) (List.flatMap Po.cells s.points)))) = [(exs (poAt s.points (Int.toNat (wr ((↑(List.length s.points) : Int) - (1 : Int))))).map)] from (by first | exact po_one _ _ _ _ bq rfl | exact po_oneA _ _ _ _ bq rfl | (simpa using po_one (s.points) ((Int.toNat (wr ((↑(List.length s.points) : Int) - (1 : Int))))) 2 _ bq rfl) | ((try simp only [List.drop_drop]); rw [show ((2 : Nat) + ((Int.toNat (wr ((↑(List.length s.points) : Int) - (1 : Int)))) * (3 : Nat))) = ((Int.toNat (wr ((↑(List.length s.points) : Int) - (1 : Int))))) * 3 + 2 by omega]; exact po_oneA (s.points) ((Int.toNat (wr ((↑(List.length s.points) : Int) - (1 : Int))))) 2 _ bq rfl))) (ac (r11kept_ok (s.blocks) ((poAt s.points (Int.toNat (wr ((↑(List.length s.points) : Int) - (1 : Int))))).map) (s.map) (s8.2.1) _ h12).any0 (ac (show orderOk (rg Try.prog 22 1) = true ∧ allOk (Region.before (rg Try.prog 22 1)) [] 0 [(some [], some []), (some [0], some []), (some [], some []), (some [0], some []), (some [], some []), (some [0], some []), (some [], some []), (some [], some []), (some [], some []), (some [], some []), (some [], some []), (some [], some []), (some [0], some []), (some [], some []), (some [], some []), (some [], some [])] = true from (ord_of ord_22_1 bef_22_1 kq)) (ac h13 an))))))))))))))))))))))))))))))))))))) tq
theorem r11Check_l15 (s : Sa) (s0 : Bool) (h0 : r11upto (s.blocks) (s.map) (s.gen) = some s0) (h1 : ((!s0)) = false) (h2 : ((decide (s.gen < (1 : Int)))) = false) (h2p : ¬ (s.gen < (1 : Int))) (h3 : ((decide (s.gen ≥ (2147483648 : Int)))) = false) (h3p : ¬ (s.gen ≥ (2147483648 : Int))) (h4 : ((decide ((↑(List.length s.points) : Int) > (4 : Int)))) = false) (h4p : ¬ ((↑(List.length s.points) : Int) > (4 : Int))) (h5 : ((decide (s.last < (0 : Int)))) = false) (h5p : ¬ (s.last < (0 : Int))) (h6 : ((decide (s.last ≥ (2147483648 : Int)))) = false) (h6p : ¬ (s.last ≥ (2147483648 : Int))) (h7 : ((decide ((↑(List.length s.staged) : Int) > (4000 : Int)))) = false) (h7p : ¬ ((↑(List.length s.staged) : Int) > (4000 : Int))) (s8 : Int × Int × Int) (h8 : Runs (r11Check_L0_step s s0) (((0 : Int), ((0 : Int), (0 : Int)))) s8) (h9 : ((decide (s8.2.2 < (↑(List.length s.points) : Int)))) = false) (h9p : ¬ (s8.2.2 < (↑(List.length s.points) : Int))) (h10 : ((decide ((↑(List.length s.points) : Int) > (0 : Int)))) = false) (h10p : ¬ ((↑(List.length s.points) : Int) > (0 : Int))) : r11Check_G s ((0 : Int)) :=
  leafR vw_eq (k := 300) (r := []) (hs := hz [(12, [.fres (.b (s0))]), (4, [.no]), (1, [.no]), (2, [.no]), (1, [.no]), (1, [.no]), (1, [.no]), (2, [.no]), (1, [.no]), (1, [.no]), (1, [.no]), (2, [.no]), (1, [.no]), (1, [.no]), (1, [.no]), (1, [.no]), (2, [.no]), (1, [.no]), (1, [.no]), (1, [.no]), (2, [.no]), (1, [.no]), (1, [.no]), (1, [.no]), (2, [.no]), (1, [.no]), (1, [.no, .no]), (3, [.head (r11Check_L0_S s s0 s8)]), (6, [.no]), (5, [.no]), (1, [])]) (raw := (AV.i 0)) kq (ac (r11upto_ok (s.blocks) (s.map) (s.gen) _ h0).any0 (ac h1 (ac h1 (ac h1 (ac h1 (ac h2 (ac h2 (ac h2 (ac h2 (ac h3 (ac h3 (ac h3 (ac h3 (ac h3 (ac h4 (ac h4 (ac h4 (ac h4 (ac h5 (ac h5 (ac h5 (ac h5 (ac h6 (ac h6 (ac h6 (ac h6 (ac h6 (ac h7 (ac (show EvHead Try.prog cf (lp Try.prog 22 0) (r11Check_L0_I s s0) (r11Check_L0_S s s0 s8) from (EvHead.of (r11Check_L0_ok s s0) (absB_of [] [] kq (.consn kq (.agp pq) (.consn kq (.pt rfl) (.consn kq (.eqv tq rfl) (.consn kq (.eqv tq rfl) (.consn kq (.eqv tq rfl) (.consn kq (.eqv tq rfl) (.consn kq (.eqv tq rfl) .nil))))))) (.cons (.old rfl rfl (.cells (.pl rfl pq))) .nil)) h8)) (ac h9 (ac h10 an))))))))))))))))))))))))))))))) tq
theorem r11Check_ok (s : Sa) (r : Int) : r11Check s = some r → r11Check_G s r := by
  unfold r11Check
  refine tc_ok (fun s0 h0 => ?_)
  refine tb_ok (fun h1 => ?_) (fun h1 => ?_)
  ·
    exact fun e => tl_ok (G := r11Check_G s) (r11Check_l0 s s0 h0 h1) e
  ·
    refine tb_ok (fun h2 => ?_) (fun h2 => ?_)
    ·
      have h2p := of_decide_eq_true h2
      exact fun e => tl_ok (G := r11Check_G s) (r11Check_l1 s s0 h0 h1 h2 h2p) e
    ·
      have h2p := of_decide_eq_false h2
      refine tb_ok (fun h3 => ?_) (fun h3 => ?_)
      ·
        have h3p := of_decide_eq_true h3
        exact fun e => tl_ok (G := r11Check_G s) (r11Check_l2 s s0 h0 h1 h2 h2p h3 h3p) e
      ·
        have h3p := of_decide_eq_false h3
        refine tb_ok (fun h4 => ?_) (fun h4 => ?_)
        ·
          have h4p := of_decide_eq_true h4
          exact fun e => tl_ok (G := r11Check_G s) (r11Check_l3 s s0 h0 h1 h2 h2p h3 h3p h4 h4p) e
        ·
          have h4p := of_decide_eq_false h4
          refine tb_ok (fun h5 => ?_) (fun h5 => ?_)
          ·
            have h5p := of_decide_eq_true h5
            exact fun e => tl_ok (G := r11Check_G s) (r11Check_l4 s s0 h0 h1 h2 h2p h3 h3p h4 h4p h5 h5p) e
          ·
            have h5p := of_decide_eq_false h5
            refine tb_ok (fun h6 => ?_) (fun h6 => ?_)
            ·
              have h6p := of_decide_eq_true h6
              exact fun e => tl_ok (G := r11Check_G s) (r11Check_l5 s s0 h0 h1 h2 h2p h3 h3p h4 h4p h5 h5p h6 h6p) e
            ·
              have h6p := of_decide_eq_false h6
              refine tb_ok (fun h7 => ?_) (fun h7 => ?_)
              ·
                have h7p := of_decide_eq_true h7
                exact fun e => tl_ok (G := r11Check_G s) (r11Check_l6 s s0 h0 h1 h2 h2p h3 h3p h4 h4p h5 h5p h6 h6p h7 h7p) e
              ·
                have h7p := of_decide_eq_false h7
                refine th_ok (fun s8 h8 => ?_)
                refine tb_ok (fun h9 => ?_) (fun h9 => ?_)
                ·
                  have h9p := of_decide_eq_true h9
                  refine tp_ok (fun h10 => ?_)
                  refine tc_ok (fun s11 h11 => ?_)
                  refine tb_ok (fun h12 => ?_) (fun h12 => ?_)
                  ·
                    exact fun e => tl_ok (G := r11Check_G s) (r11Check_l7 s s0 h0 h1 h2 h2p h3 h3p h4 h4p h5 h5p h6 h6p h7 h7p s8 h8 h9 h9p h10 s11 h11 h12) e
                  ·
                    refine tb_ok (fun h13 => ?_) (fun h13 => ?_)
                    ·
                      have h13p := of_decide_eq_true h13
                      exact fun e => tl_ok (G := r11Check_G s) (r11Check_l8 s s0 h0 h1 h2 h2p h3 h3p h4 h4p h5 h5p h6 h6p h7 h7p s8 h8 h9 h9p h10 s11 h11 h12 h13 h13p) e
                    ·
                      have h13p := of_decide_eq_false h13
                      refine tb_ok (fun h14 => ?_) (fun h14 => ?_)
                      ·
                        have h14p := of_decide_eq_true h14
                        exact fun e => tl_ok (G := r11Check_G s) (r11Check_l9 s s0 h0 h1 h2 h2p h3 h3p h4 h4p h5 h5p h6 h6p h7 h7p s8 h8 h9 h9p h10 s11 h11 h12 h13 h13p h14 h14p) e
                      ·
                        have h14p := of_decide_eq_false h14
                        refine tb_ok (fun h15 => ?_) (fun h15 => ?_)
                        ·
                          have h15p := of_decide_eq_true h15
                          exact fun e => tl_ok (G := r11Check_G s) (r11Check_l10 s s0 h0 h1 h2 h2p h3 h3p h4 h4p h5 h5p h6 h6p h7 h7p s8 h8 h9 h9p h10 s11 h11 h12 h13 h13p h14 h14p h15 h15p) e
                        ·
                          have h15p := of_decide_eq_false h15
                          refine tb_ok (fun h16 => ?_) (fun h16 => ?_)
                          ·
                            have h16p := of_decide_eq_true h16
                            exact fun e => tl_ok (G := r11Check_G s) (r11Check_l11 s s0 h0 h1 h2 h2p h3 h3p h4 h4p h5 h5p h6 h6p h7 h7p s8 h8 h9 h9p h10 s11 h11 h12 h13 h13p h14 h14p h15 h15p h16 h16p) e
                          ·
                            have h16p := of_decide_eq_false h16
                            refine tb_ok (fun h17 => ?_) (fun h17 => ?_)
                            ·
                              have h17p := of_decide_eq_true h17
                              refine tp_ok (fun h18 => ?_)
                              refine tc_ok (fun s19 h19 => ?_)
                              refine tb_ok (fun h20 => ?_) (fun h20 => ?_)
                              ·
                                exact fun e => tl_ok (G := r11Check_G s) (r11Check_l12 s s0 h0 h1 h2 h2p h3 h3p h4 h4p h5 h5p h6 h6p h7 h7p s8 h8 h9 h9p h10 s11 h11 h12 h13 h13p h14 h14p h15 h15p h16 h16p h17 h17p h18 s19 h19 h20) e
                              ·
                                exact fun e => nomatch e
                            ·
                              have h17p := of_decide_eq_false h17
                              exact fun e => nomatch e
                ·
                  have h9p := of_decide_eq_false h9
                  refine tb_ok (fun h10 => ?_) (fun h10 => ?_)
                  ·
                    have h10p := of_decide_eq_true h10
                    refine tp_ok (fun h11 => ?_)
                    refine tc_ok (fun s12 h12 => ?_)
                    refine tb_ok (fun h13 => ?_) (fun h13 => ?_)
                    ·
                      exact fun e => tl_ok (G := r11Check_G s) (r11Check_l13 s s0 h0 h1 h2 h2p h3 h3p h4 h4p h5 h5p h6 h6p h7 h7p s8 h8 h9 h9p h10 h10p h11 s12 h12 h13) e
                    ·
                      exact fun e => tl_ok (G := r11Check_G s) (r11Check_l14 s s0 h0 h1 h2 h2p h3 h3p h4 h4p h5 h5p h6 h6p h7 h7p s8 h8 h9 h9p h10 h10p h11 s12 h12 h13) e
                  ·
                    have h10p := of_decide_eq_false h10
                    exact fun e => tl_ok (G := r11Check_G s) (r11Check_l15 s s0 h0 h1 h2 h2p h3 h3p h4 h4p h5 h5p h6 h6p h7 h7p s8 h8 h9 h9p h10 h10p) e
/-- Function 40, as it answers. -/
noncomputable def r8New (blocks : Int) : Option (List Ex × Int) :=
 (tb ((decide (blocks < (1 : Int))))
  (some ((([] : List Ex), (81 : Int))))
  (tb ((decide (blocks > (64 : Int))))
   (some ((([] : List Ex), (81 : Int))))
   (some (([(Ex.mk 0 blocks 0 0 ([] : List UInt8))], (0 : Int))))))
abbrev r8New_G (blocks : Int) (r : List Ex × Int) : Prop := EvFr Try.prog cf false 40 [.i (blocks)] (.tu [exs (r.1), .i (r.2)])
theorem r8New_l0 (blocks : Int) (h0 : ((decide (blocks < (1 : Int)))) = true) (h0p : (blocks < (1 : Int))) : r8New_G blocks ((([] : List Ex), (81 : Int))) :=
  leafR vw_eq (k := 300) (r := []) (hs := hz [(5, [.yes, .yes, .yes]), (3, [])]) (raw := (AV.tu [(AV.sl 0 ([] : List AV)), (AV.i 81)])) kq (ac h0 (ac h0 (ac h0 an))) tq
theorem r8New_l1 (blocks : Int) (h0 : ((decide (blocks < (1 : Int)))) = false) (h0p : ¬ (blocks < (1 : Int))) (h1 : ((decide (blocks > (64 : Int)))) = true) (h1p : (blocks > (64 : Int))) : r8New_G blocks ((([] : List Ex), (81 : Int))) :=
  leafR vw_eq (k := 300) (r := []) (hs := hz [(5, [.no]), (1, [.no]), (1, [.no, .yes]), (2, [])]) (raw := (AV.tu [(AV.sl 0 ([] : List AV)), (AV.i 81)])) kq (ac h0 (ac h0 (ac h0 (ac h1 an)))) tq
theorem r8New_l2 (blocks : Int) (h0 : ((decide (blocks < (1 : Int)))) = false) (h0p : ¬ (blocks < (1 : Int))) (h1 : ((decide (blocks > (64 : Int)))) = false) (h1p : ¬ (blocks > (64 : Int))) : r8New_G blocks (([(Ex.mk 0 blocks 0 0 ([] : List UInt8))], (0 : Int))) :=
  leafR vw_eq (k := 300) (r := []) (hs := hz [(5, [.no]), (1, [.no]), (1, [.no, .no]), (3, [.cells ([(AV.i 0), (AV.i blocks), (AV.i 0), (AV.i 0), AV.nl]), .cells ([(AV.i 0), (AV.i blocks), (AV.i 0), (AV.i 0), AV.nl])]), (2, [.yes]), (1, [])]) (raw := (AV.tu [(AV.sl 1 [(AV.i 0), (AV.i blocks), (AV.i 0), (AV.i 0), (AV.sl 0 ([] : List AV))]), (AV.i 0)])) kq (ac h0 (ac h0 (ac h0 (ac h1 (ac (Eq.refl ([(AV.i 0), (AV.i blocks), (AV.i 0), (AV.i 0), AV.nl] : List AV)) (ac (Eq.refl ([(AV.i 0), (AV.i blocks), (AV.i 0), (AV.i 0), AV.nl] : List AV)) (ac (tq (p := (((0 : Nat) = (0 : Nat)) ∧ ((List.length [(AV.i 0), (AV.i blocks), (AV.i (Int.ofNat 0)), (AV.i (Int.ofNat 0)), AV.nl]) = (5 : Nat))))) an))))))) tq
theorem r8New_ok (blocks : Int) (r : List Ex × Int) : r8New blocks = some r → r8New_G blocks r := by
  unfold r8New
  refine tb_ok (fun h0 => ?_) (fun h0 => ?_)
  ·
    have h0p := of_decide_eq_true h0
    exact fun e => tl_ok (G := r8New_G blocks) (r8New_l0 blocks h0 h0p) e
  ·
    have h0p := of_decide_eq_false h0
    refine tb_ok (fun h1 => ?_) (fun h1 => ?_)
    ·
      have h1p := of_decide_eq_true h1
      exact fun e => tl_ok (G := r8New_G blocks) (r8New_l1 blocks h0 h0p h1 h1p) e
    ·
      have h1p := of_decide_eq_false h1
      exact fun e => tl_ok (G := r8New_G blocks) (r8New_l2 blocks h0 h0p h1 h1p) e
/-- Function 14, as it answers. -/
noncomputable def r11New (blocks : Int) : Option (Sa × Int) :=
 (tc (r8New (blocks)) fun s0 =>
  (tb ((s0.2 != (0 : Int)))
   (some (((Sa.mk 0 0 ([] : List Ex) ([] : List Po) 0 ([] : List UInt8)), s0.2)))
   (some (((Sa.mk blocks 1 s0.1 ([] : List Po) 0 ([] : List UInt8)), (0 : Int))))))
abbrev r11New_G (blocks : Int) (r : Sa × Int) : Prop := EvFr Try.prog cf false 14 [.i (blocks)] (.tu [Sa.av (r.1), .i (r.2)])
theorem r11New_l0 (blocks : Int) (s0 : List Ex × Int) (h0 : r8New (blocks) = some s0) (h1 : ((s0.2 != (0 : Int))) = true) (h1p : ¬ (s0.2 = (0 : Int))) : r11New_G blocks (((Sa.mk 0 0 ([] : List Ex) ([] : List Po) 0 ([] : List UInt8)), s0.2)) :=
  leafR vw_eq (k := 300) (r := []) (hs := hz [(4, [.fres (.tu [exs (s0.1), .i (s0.2)])]), (7, [.yes]), (3, [.cells ([(AV.i 0), (AV.i 0), AV.nl, AV.nl, (AV.i 0), AV.nl])]), (2, [.cells ([(AV.i 0), (AV.i 0), AV.nl, AV.nl, (AV.i 0), AV.nl])])]) (raw := (AV.tu [(AV.ag [(AV.i 0), (AV.i 0), (AV.sl 0 ([] : List AV)), (AV.sl 0 ([] : List AV)), (AV.i 0), (AV.sl 0 ([] : List AV))]), (AV.i s0.2)])) kq (ac (r8New_ok (blocks) _ h0) (ac h1 (ac (Eq.refl ([(AV.i 0), (AV.i 0), AV.nl, AV.nl, (AV.i 0), AV.nl] : List AV)) (ac (Eq.refl ([(AV.i 0), (AV.i 0), AV.nl, AV.nl, (AV.i 0), AV.nl] : List AV)) an)))) tq
theorem r11New_l1 (blocks : Int) (s0 : List Ex × Int) (h0 : r8New (blocks) = some s0) (h1 : ((s0.2 != (0 : Int))) = false) (h1p : (s0.2 = (0 : Int))) : r11New_G blocks (((Sa.mk blocks 1 s0.1 ([] : List Po) 0 ([] : List UInt8)), (0 : Int))) :=
  leafR vw_eq (k := 300) (r := []) (hs := hz [(4, [.fres (.tu [exs (s0.1), .i (s0.2)])]), (7, [.no]), (4, [.cells ([(AV.i blocks), (AV.i 1), (AV.sl (List.length s0.1) (List.flatMap Ex.cells s0.1)), AV.nl, (AV.i 0), AV.nl])]), (2, [.cells ([(AV.i blocks), (AV.i 1), (AV.sl (List.length s0.1) (List.flatMap Ex.cells s0.1)), AV.nl, (AV.i 0), AV.nl])])]) (raw := (AV.tu [(AV.ag [(AV.i blocks), (AV.i 1), (AV.sl (List.length s0.1) (List.flatMap Ex.cells s0.1)), (AV.sl 0 ([] : List AV)), (AV.i 0), (AV.sl 0 ([] : List AV))]), (AV.i 0)])) kq (ac (r8New_ok (blocks) _ h0) (ac h1 (ac (Eq.refl ([(AV.i blocks), (AV.i 1), (AV.sl (List.length s0.1) (List.flatMap Ex.cells s0.1)), AV.nl, (AV.i 0), AV.nl] : List AV)) (ac (Eq.refl ([(AV.i blocks), (AV.i 1), (AV.sl (List.length s0.1) (List.flatMap Ex.cells s0.1)), AV.nl, (AV.i 0), AV.nl] : List AV)) an)))) tq
theorem r11New_ok (blocks : Int) (r : Sa × Int) : r11New blocks = some r → r11New_G blocks r := by
  unfold r11New
  refine tc_ok (fun s0 h0 => ?_)
  refine tb_ok (fun h1 => ?_) (fun h1 => ?_)
  ·
    have h1p := bne_iff_ne.1 h1
    exact fun e => tl_ok (G := r11New_G blocks) (r11New_l0 blocks s0 h0 h1 h1p) e
  ·
    have h1p := bne_eq_false_iff_eq.1 h1
    exact fun e => tl_ok (G := r11New_G blocks) (r11New_l1 blocks s0 h0 h1 h1p) e
end Ab
end Go.Proofs.Ytimcbhhebnikiaa
namespace Go.Proofs.Ytimcbhhebnikiaa
open Go Go.Proofs.Ytimcbhhebnikiaa.Ab
set_option linter.unusedVariables false
set_option linter.unusedSimpArgs false
namespace Ab
theorem r7Bytes_eq {x : Ex} (h : Ck x) : r7Bytes x = some (eb x) := by
  unfold r7Bytes eb
  have hc := h
  unfold Ck at hc
  have w1 : wr (32 * x.len) = 32 * x.len := wr_id (by omega) (by omega)
  rw [r7Check_eq, tc_some, ck_t h, w1]
  simp only [Bool.not_true, tb_f, tb_beq]
  by_cases hk : x.kind = 2
  · rw [if_pos hk, if_pos hk]
    have hl := hc.2.2.2.2.2.2.2.2.1 hk
    rw [tp_pos (by omega)]
  · rw [if_neg hk, if_neg hk]
    rw [tp_pos (by first | exact ⟨rfl, by omega, by omega⟩ | exact ⟨trivial, by omega, by omega⟩)]
    simp
/-- A block at first. -/
def c0 : Ce := ⟨0, 0, List.replicate 32 0⟩
theorem putN_app (A R : List Ce) (f : Nat → Ce) (n : Nat) (h : n ≤ R.length) (s : Nat) (hs : s = A.length) : putN (A ++ R) s f n = A ++ ((List.range n).map f ++ R.drop n) := by
  subst hs
  refine List.ext_getElem? fun i => ?_
  rw [putN_get _ _ _ _ (by rw [List.length_append]; omega)]
  by_cases h1 : i < A.length
  · rw [if_neg (by omega), List.getElem?_append_left h1, List.getElem?_append_left h1]
  rw [List.getElem?_append_right (by omega), List.getElem?_append_right (by omega)]
  by_cases h2 : i < A.length + n
  · rw [if_pos (by omega), List.getElem?_append_left (by simp; omega), List.getElem?_map, List.getElem?_range (by omega)]; rfl
  · rw [if_neg (by omega), List.getElem?_append_right (by simp; omega), List.getElem?_drop]
    congr 1; simp; omega
theorem r8Cells_L2 {α : Type} (blocks : Int) (l : List Ex) (s1 : Int × List Ce) (b : List UInt8) (s5 : Int × List Ce) (kind gen : Int) (i : Nat) (hi : 32 * i + 32 ≤ b.length) (hb : b.length ≤ 4294967296) (h5 : s5.1 = i) (f : Int × Ce → Option α) :
    th (r8Cells_L2_step blocks l s1 b s5) ((0, (Ce.mk kind gen (List.replicate 32 (UInt8.ofNat 0))))) f = f (32, ⟨kind, gen, pad 32 (b.drop (32 * i))⟩) := by
  have := th_run (step := r8Cells_L2_step blocks l s1 b s5) (f := f) (fun k => ((k : Int), (⟨kind, gen, part (b.drop (32 * i)) k⟩ : Ce))) 32 ?_ ?_
  · rw [part_all] at this
    rw [show ((0 : Int), (Ce.mk kind gen (List.replicate 32 (UInt8.ofNat 0)))) = (((0 : Nat) : Int), (⟨kind, gen, part (b.drop (32 * i)) 0⟩ : Ce)) by unfold part; rw [List.take_zero, List.nil_append]; rfl]
    exact this
  · intro k hk
    unfold r8Cells_L2_step
    have w1 : wr (32 * (i : Int)) = 32 * (i : Int) := wr_id (by omega) (by omega)
    have w2 : wr (32 * (i : Int) + (k : Int)) = ((32 * i + k : Nat) : Int) := by rw [wr_id (by omega) (by omega)]; omega
    simp only [tb_dec, h5, w1, w2, Int.toNat_natCast, Nat.mul_one]
    rw [if_pos (by omega), tp_pos (by omega), tp_pos (by omega), tp_pos (by constructor <;> simp <;> omega), wr_id (by omega) (by omega)]
    have e : b.getD (32 * i + k) (OfNat.ofNat 0) = (b.drop (32 * i)).getD k 0 := by
      rw [List.getD_eq_getElem?_getD, List.getD_eq_getElem?_getD, List.getElem?_drop]
    rw [e, part_step _ hk]
    rfl
  · unfold r8Cells_L2_step
    simp only [tb_dec]
    rw [if_neg (by omega)]
theorem cellsM_sl {m : List Ex} {blocks : Int} (h : Mk blocks m) (i : Nat) (hi : i ≤ m.length) : ((cellsM (m.take i)).length : Int) = sl (m.take i) := by
  have hk : ∀ x ∈ m.take i, Ck x := fun x hx => (ch_ck (mk_ch h) x (List.mem_of_mem_take hx)).1
  generalize m.take i = l at hk
  induction l with
  | nil => rfl
  | cons x l ih =>
    have p := ck_pos (hk x (by simp))
    have := ih fun y hy => hk y (by simp [hy])
    simp only [cellsM, List.flatMap_cons, List.length_append, xcs_len, sl] at this ⊢
    omega
theorem r8Cells_eq {blocks : Int} {m : List Ex} (h : Mk blocks m) : r8Cells blocks m = some (cellsM m) := by
  have hb := mk_blocks h
  have hl := mk_len h
  have hlen := (cellsM_mk h).2.1
  unfold r8Cells
  rw [tp_pos (by refine ⟨rfl, by omega, by omega⟩)]
  rw [th_run_at (S := fun i => ((i : Int), cellsM (m.take i) ++ List.replicate (blocks.toNat - (cellsM (m.take i)).length) c0)) (k := m.length) (by simp [cellsM, c0]) ?_ ?_]
  · simp only [tb_dec]
    have e : blocks.toNat - (cellsM m).length = 0 := by omega
    rw [if_neg (by omega), List.take_length, e, List.replicate_zero, List.append_nil, tp_pos (by rw [ces_len]; omega)]
    first | rw [List.drop_zero, List.take_of_length_le (by omega)] | rw [List.take_of_length_le (by omega)]
  · intro i hi
    have hck := mk_at h hi
    have hle := cellsM_le h i
    have hsl := cellsM_sl h i (by omega)
    have hsl2 := cellsM_sl h (i + 1) (by omega)
    have hmp := h.2.1 i hi
    have hlba : (exAt m i).lba = ((cellsM (m.take i)).length : Int) := by rw [hsl]; exact hmp.2.1
    have p := ck_pos hck
    have hct := cellsM_take m i hi
    have hle2 := cellsM_le h (i + 1)
    have hbl : (cellsM (m.take i)).length + (exAt m i).len.toNat ≤ blocks.toNat := by
      have e1 : cellsM m = cellsM (m.take (i + 1)) ++ cellsM (m.drop (i + 1)) := by unfold cellsM; rw [← List.flatMap_append, List.take_append_drop]
      have e2 := congrArg List.length e1
      rw [List.length_append, hct, List.length_append, xcs_len] at e2
      omega
    have hel := eb_len hck
    have htd : wr (Int.tdiv ((eb (exAt m i)).length : Int) 32) = (exAt m i).len := by
      rw [hel, Int.tdiv_eq_ediv_of_nonneg (by omega), wr_id (by omega) (by omega)]; omega
    unfold r8Cells_L0_step
    simp only [tb_dec, Int.toNat_natCast]
    rw [if_pos (by omega), tp_pos (by omega), r7Bytes_eq hck, tc_some]
    generalize hA : cellsM (m.take i) = A at *
    generalize hR : List.replicate (blocks.toNat - A.length) c0 = R at *
    have hRl : R.length = blocks.toNat - A.length := by rw [← hR, List.length_replicate]
    rw [th_run_at (s0 := ((0 : Int), A ++ R)) (S := fun k => ((k : Int), putN (A ++ R) A.length (fun k => (⟨(exAt m i).kind, (exAt m i).gen, pad 32 ((eb (exAt m i)).drop (32 * k))⟩ : Ce)) k)) (k := (exAt m i).len.toNat) rfl ?_ ?_]
    · simp only [htd]
      rw [if_neg (by omega), wr_id (by omega) (by omega), putN_app A R _ _ (by omega) _ rfl, hct]
      have e3 : (List.range (exAt m i).len.toNat).map (fun k => (⟨(exAt m i).kind, (exAt m i).gen, pad 32 ((eb (exAt m i)).drop (32 * k))⟩ : Ce)) = xcs (exAt m i) := rfl
      rw [e3, ← hR, List.drop_replicate, List.append_assoc, List.length_append, xcs_len, show blocks.toNat - (A.length + (exAt m i).len.toNat) = blocks.toNat - A.length - (exAt m i).len.toNat by omega]
      rfl
    · intro k hk
      unfold r8Cells_L1_step
      have w1 : wr ((exAt m i).lba + (k : Int)) = ((A.length + k : Nat) : Int) := by rw [wr_id (by omega) (by omega)]; omega
      simp only [tb_dec, htd, Int.toNat_natCast, w1]
      rw [if_pos (by omega), tp_pos (by omega), if_neg (by omega), r8Cells_L2 _ _ _ _ _ _ _ k (by omega) (by omega) rfl]
      simp only [ceAt_one]
      rw [if_neg (by omega), tp_pos (by omega), tp_pos (by rw [ces_len, putN_len, List.length_append]; constructor <;> simp <;> omega), wr_id (by omega) (by omega)]
      rfl
    · unfold r8Cells_L1_step
      simp only [tb_dec, htd]
      rw [if_neg (by omega)]
  · unfold r8Cells_L0_step
    simp only [tb_dec]
    rw [if_neg (by omega)]
end Ab
end Go.Proofs.Ytimcbhhebnikiaa
