/- What the functions of blocks answer, in plain words: filled, written, read. -/
import Derived.Test.YtadipihpgcelmaaPlI1
import Derived.Test.YtadipihpgcelmaaFnC
namespace Go.Proofs.Ytadipihpgcelmaa
open Go Go.Proofs.Ytadipihpgcelmaa.Ab
set_option linter.unusedVariables false
set_option linter.unusedSimpArgs false
namespace Ab
/-- Blocks of which some, one behind the other, are others. -/
def putN (l : List Ce) (s : Nat) (f : Nat → Ce) : Nat → List Ce
  | 0 => l
  | i + 1 => (putN l s f i).set (s + i) (f i)
theorem putN_len (l : List Ce) (s : Nat) (f : Nat → Ce) : ∀ i, (putN l s f i).length = l.length
  | 0 => rfl
  | i + 1 => by rw [putN, List.length_set, putN_len l s f i]
theorem putN_get (l : List Ce) (s : Nat) (f : Nat → Ce) : ∀ n, s + n ≤ l.length → ∀ j, (putN l s f n)[j]? = if s ≤ j ∧ j < s + n then some (f (j - s)) else l[j]?
  | 0, _, j => by rw [putN, if_neg (by omega)]
  | n + 1, h, j => by
    rw [putN, List.getElem?_set, putN_get l s f n (by omega) j, putN_len]
    by_cases h1 : s + n = j
    · subst h1
      rw [if_pos rfl, if_pos (by omega), if_pos (by omega)]
      congr 2; omega
    · rw [if_neg h1]
      by_cases h2 : s ≤ j ∧ j < s + n
      · rw [if_pos h2, if_pos (by omega)]
      · rw [if_neg h2, if_neg (by omega)]
theorem putN_at (l : List Ce) (s : Nat) (f : Nat → Ce) (n : Nat) (h : s + n ≤ l.length) (j : Nat) : ceAt (putN l s f n) j = if s ≤ j ∧ j < s + n then f (j - s) else ceAt l j := by
  unfold ceAt
  rw [List.getD_eq_getElem?_getD, putN_get l s f n h j]
  split
  · rfl
  · rw [List.getD_eq_getElem?_getD]
theorem putN_mem {l : List Ce} {s : Nat} {f : Nat → Ce} {n : Nat} (P : Ce → Prop) (hl : ∀ c ∈ l, P c) (hf : ∀ i, i < n → P (f i)) (h : s + n ≤ l.length) : ∀ c ∈ putN l s f n, P c := by
  refine (ceAt_all _ P).1 fun i hi => ?_
  rw [putN_len] at hi
  rw [putN_at l s f n h i]
  split
  · exact hf _ (by omega)
  · exact (ceAt_all l P).2 hl i hi
def z32 : List UInt8 := List.replicate 32 0
def fillF_ (kind gen : Int) : Nat → Ce := fun _ => ⟨kind, gen, z32⟩
def fillS (l : List Ce) (lba n kind gen : Int) : List Ce × Int :=
  if CkI l then (if Fits l lba n ∧ (0 ≤ kind ∧ kind ≤ 1) ∧ (0 ≤ gen ∧ gen ≤ 2147483647) then (putN l lba.toNat (fillF_ kind gen) n.toNat, 0) else (l, 81)) else ([], 90)
theorem len34 {α : Type} (a b : α) (n : Nat) (x : α) : (a :: b :: List.replicate n x).length = n + 2 := by simp
theorem iFill_eq (l : List Ce) (lba n kind gen : Int) (hl : l.length ≤ 4294967296) : iFill l lba n kind gen = some (fillS l lba n kind gen) := by
  unfold iFill fillS
  simp only [iWithin_eq, iCheck_eq l hl, tc_some, tb_not, tb_dec, ces_len]
  have p1 : l.length * 34 = l.length * 34 := rfl
  by_cases hc : CkI l
  case neg =>
    by_cases hk : 0 ≤ kind ∧ kind ≤ 1
    · simp only [if_pos hk, if_neg hc]
    · simp only [if_neg hk, if_neg hc]
  have h64 := hc.2.1
  simp only [if_pos hc]
  by_cases hk : 0 ≤ kind ∧ kind ≤ 1
  case neg =>
    rw [if_neg hk, if_neg fun q => hk q.2.1, tp_pos (by first | rfl | trivial), tp_pos (by omega), tp_pos (by simp)]
  rw [if_pos hk, tp_pos (by first | rfl | trivial), tp_pos (by omega)]
  by_cases hg : 0 ≤ gen ∧ gen ≤ 2147483647
  case neg => rw [if_neg hg, if_neg fun q => hg q.2.2, tp_pos (by simp)]
  rw [if_pos hg]
  by_cases h1 : 0 ≤ lba ∧ lba ≤ l.length
  case neg => rw [if_neg h1, if_neg fun q => h1 ⟨q.1.1, q.1.2.1⟩, tp_pos (by simp)]
  rw [if_pos h1, wr_id (x := (l.length : Int) - lba) (by omega) (by omega)]
  by_cases h2 : 1 ≤ n ∧ n ≤ l.length - lba
  case neg => rw [if_neg h2, if_neg fun q => h2 q.1.2.2, tp_pos (by simp)]
  rw [if_pos h2, if_pos ⟨⟨h1.1, h1.2, h2.1, h2.2⟩, hk, hg⟩]
  have := th_run (step := iFill_L0_step l lba n kind gen true true true true true) (f := fun s12 => if s12.1 < n then none else tp (0 = 0 ∧ s12.2.length * 34 = l.length * 34) (some (s12.2, (0 : Int)))) (fun i => ((i : Int), putN l lba.toNat (fillF_ kind gen) i)) n.toNat ?_ ?_
  · simp only [Int.natCast_zero, putN] at this
    rw [decide_eq_true hk, decide_eq_true hg, decide_eq_true hc, decide_eq_true h1, decide_eq_true h2, this, if_neg (by omega), tp_pos (by simp [putN_len])]
  · intro i hi
    unfold iFill_L0_step
    simp only [tb_dec, ces_len, putN_len, u8z]
    rw [wr_id (x := lba + (i : Int)) (by omega) (by omega), wr_id (x := (i : Int) + 1) (by omega) (by omega), if_pos (by omega), tp_pos (by omega), tp_pos (by constructor <;> simp <;> omega)]
    have e1 : (lba + (i : Int)).toNat = lba.toNat + i := by omega
    rw [e1]
    rfl
  · unfold iFill_L0_step
    simp only [tb_dec]
    rw [if_neg (by omega)]
theorem r9Fill_eq (l : List Ce) (lba n kind gen : Int) (hl : l.length ≤ 4294967296) : r9Fill l lba n kind gen = some (fillS l lba n kind gen) := by
  unfold r9Fill fillS
  simp only [r9Check_eq l hl, r9fits_eq l lba n hl, tc_some, tb_not, tb_dec, ces_len]
  by_cases hc : CkI l
  case neg => rw [if_neg hc, if_neg hc]
  have h64 := hc.2.1
  rw [if_pos hc, if_pos hc, tp_pos (by first | rfl | trivial), tp_pos (by omega)]
  by_cases hf : Fits l lba n
  case neg => rw [if_neg hf, if_neg fun q => hf q.1, tp_pos (by simp)]
  rw [if_pos hf]
  by_cases h1 : kind < 0
  · rw [if_pos h1, if_neg (by omega), tp_pos (by simp)]
  by_cases h2 : kind > 1
  · rw [if_neg h1, if_pos h2, if_neg (by omega), tp_pos (by simp)]
  by_cases h3 : gen < 0
  · rw [if_neg h1, if_neg h2, if_pos h3, if_neg (by omega), tp_pos (by simp)]
  by_cases h4 : gen ≥ 2147483648
  · rw [if_neg h1, if_neg h2, if_neg h3, if_pos h4, if_neg (by omega), tp_pos (by simp)]
  rw [if_neg h1, if_neg h2, if_neg h3, if_neg h4, if_pos ⟨hf, by omega, by omega⟩]
  have hff := hf
  unfold Fits at hff
  have w : wr (lba + n) = lba + n := wr_id (by omega) (by omega)
  have := th_run (step := r9Fill_L0_step l lba n kind gen true true) (f := fun s10 => if s10.1 < wr (lba + n) then none else tp (0 = 0 ∧ s10.2.length * 34 = l.length * 34) (some (s10.2, (0 : Int)))) (fun i => (lba + (i : Int), putN l lba.toNat (fillF_ kind gen) i)) n.toNat ?_ ?_
  · simp only [Int.natCast_zero, Int.add_zero, putN] at this
    rw [decide_eq_true hc, decide_eq_true hf, this, if_neg (by rw [w]; omega), tp_pos (by simp [putN_len])]
  · intro i hi
    unfold r9Fill_L0_step
    simp only [tb_dec, ces_len, putN_len, u8z, w]
    rw [wr_id (x := lba + (i : Int) + 1) (by omega) (by omega), if_pos (by omega), tp_pos (by omega), tp_pos (by constructor <;> simp <;> omega)]
    have e1 : (lba + (i : Int)).toNat = lba.toNat + i := by omega
    rw [e1, show lba + (i : Int) + 1 = lba + ((i + 1 : Nat) : Int) by omega]
    rfl
  · unfold r9Fill_L0_step
    simp only [tb_dec, w]
    rw [if_neg (by omega)]
/-- Blocks of bytes. -/
def wrF (gen : Int) (b : List UInt8) : Nat → Ce := fun i => ⟨2, gen, pad 32 (b.drop (32 * i))⟩
def writeS (l : List Ce) (lba gen : Int) (b : List UInt8) : List Ce × Int :=
  if CkI l then (if Fits l lba (b.length / 32 : Nat) ∧ b.length % 32 = 0 ∧ (0 ≤ gen ∧ gen ≤ 2147483647) then (putN l lba.toNat (wrF gen b) (b.length / 32), 0) else (l, 81)) else ([], 90)
theorem tdiv32 (b : List UInt8) (hb : b.length ≤ 4294967296) : wr (Int.tdiv (b.length : Int) 32) = ((b.length / 32 : Nat) : Int) := by
  have e : Int.tdiv (b.length : Int) 32 = ((b.length / 32 : Nat) : Int) := by
    rw [Int.tdiv_eq_ediv_of_nonneg (by omega)]; omega
  rw [e, wr_id (by omega) (by omega)]
theorem iWrite_eq (l : List Ce) (lba gen : Int) (b : List UInt8) (hl : l.length ≤ 4294967296) (hb : b.length ≤ 4294967296) : iWrite l lba gen b = some (writeS l lba gen b) := by
  unfold iWrite writeS
  have hd := tdiv32 b hb
  have w0 : wr (((b.length / 32 : Nat) : Int) * 32) = ((b.length / 32 : Nat) : Int) * 32 := wr_id (by omega) (by omega)
  simp only [iWithin_eq, iCheck_eq l hl, tc_some, tb_not, tb_dec, tb_beq, ces_len, hd, w0]
  by_cases hc : CkI l
  case neg =>
    by_cases hm : ((b.length / 32 : Nat) : Int) * 32 = b.length
    · simp only [if_pos hm, if_neg hc]
    · simp only [if_neg hm, if_neg hc]
  have h64 := hc.2.1
  simp only [if_pos hc]
  by_cases hm : ((b.length / 32 : Nat) : Int) * 32 = b.length
  case neg => rw [if_neg hm, if_neg (by omega), tp_pos (by first | rfl | trivial), tp_pos (by omega), tp_pos (by simp)]
  rw [if_pos hm, tp_pos (by first | rfl | trivial), tp_pos (by omega)]
  by_cases hg : 0 ≤ gen ∧ gen ≤ 2147483647
  case neg => rw [if_neg hg, if_neg fun q => hg q.2.2, tp_pos (by simp)]
  rw [if_pos hg]
  by_cases h1 : 0 ≤ lba ∧ lba ≤ l.length
  case neg => rw [if_neg h1, if_neg fun q => h1 ⟨q.1.1, q.1.2.1⟩, tp_pos (by simp)]
  rw [if_pos h1, wr_id (x := (l.length : Int) - lba) (by omega) (by omega)]
  by_cases h2 : 1 ≤ ((b.length / 32 : Nat) : Int) ∧ ((b.length / 32 : Nat) : Int) ≤ l.length - lba
  case neg => rw [if_neg h2, if_neg fun q => h2 q.1.2.2, tp_pos (by simp)]
  rw [if_pos h2, if_pos ⟨⟨h1.1, h1.2, h2.1, h2.2⟩, by omega, hg⟩]
  have := th_run (step := iWrite_L0_step l lba gen b true true true true) (f := fun s11 => if s11.1 < ((b.length / 32 : Nat) : Int) then none else tp (0 = 0 ∧ s11.2.length * 34 = l.length * 34) (some (s11.2, (0 : Int)))) (fun i => ((i : Int), putN l lba.toNat (wrF gen b) i)) (b.length / 32) ?_ ?_
  · simp only [Int.natCast_zero, putN] at this
    rw [decide_eq_true hg, decide_eq_true hc, decide_eq_true h1, decide_eq_true h2, this, if_neg (by omega), tp_pos (by simp [putN_len])]
  · intro i hi
    unfold iWrite_L0_step
    have w1 : wr ((i : Int) * 32) = (i : Int) * 32 := wr_id (by omega) (by omega)
    have e2 : ((i : Int) * 32).toNat = 32 * i := by omega
    simp only [tb_dec, ces_len, putN_len, hd, w1, e2]
    rw [wr_id (x := lba + (i : Int)) (by omega) (by omega), wr_id (x := (i : Int) + 1) (by omega) (by omega), if_pos (by omega), tp_pos (by omega), tp_pos (by refine ⟨by omega, by omega, by simp⟩), tp_pos (by omega), tp_pos (by constructor <;> simp <;> omega)]
    have e1 : (lba + (i : Int)).toNat = lba.toNat + i := by omega
    have e3 : List.take ((b.length - 32 * i) * 1) (List.drop (32 * i * 1) b) = b.drop (32 * i) := by
      rw [Nat.mul_one, Nat.mul_one, List.take_of_length_le (by rw [List.length_drop]; omega)]
    rw [e1, e3]
    rfl
  · unfold iWrite_L0_step
    simp only [tb_dec, hd]
    rw [if_neg (by omega)]
/-- Some of a block's bytes, the others 0. -/
def part (d : List UInt8) (k : Nat) : List UInt8 := (pad 32 d).take k ++ List.replicate (32 - k) 0
theorem part_len (d : List UInt8) {k : Nat} (h : k ≤ 32) : (part d k).length = 32 := by
  unfold part; rw [List.length_append, List.length_take, pad_len, List.length_replicate]; omega
theorem part_all (d : List UInt8) : part d 32 = pad 32 d := by
  unfold part; rw [Nat.sub_self, List.replicate_zero, List.append_nil, List.take_of_length_le (by simp)]
theorem pad_getD (d : List UInt8) {k : Nat} (h : k < 32) : (pad 32 d).getD k 0 = d.getD k 0 := by
  unfold pad
  rw [List.getD_eq_getElem?_getD, List.getElem?_take_of_lt h, List.getD_eq_getElem?_getD]
  by_cases hk : k < d.length
  · rw [List.getElem?_append_left hk]
  · rw [List.getElem?_append_right (by omega), List.getElem?_eq_none (l := d) (by omega)]
    rw [List.getElem?_replicate]; split <;> rfl
theorem part_step (d : List UInt8) {k : Nat} (h : k < 32) : (pad 32 (part d k)).set k (d.getD k 0) = part d (k + 1) := by
  rw [pad_of (part_len d (by omega)), ← pad_getD d h]
  unfold part
  have hl : ((pad 32 d).take k).length = k := by rw [List.length_take, pad_len]; omega
  rw [take_at 0 (pad 32 d) k (by simp; omega), show 32 - k = (32 - (k + 1)) + 1 by omega, List.replicate_succ, List.append_assoc, List.set_append_right _ _ (by omega), hl, Nat.sub_self]
  simp only [List.set_cons_zero, List.cons_append, List.nil_append]
theorem r9Write_L1 {α : Type} (l : List Ce) (lba gen : Int) (b : List UInt8) (s0 s4 : Bool) (s9 : Int × List Ce) (i : Nat) (hi : 32 * i + 32 ≤ b.length) (hb : b.length ≤ 4294967296) (h9 : s9.1 = i) (f : Int × Ce → Option α) :
    th (r9Write_L1_step l lba gen b s0 s4 s9) ((0, (Ce.mk 2 gen (List.replicate 32 (UInt8.ofNat 0))))) f = f (32, ⟨2, gen, pad 32 (b.drop (32 * i))⟩) := by
  have := th_run (step := r9Write_L1_step l lba gen b s0 s4 s9) (f := f) (fun k => ((k : Int), (⟨2, gen, part (b.drop (32 * i)) k⟩ : Ce))) 32 ?_ ?_
  · rw [part_all] at this
    rw [show ((0 : Int), (Ce.mk 2 gen (List.replicate 32 (UInt8.ofNat 0)))) = (((0 : Nat) : Int), (⟨2, gen, part (b.drop (32 * i)) 0⟩ : Ce)) by unfold part; rw [List.take_zero, List.nil_append]; rfl]
    exact this
  · intro k hk
    unfold r9Write_L1_step
    have w1 : wr (32 * (i : Int)) = 32 * (i : Int) := wr_id (by omega) (by omega)
    have w2 : wr (32 * (i : Int) + (k : Int)) = ((32 * i + k : Nat) : Int) := by rw [wr_id (by omega) (by omega)]; omega
    simp only [tb_dec, h9, w1, w2, Int.toNat_natCast, Nat.mul_one]
    rw [if_pos (by omega), tp_pos (by omega), tp_pos (by omega), tp_pos (by constructor <;> simp <;> omega), wr_id (by omega) (by omega)]
    have e : b.getD (32 * i + k) (OfNat.ofNat 0) = (b.drop (32 * i)).getD k 0 := by
      rw [List.getD_eq_getElem?_getD, List.getD_eq_getElem?_getD, List.getElem?_drop]
    rw [e, part_step _ hk]
    rfl
  · unfold r9Write_L1_step
    simp only [tb_dec]
    rw [if_neg (by omega)]
theorem r9Write_eq (l : List Ce) (lba gen : Int) (b : List UInt8) (hl : l.length ≤ 4294967296) (hb : b.length ≤ 4294967296) : r9Write l lba gen b = some (writeS l lba gen b) := by
  unfold r9Write writeS
  have hd := tdiv32 b hb
  have hm : Int.tmod (b.length : Int) 32 = ((b.length % 32 : Nat) : Int) := by rw [Int.tmod_eq_emod_of_nonneg (by omega)]; omega
  simp only [r9Check_eq l hl, r9fits_eq l lba _ hl, tc_some, tb_not, tb_dec, tb_bne, ces_len, hd, hm]
  by_cases hc : CkI l
  case neg => rw [if_neg hc, if_neg hc]
  have h64 := hc.2.1
  rw [if_pos hc, if_pos hc, tp_pos (by first | rfl | trivial), tp_pos (by omega)]
  by_cases hf : Fits l lba ((b.length / 32 : Nat) : Int)
  case neg => rw [if_neg hf, if_neg fun q => hf q.1, tp_pos (by simp)]
  rw [if_pos hf]
  by_cases h1 : ((b.length % 32 : Nat) : Int) = 0
  case neg => rw [if_neg h1, if_neg (by omega), tp_pos (by simp)]
  rw [if_pos h1]
  by_cases h3 : gen < 0
  · rw [if_pos h3, if_neg (by omega), tp_pos (by simp)]
  by_cases h4 : gen ≥ 2147483648
  · rw [if_neg h3, if_pos h4, if_neg (by omega), tp_pos (by simp)]
  rw [if_neg h3, if_neg h4, if_pos ⟨hf, by omega, by omega⟩]
  have hff := hf
  unfold Fits at hff
  have := th_run (step := r9Write_L0_step l lba gen b true true) (f := fun s9 => if s9.1 < ((b.length / 32 : Nat) : Int) then none else tp (0 = 0 ∧ s9.2.length * 34 = l.length * 34) (some (s9.2, (0 : Int)))) (fun i => ((i : Int), putN l lba.toNat (wrF gen b) i)) (b.length / 32) ?_ ?_
  · simp only [Int.natCast_zero, putN] at this
    rw [decide_eq_true hc, decide_eq_true hf, this, if_neg (by omega), tp_pos (by simp [putN_len])]
  · intro i hi
    unfold r9Write_L0_step
    simp only [tb_dec, ces_len, putN_len, hd]
    rw [if_pos (by omega), r9Write_L1 l lba gen b true true _ i (by omega) hb rfl]
    simp only [ceAt_one]
    rw [wr_id (x := lba + (i : Int)) (by omega) (by omega), wr_id (x := (i : Int) + 1) (by omega) (by omega), if_neg (by omega), tp_pos (by omega), tp_pos (by constructor <;> simp <;> omega)]
    have e1 : (lba + (i : Int)).toNat = lba.toNat + i := by omega
    rw [e1]
    rfl
  · unfold r9Write_L0_step
    simp only [tb_dec, hd]
    rw [if_neg (by omega)]
/-- The bytes of blocks. -/
def byt (l : List Ce) : List UInt8 := l.flatMap fun c => pad 32 c.d
theorem byt_len (l : List Ce) : (byt l).length = 32 * l.length := by
  induction l with
  | nil => rfl
  | cons c l ih => simp only [byt, List.flatMap_cons, List.length_append, pad_len, List.length_cons] at ih ⊢; omega
theorem byt_take (l : List Ce) (i : Nat) (h : i < l.length) : byt (l.take (i + 1)) = byt (l.take i) ++ pad 32 (ceAt l i).d := by
  have e : l.take (i + 1) = l.take i ++ [ceAt l i] := take_at _ l i h
  rw [e]; simp [byt]
def readS (l : List Ce) (lba n : Int) : List UInt8 × Int :=
  if CkI l then (if Fits l lba n then (byt ((l.drop lba.toNat).take n.toNat), 0) else ([], 81)) else ([], 90)
theorem r9Read_eq (l : List Ce) (lba n : Int) (hl : l.length ≤ 4294967296) : r9Read l lba n = some (readS l lba n) := by
  unfold r9Read readS
  simp only [r9Check_eq l hl, r9fits_eq l lba n hl, tc_some, tb_not, tb_dec]
  by_cases hc : CkI l
  case neg => rw [if_neg hc, if_neg hc]
  have h64 := hc.2.1
  rw [if_pos hc, if_pos hc]
  by_cases hf : Fits l lba n
  case neg => rw [if_neg hf, if_neg hf]
  rw [if_pos hf, if_pos hf]
  have hff := hf
  unfold Fits at hff
  have w : wr (lba + n) = lba + n := wr_id (by omega) (by omega)
  have := th_run (step := r9Read_L0_step l lba n true true) (f := fun s4 => if s4.2 < wr (lba + n) then none else some (s4.1, (0 : Int))) (fun i => (byt ((l.drop lba.toNat).take i), lba + (i : Int))) n.toNat ?_ ?_
  · simp only [Int.natCast_zero, Int.add_zero, List.take_zero] at this
    rw [decide_eq_true hc, decide_eq_true hf]
    exact this.trans (by rw [if_neg (by rw [w]; omega)])
  · intro i hi
    unfold r9Read_L0_step
    have hbl : (byt ((l.drop lba.toNat).take i)).length ≤ 32 * i := by rw [byt_len, List.length_take]; omega
    simp only [tb_dec, w]
    rw [wr_id (x := lba + (i : Int) + 1) (by omega) (by omega), if_pos (by omega), tp_pos (by omega), tp_pos (by refine ⟨by simp, by omega⟩)]
    have e1 : ceAt l (lba + (i : Int)).toNat = ceAt (l.drop lba.toNat) i := by
      unfold ceAt
      rw [List.getD_eq_getElem?_getD, List.getD_eq_getElem?_getD, List.getElem?_drop]
      congr 2; omega
    rw [e1, byt_take (l.drop lba.toNat) i (by rw [List.length_drop]; omega), show lba + (i : Int) + 1 = lba + ((i + 1 : Nat) : Int) by omega]
  · unfold r9Read_L0_step
    simp only [tb_dec, w]
    rw [if_neg (by omega)]
theorem iRead_eq (l : List Ce) (lba n : Int) (hl : l.length ≤ 4294967296) : iRead l lba n = some (readS l lba n) := by
  unfold iRead readS
  simp only [iFill_eq l lba n 1 0 hl, tc_some, tb_bne, tb_dec, ces_len]
  unfold fillS
  by_cases hc : CkI l
  case neg => simp only [if_neg hc]; rfl
  have h64 := hc.2.1
  simp only [if_pos hc]
  by_cases hf : Fits l lba n
  case neg =>
    have hn : ¬ (Fits l lba n ∧ ((0 : Int) ≤ 1 ∧ (1 : Int) ≤ 1) ∧ ((0 : Int) ≤ 0 ∧ (0 : Int) ≤ 2147483647)) := fun q => hf q.1
    simp only [if_neg hn, if_neg hf]; rfl
  have hp : Fits l lba n ∧ ((0 : Int) ≤ 1 ∧ (1 : Int) ≤ 1) ∧ ((0 : Int) ≤ 0 ∧ (0 : Int) ≤ 2147483647) := ⟨hf, by omega, by omega⟩
  have hff := hf
  unfold Fits at hff
  have w : wr (lba + n) = lba + n := wr_id (by omega) (by omega)
  simp only [w, if_pos hp, if_pos hf]
  rw [if_pos trivial, tp_pos (by omega), tp_pos (by omega), tp_pos (by refine ⟨by omega, by omega, ?_⟩; first | trivial | rfl)]
  have e0 : (lba + n).toNat - lba.toNat = n.toNat := by omega
  rw [e0]
  rw [th_run_at (S := fun i => (byt ((l.drop lba.toNat).take i), (i : Int))) (k := n.toNat) (by simp [byt]) ?_ ?_]
  · simp only; rw [if_neg (by omega)]
  · intro i hi
    unfold iRead_L0_step
    have hbl : (byt ((l.drop lba.toNat).take i)).length ≤ 32 * i := by rw [byt_len, List.length_take]; omega
    simp only [tb_dec, w, e0, Int.toNat_natCast]
    rw [if_pos (by omega), tp_pos (by omega), tp_pos (by rw [List.length_drop, List.length_take, List.length_drop, ces_len]; omega), tp_pos (by refine ⟨by simp, by omega⟩), wr_id (by omega) (by omega)]
    have e1 : ceAt (List.take n.toNat (List.drop lba.toNat l)) i = ceAt (l.drop lba.toNat) i := by
      unfold ceAt
      rw [List.getD_eq_getElem?_getD, List.getD_eq_getElem?_getD, List.getElem?_take_of_lt (by omega)]
    rw [e1, byt_take (l.drop lba.toNat) i (by rw [List.length_drop]; omega)]
    rfl
  · unfold iRead_L0_step
    simp only [tb_dec, w, e0]
    rw [if_neg (by omega)]
theorem iAlike_eq (a b : List Ce) (ha : a.length ≤ 4294967296) : iAlike a b = some (decide (a.map al = b.map al)) := by
  unfold iAlike
  rw [tb_bne]
  by_cases hl : (a.length : Int) = b.length
  case neg =>
    rw [if_neg hl]; congr 1; symm; rw [decide_eq_false_iff_not]
    intro h
    have := congrArg List.length h
    simp only [List.length_map] at this; omega
  rw [if_pos hl]
  have hl2 : a.length = b.length := by omega
  have hs : ∀ (c e : Ce) {β : Type} (x y : Option β), tb (c.kind == e.kind && (c.gen == c.gen && (pad 32 c.d == pad 32 e.d))) x y = if al c = al e then x else y := by
    intro c e β x y
    simp only [al, Prod.mk.injEq]
    by_cases g1 : c.kind = e.kind
    · by_cases g2 : pad 32 c.d = pad 32 e.d
      · rw [if_pos ⟨g1, g2⟩, g1, g2]; simp
      · rw [if_neg fun q => g2 q.2]; exact tb_neg (by simp [g2])
    · rw [if_neg fun q => g1 q.1]; exact tb_neg (by simp [g1])
  rw [th_all (some false) (some true) a.length (fun i => al (ceAt a i) = al (ceAt b i)) (a.map al = b.map al) (all_eq _ al a b hl2)]
  · by_cases h : a.map al = b.map al
    · rw [if_pos h, decide_eq_true h]
    · rw [if_neg h, decide_eq_false h]
  · intro i hi hp
    unfold iAlike_L0_step
    simp only [tb_dec, tb_not, hs, Int.toNat_natCast]
    rw [if_pos (by omega), tp_pos (by omega), tp_pos (by omega), if_pos hp, wr_id (by omega) (by omega)]
  · intro i hi hp
    unfold iAlike_L0_step
    simp only [tb_dec, tb_not, hs, Int.toNat_natCast]
    refine ⟨by rw [if_pos (by omega), tp_pos (by omega), tp_pos (by omega), if_neg hp], ?_⟩
    rw [if_pos (by omega), tp_pos (by omega), if_neg hp]
  · unfold iAlike_L0_step
    simp only [tb_dec]
    rw [if_neg (by omega), if_neg (by omega)]
    exact ⟨rfl, rfl⟩
end Ab
end Go.Proofs.Ytadipihpgcelmaa
