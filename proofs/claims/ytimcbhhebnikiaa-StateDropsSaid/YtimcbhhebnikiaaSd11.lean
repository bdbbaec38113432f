/- The law 'StateDrops': it returns true, and nothing that was there changes. No condition. (Part 11 of 12.) -/
import Derived.Test.YtimcbhhebnikiaaSd10
import Derived.Test.YtimcbhhebnikiaaRows
namespace Go.Proofs.Ytimcbhhebnikiaa
open Go Go.Proofs.Ytimcbhhebnikiaa.Ab
set_option linter.unusedVariables false
set_option linter.unusedSimpArgs false
namespace Ab
/-- An extent of a generation. -/
def gn (g : Int) (x : Ex) : Ex := ⟨x.lba, x.len, x.kind, g, x.d⟩
def genS (g : Int) (l : List Ex) (i : Nat) : List Ex := (l.take i).map (gn g) ++ l.drop i
theorem genS_len (g : Int) (l : List Ex) (i : Nat) (hi : i ≤ l.length) : (genS g l i).length = l.length := by simp [genS]; omega
theorem genS_at (g : Int) (l : List Ex) (i : Nat) (hi : i < l.length) : exAt (genS g l i) i = exAt l i := by
  have hl : ((l.take i).map (gn g)).length = i := by simp; omega
  unfold exAt genS
  rw [List.getD_eq_getElem?_getD, List.getD_eq_getElem?_getD, List.getElem?_append_right (by omega), hl, List.getElem?_drop]
  simp
theorem genS_set (g : Int) (l : List Ex) (i : Nat) (hi : i < l.length) : (genS g l i).set i (gn g (exAt l i)) = genS g l (i + 1) := by
  have hl : ((l.take i).map (gn g)).length = i := by simp; omega
  unfold genS
  rw [drop_at ⟨0, 0, 0, 0, []⟩ l i hi, List.set_append_right _ _ (by omega), hl, Nat.sub_self, List.set_cons_zero, take_at ⟨0, 0, 0, 0, []⟩ l i hi, List.map_append, List.append_assoc]
  rfl
/-- One round of what sets generations. -/
noncomputable def genB (g : Int) (l : List Ex) (s7 : Int × List Ex) : Option (Int × List Ex) :=
 (tb ((decide (s7.1 < (l.length : Int))))
  (tp (((0 ≤ s7.1) ∧ (s7.1 < (l.length : Int))))
   (tp ((((List.length [(AV.i g)]) = 1) ∧ ((((0 + (s7.1.toNat * 5)) + 3) + (List.length [(AV.i g)])) ≤ (List.length (List.flatMap Ex.cells s7.2)))))
    (some (((wr (s7.1 + 1)), (List.set s7.2 s7.1.toNat (Ex.mk (exAt s7.2 s7.1.toNat).lba (exAt s7.2 s7.1.toNat).len (exAt s7.2 s7.1.toNat).kind g (exAt s7.2 s7.1.toNat).d)))))))
  none)
theorem genB_run {α : Type} (g : Int) (l : List Ex) (hl : l.length ≤ 4294967296) (f : Int × List Ex → Option α) : th (genB g l) (0, l) f = f ((l.length : Int), l.map (gn g)) := by
  have h0 : ((0 : Int), l) = (((0 : Nat) : Int), genS g l 0) := by simp [genS]
  rw [h0, th_run (step := genB g l) (f := f) (fun i => ((i : Int), genS g l i)) l.length]
  · simp [genS]
  · intro i hi
    unfold genB
    simp only [tb_dec, Int.toNat_natCast]
    rw [if_pos (by omega), tp_pos (by omega), tp_pos ⟨rfl, by rw [exs_len, genS_len g l i (by omega)]; simp; omega⟩, wr_id (by omega) (by omega), genS_at g l i hi]
    exact congrArg some (Prod.ext (by simp) (genS_set g l i hi))
  · unfold genB
    simp only [tb_dec]
    rw [if_neg (by omega)]
theorem th_ix {α β : Type} (l : List β) (d : β) (p : β → Bool) {step : Int → Option Int} {f : Int → Option α} (hs : ∀ i : Nat, i < l.length → p (l.getD i d) = false → step (i : Int) = some ((i : Int) + 1)) (hf : ∀ i : Nat, i < l.length → p (l.getD i d) = true → step (i : Int) = none) (he : step (l.length : Int) = none) : th step 0 f = f ((l.findIdx p : Nat) : Int) := by
  have gd : ∀ i (hi : i < l.length), l.getD i d = l[i] := fun i hi => by simp [hi]
  have hle : l.findIdx p ≤ l.length := List.findIdx_le_length
  have := th_run (step := step) (f := f) (fun i => (i : Int)) (l.findIdx p) (fun i hi => hs i (by omega) (by
    rw [gd i (by omega)]
    have := List.not_of_lt_findIdx hi
    simpa using this)) (by
    rcases Nat.lt_or_ge (l.findIdx p) l.length with g | g
    · exact hf _ g (by rw [gd _ g]; exact List.findIdx_getElem (w := g))
    · have : l.findIdx p = l.length := by omega
      rw [this]; exact he)
  simpa using this
/-- Extents laid over a state's map, of its generation. -/
def lyS (s : Sa) (o : List Ex) : Sa × Int :=
  if (lays s.blocks s.map (o.map (gn s.gen))).2 = 0 then (⟨s.blocks, s.gen, (lays s.blocks s.map (o.map (gn s.gen))).1, s.points, s.last, s.staged⟩, 0) else (s, (lays s.blocks s.map (o.map (gn s.gen))).2)
/-- A checkpoint made. -/
def mkS (s : Sa) (id : Int) : Sa × Int :=
  if id ≤ s.last then (s, 112) else if s.points.length = 4 then (s, 113) else if s.gen = 2147483647 then (s, 113) else (⟨s.blocks, s.gen + 1, s.map, s.points ++ [⟨id, s.gen, s.map⟩], id, s.staged⟩, 0)
def ixP (l : List Po) (id : Int) : Nat := l.findIdx fun p => p.id == id
/-- One dropped. -/
def drS (s : Sa) (id : Int) : Sa × Int :=
  if ixP s.points id < s.points.length then (⟨s.blocks, s.gen, s.map, s.points.take (ixP s.points id) ++ s.points.drop (ixP s.points id + 1), s.last, s.staged⟩, 0) else (s, 111)
/-- Bytes that wait. -/
def stS (s : Sa) (d : List UInt8) : Sa × Int :=
  if (d.length : Int) > 4000 - s.staged.length then (s, 113) else (⟨s.blocks, s.gen, s.map, s.points, s.last, s.staged ++ d⟩, 0)
def abS (s : Sa) : Sa := ⟨s.blocks, s.gen, s.map, s.points, s.last, []⟩
def apS (s : Sa) (c : Ch) : Sa × Int :=
  if (lyS s c.list).2 = 0 then (if (mkS (lyS s c.list).1 c.id).2 = 0 then (abS (mkS (lyS s c.list).1 c.id).1, 0) else (s, (mkS (lyS s c.list).1 c.id).2)) else (s, (lyS s c.list).2)
/-- A change, by its kind. -/
def doK (s : Sa) (c : Ch) : Sa × Int :=
  if c.kind = 1 then lyS s [⟨c.lba, c.n, 2, 0, c.d⟩] else if c.kind = 2 then lyS s [⟨c.lba, c.n, 1, 0, []⟩] else if c.kind = 3 then lyS s [⟨c.lba, c.n, 0, 0, []⟩] else
  if c.kind = 4 then mkS s c.id else if c.kind = 5 then drS s c.id else if c.kind = 6 then stS s c.d else if c.kind = 7 then (abS s, 0) else apS s c
open Classical in
noncomputable def doS (s : Sa) (c : Ch) : Sa × Int := if SOk s then (if CkH c then doK s c else (s, 100)) else (sa0, 110)
theorem doS_t {s : Sa} {c : Ch} (h : SOk s) (hc : CkH c) : doS s c = doK s c := by unfold doS; rw [if_pos h, if_pos hc]
theorem doS_c {s : Sa} {c : Ch} (h : SOk s) (hc : ¬ CkH c) : doS s c = (s, 100) := by unfold doS; rw [if_pos h, if_neg hc]
theorem doS_f {s : Sa} {c : Ch} (h : ¬ SOk s) : doS s c = (sa0, 110) := by unfold doS; rw [if_neg h]
/-- Is a change small? -/
def Hz (c : Ch) : Prop := c.d.length ≤ 1000000 ∧ Sx c.list
theorem mk_sx {b : Int} {l : List Ex} (h : Mk b l) : Sx l := ⟨by have := mk_len h; omega, fun x hx => by have := ck_dlen (mk_cks h x hx); omega⟩
theorem lays_sx {b : Int} {m o : List Ex} (h : (lays b m o).2 = 0) : Sx (lays b m o).1 ∧ Mk b m ∧ (∀ x ∈ o, Fit8 b x) ∧ (lays b m o).1 = o.foldl put m := by
  unfold lays at h ⊢
  by_cases h1 : Mk b m
  · by_cases h2 : ∀ x ∈ o, Fit8 b x
    · rw [if_pos h1, if_pos h2]; exact ⟨mk_sx (puts_mk o m h1 h2), h1, h2, rfl⟩
    · rw [if_pos h1, if_neg h2] at h; cases h
  · rw [if_neg h1] at h; cases h
theorem sDo_eq {s : Sa} {c : Ch} (hz : Sz s) (hc : Hz c) : sDo s c = some (doS s c) := by
  unfold sDo
  rw [sCheck_eq hz, tc_some, tb_bne]
  by_cases hs : SOk s
  case neg => rw [st_f hs, if_neg (by omega), doS_f hs]; rfl
  rw [st_t hs, if_pos rfl, cCheck_eq c (by have := hc.2.1; omega), tc_some, tb_not, tb_dec]
  simp only [sCopy_eq hz, cpy_t hs, tc_some, tb_dec, tb_beq]
  by_cases hk : CkH c
  case neg => rw [if_neg hk, doS_c hs hk, tp_pos ⟨trivial, exs_len _⟩]
  rw [if_pos hk, doS_t hs hk]
  have kk := ckh_kind hk
  have hone : ∀ x : Ex, x.d.length ≤ 1000000 → Sx [x] := fun x hx => by
    refine ⟨by simp, fun y hy => ?_⟩
    have e : y = x := by simpa using hy
    rw [e]; exact hx
  have hw : wr (s.gen + 1) = s.gen + 1 := by have := hs; unfold SOk at this; exact wr_id (by omega) (by omega)
  unfold doK
  by_cases k1 : c.kind = 1
  · rw [if_pos (by omega), if_pos k1, sExtents_eq (hone _ hc.1), tc_some]
    refine (genB_run s.gen _ (by simp) _).trans ?_
    rw [if_neg (by simp), tp_pos ⟨trivial, exs_len _⟩, tp_pos ⟨trivial, by rw [exs_len]; simp⟩, mLay_eq _ _ _ (by have := hz.1.1; omega) (by simp), tc_some]
    unfold lyS
    show (if (lays s.blocks s.map (List.map (gn s.gen) [_])).2 = 0 then _ else _) = _
    split <;> rfl
  rw [if_neg (by omega), if_neg k1]
  by_cases k2 : c.kind = 2
  · rw [if_pos (by omega), if_pos k2, sExtents_eq (hone _ (by simp)), tc_some]
    refine (genB_run s.gen _ (by simp) _).trans ?_
    rw [if_neg (by simp), tp_pos ⟨trivial, exs_len _⟩, tp_pos ⟨trivial, by rw [exs_len]; simp⟩, mLay_eq _ _ _ (by have := hz.1.1; omega) (by simp), tc_some]
    unfold lyS
    show (if (lays s.blocks s.map (List.map (gn s.gen) [_])).2 = 0 then _ else _) = _
    split <;> rfl
  rw [if_neg (by omega), if_neg k2]
  by_cases k3 : c.kind = 3
  · rw [if_pos (by omega), if_pos k3, sExtents_eq (hone _ (by simp)), tc_some]
    refine (genB_run s.gen _ (by simp) _).trans ?_
    rw [if_neg (by simp), tp_pos ⟨trivial, exs_len _⟩, tp_pos ⟨trivial, by rw [exs_len]; simp⟩, mLay_eq _ _ _ (by have := hz.1.1; omega) (by simp), tc_some]
    unfold lyS
    show (if (lays s.blocks s.map (List.map (gn s.gen) [_])).2 = 0 then _ else _) = _
    split <;> rfl
  rw [if_neg (by omega), if_neg k3]
  have hpl : ∀ l : List Ex, (List.length ((List.flatMap Po.cells s.points) ++ [(AV.i c.id), (AV.i s.gen), (AV.rf 9 5 0 l.length)])) = (s.points.length + 1) * 3 := fun l => by rw [List.length_append, pos_len]; simp; omega
  by_cases k4 : c.kind = 4
  · rw [if_pos (by omega), if_pos k4]
    unfold mkS
    by_cases h1 : c.id ≤ s.last
    · rw [if_pos h1, if_pos h1, tp_pos ⟨trivial, exs_len _⟩]
    rw [if_neg h1, if_neg h1]
    by_cases h2 : s.points.length = 4
    · rw [if_pos (by omega), if_pos h2, tp_pos ⟨trivial, exs_len _⟩]
    rw [if_neg (by omega), if_neg h2]
    by_cases h3 : s.gen = 2147483647
    · rw [if_pos h3, if_pos h3, tp_pos ⟨trivial, exs_len _⟩]
    rw [if_neg h3, if_neg h3, tp_pos ⟨trivial, exs_len _⟩, sExtents_eq hz.1, tc_some, tp_pos ⟨pos_len _, by have := hz.2.1; omega⟩, tp_pos ⟨trivial, by first | exact hpl _ | (rw [List.length_append, pos_len]; simp; omega)⟩, hw, List.take_length]
  rw [if_neg (by omega), if_neg k4]
  by_cases k5 : c.kind = 5
  · rw [if_pos (by omega), if_pos k5]
    have hp := hz.2.1
    refine (th_ix s.points ⟨0, 0, []⟩ (fun p => p.id == c.id) ?_ ?_ ?_).trans ?_
    · intro i hi hp
      unfold sDo_L3_step
      have hp' : ¬ (poAt s.points i).id = c.id := by simpa [poAt] using hp
      simp only [tb_dec, tb_beq, Int.toNat_natCast]
      rw [if_pos (by omega), tp_pos (by omega), if_neg hp', wr_id (by omega) (by omega)]
    · intro i hi hp
      unfold sDo_L3_step
      have hp' : (poAt s.points i).id = c.id := by simpa [poAt] using hp
      simp only [tb_dec, tb_beq, Int.toNat_natCast]
      rw [if_pos (by omega), tp_pos (by omega), if_pos hp']
    · unfold sDo_L3_step
      simp only [tb_dec]
      rw [if_neg (by omega)]
    · have hle : ixP s.points c.id ≤ s.points.length := List.findIdx_le_length
      have hix : List.findIdx (fun p => p.id == c.id) s.points = ixP s.points c.id := rfl
      rw [hix]
      simp only [Int.toNat_natCast]
      unfold drS
      by_cases h : ixP s.points c.id < s.points.length
      · have hid : (poAt s.points (ixP s.points c.id)).id = c.id := by
          have := List.findIdx_getElem (p := fun p : Po => p.id == c.id) (w := h)
          unfold poAt
          rw [List.getD_eq_getElem?_getD, List.getElem?_eq_getElem h]
          exact eq_of_beq this
        rw [if_pos (by omega), if_pos h, tp_pos (by omega), if_pos hid, if_neg (by omega), tp_pos (by omega), tp_pos (pos_len _), tp_pos (wr_id (by omega) (by omega)), tp_pos ⟨trivial, exs_len _⟩, tp_pos ⟨trivial, by rw [pos_len]; simp; omega⟩]
      · rw [if_neg (by omega), if_neg h, tp_pos ⟨trivial, exs_len _⟩]
  rw [if_neg (by omega), if_neg k5]
  by_cases k6 : c.kind = 6
  · have h4 : wr (4000 - (s.staged.length : Int)) = 4000 - (s.staged.length : Int) := wr_id (by have := hz.2.2.2; omega) (by omega)
    rw [if_pos (by omega), if_pos k6, h4]
    unfold stS
    by_cases h1 : (c.d.length : Int) > 4000 - (s.staged.length : Int)
    · rw [if_pos h1, if_pos h1, tp_pos ⟨trivial, exs_len _⟩]
    · rw [if_neg h1, if_neg h1, tp_pos ⟨by simp, by have := hz.2.2.2; have := hc.1; omega⟩, tp_pos ⟨trivial, exs_len _⟩]
  rw [if_neg (by omega), if_neg k6]
  by_cases k7 : c.kind = 7
  · rw [if_pos (by omega), if_pos k7, tp_pos ⟨trivial, exs_len _⟩]
    rfl
  rw [if_neg (by omega), if_neg k7, if_pos (by omega), sExtents_eq hc.2, tc_some]
  refine (genB_run s.gen _ (by have := hc.2.1; omega) _).trans ?_
  rw [if_neg (by simp), tp_pos ⟨trivial, exs_len _⟩, tp_pos ⟨trivial, by rw [exs_len]; simp⟩, mLay_eq _ _ _ (by have := hz.1.1; omega) (by simp; have := hc.2.1; omega), tc_some]
  unfold apS lyS
  show (if (lays s.blocks s.map (List.map (gn s.gen) c.list)).2 = 0 then _ else _) = _
  by_cases h0 : (lays s.blocks s.map (c.list.map (gn s.gen))).2 = 0
  case neg => rw [if_neg h0, if_neg h0, if_neg h0]
  rw [if_pos h0, if_pos h0, if_pos rfl]
  unfold mkS
  simp only
  by_cases h1 : c.id ≤ s.last
  · rw [if_pos h1, if_pos h1]; rfl
  rw [if_neg h1, if_neg h1]
  by_cases h2 : s.points.length = 4
  · rw [if_pos (by omega), if_pos h2]; rfl
  rw [if_neg (by omega), if_neg h2]
  by_cases h3 : s.gen = 2147483647
  · rw [if_pos h3, if_pos h3]; rfl
  rw [if_neg h3, if_neg h3, sExtents_eq (lays_sx h0).1, tc_some, tp_pos ⟨pos_len _, by have := hz.2.1; omega⟩, tp_pos ⟨trivial, by rw [List.length_append, pos_len]; simp; omega⟩, hw, List.take_length]
  rfl
end Ab
end Go.Proofs.Ytimcbhhebnikiaa
namespace Go.Proofs.Ytimcbhhebnikiaa
open Go Go.Proofs.Ytimcbhhebnikiaa.Ab
set_option linter.unusedVariables false
set_option linter.unusedSimpArgs false
namespace Ab
theorem mk_same {blocks : Int} {l : List Ex} (h : Mk blocks l) {o : List Ex} (ho : ∀ x ∈ o, x ∈ l) : (∀ x ∈ o, Fit8 blocks x) ∧ (∀ x ∈ o, ∀ y ∈ o, ∀ k, x.lba ≤ k → k < x.lba + x.len → y.lba ≤ k → k < y.lba + y.len → bAt x k = bAt y k) := by
  refine ⟨fun x hx => ⟨mk_cks h x (ho x hx), ?_⟩, fun x hx y hy k a1 a2 b1 b2 => ?_⟩
  · have hg := ch_end (mk_ch h) x (ho x hx)
    have h3 := h.2.2
    omega
  · exact ch_fun (mk_ch h) (k := k) ⟨x, ho x hx, a1, a2, rfl⟩ ⟨y, ho y hy, b1, b2, rfl⟩
def new (blocks : Int) : List Ex := [⟨0, blocks, 0, 0, []⟩]
end Ab
end Go.Proofs.Ytimcbhhebnikiaa
namespace Go.Proofs.Ytimcbhhebnikiaa
open Go Go.Proofs.Ytimcbhhebnikiaa.Ab
set_option linter.unusedVariables false
set_option linter.unusedSimpArgs false
namespace Ab
def s1 (b : Int) : Sa := ⟨b, 1, new b, [], 0, []⟩
end Ab
end Go.Proofs.Ytimcbhhebnikiaa
namespace Go.Proofs.Ytimcbhhebnikiaa
open Go Go.Proofs.Ytimcbhhebnikiaa.Ab
set_option linter.unusedVariables false
set_option linter.unusedSimpArgs false
namespace Ab
theorem kp_trans {b : Int} {A B C : List Ex} {g h : Int} (hB : Mk b B) (hC : Mk b C) (hg : g ≤ h) (h1 : Kp A B g) (h2 : Kp B C h) : Kp A C g := by
  intro x hx hxg y hy k k1 k2 k3 k4
  have fx := (mk_same hC (o := [x]) (fun z hz => by have e : z = x := by simpa using hz
                                                    rw [e]; exact hx)).1 x (by simp)
  have px := ck_pos fx.1
  obtain ⟨z, hz, q1, q2⟩ := ch_cov (mk_ch hB) (k := k) (by omega) (by have := hB.2.2; have := fx.2; omega)
  have e1 := h2 x hx (by omega) z hz k k1 k2 q1 q2
  have e2 : x.gen = z.gen := congrArg (fun c : Int × Int × List UInt8 => c.2.1) e1
  exact e1.trans (h1 z hz (by omega) y hy k q1 q2 k3 k4)
theorem ids_nn {s : Sa} (h : SOk s) : ∀ i, i ≤ s.points.length → 0 ≤ (pv s i).id ∧ 0 ≤ (pv s i).gen
  | 0, _ => by simp [pv]
  | i + 1, hi => by
    have := ids_nn h i (by omega)
    have hp := h.2.2.2.2.2.2.2.1 i (by omega)
    rw [pv_succ]
    have h1 := hp.2.1
    have h2 := hp.2.2.2.1
    omega
theorem ids_lt {s : Sa} (h : SOk s) {i : Nat} : ∀ j, i < j → j < s.points.length → (poAt s.points i).id < (poAt s.points j).id
  | 0, hij, _ => by omega
  | j + 1, hij, hj => by
    have hp := (h.2.2.2.2.2.2.2.1 (j + 1) hj).2.1
    rw [pv_succ] at hp
    rcases Nat.lt_or_ge i j with g | g
    · have := ids_lt h j g (by omega); omega
    · have : i = j := by omega
      subst this; exact hp
theorem id_ok {s : Sa} (h : SOk s) {i : Nat} (hi : i < s.points.length) : 1 ≤ (poAt s.points i).id ∧ (poAt s.points i).id ≤ s.last ∧ s.last ≤ 2147483647 := by
  have hp := h.2.2.2.2.2.2.2.1 i hi
  have := ids_nn h i (by omega)
  have h1 := hp.2.1
  have h2 := hp.2.2.1
  have h3 := h.2.2.2.2.2.1
  omega
/-- Without the checkpoint at a place. -/
def rmS (s : Sa) (k : Nat) : Sa := ⟨s.blocks, s.gen, s.map, s.points.take k ++ s.points.drop (k + 1), s.last, s.staged⟩
theorem rm_len {s : Sa} {k : Nat} (hk : k < s.points.length) : (rmS s k).points.length = s.points.length - 1 := by simp [rmS]; omega
theorem rm_at {s : Sa} {k : Nat} (hk : k < s.points.length) (i : Nat) : poAt (rmS s k).points i = if i < k then poAt s.points i else poAt s.points (i + 1) := by
  have hl : (s.points.take k).length = k := by simp; omega
  unfold poAt rmS
  simp only [List.getD_eq_getElem?_getD]
  by_cases h : i < k
  · rw [if_pos h, List.getElem?_append_left (by omega), List.getElem?_take, if_pos h]
  · rw [if_neg h, List.getElem?_append_right (by omega), hl, List.getElem?_drop, show k + 1 + (i - k) = i + 1 by omega]
theorem rm_pv {s : Sa} {k : Nat} (hk : k < s.points.length) (i : Nat) : pv (rmS s k) i = if i ≤ k then pv s i else pv s (i + 1) := by
  cases i with
  | zero => simp [pv]
  | succ i =>
    rw [pv_succ, rm_at hk, pv_succ, pv_succ]
    by_cases h : i < k
    · rw [if_pos h, if_pos (by omega)]
    · rw [if_neg h, if_neg (by omega)]
theorem kp_pv {s : Sa} (h : SOk s) {k : Nat} (hk : k < s.points.length) {C : List Ex} (hC : Mk s.blocks C) (h2 : Kp (pv s (k + 1)).map C (pv s (k + 1)).gen) : Kp (pv s k).map C (pv s k).gen := by
  have hp := h.2.2.2.2.2.2.2.1 k hk
  rw [pv_succ] at h2
  exact kp_trans hp.1.1 hC (by have := hp.2.2.2.1; omega) hp.2.2.2.2.2 h2
theorem rm_ok {s : Sa} (h : SOk s) {k : Nat} (hk : k < s.points.length) : SOk (rmS s k) := by
  have hlen := rm_len hk
  have h4 := h.2.2.2.1
  refine ⟨h.1, h.2.1, h.2.2.1, by omega, h.2.2.2.2.1, h.2.2.2.2.2.1, h.2.2.2.2.2.2.1, fun i hi => ?_, ?_⟩
  · rw [hlen] at hi
    unfold PP
    rw [rm_at hk, rm_pv hk]
    by_cases h1 : i < k
    · rw [if_pos h1, if_pos (by omega)]
      exact h.2.2.2.2.2.2.2.1 i (by omega)
    rw [if_neg h1]
    have hp := h.2.2.2.2.2.2.2.1 (i + 1) (by omega)
    by_cases h2 : i ≤ k
    · have : i = k := by omega
      subst this
      rw [if_pos (Nat.le_refl _)]
      have hq := h.2.2.2.2.2.2.2.1 i hk
      have e : pv s (i + 1) = poAt s.points i := pv_succ s i
      refine ⟨hp.1, ?_, hp.2.2.1, ?_, hp.2.2.2.2.1, kp_pv h hk hp.1.1 hp.2.2.2.2.2⟩
      · have := hp.2.1; have := hq.2.1; rw [e] at *; omega
      · have := hp.2.2.2.1; have := hq.2.2.2.1; rw [e] at *; omega
    · rw [if_neg h2]; exact hp
  · rw [hlen, rm_pv hk]
    have hf := h.2.2.2.2.2.2.2.2
    by_cases h1 : s.points.length - 1 ≤ k
    · rw [if_pos h1]
      have e : s.points.length = k + 1 := by omega
      rw [show s.points.length - 1 = k by omega]
      rw [e] at hf
      exact kp_pv h hk h.1.1 hf
    · rw [if_neg h1, show s.points.length - 1 + 1 = s.points.length by omega]; exact hf
theorem po_get (l : List Po) {i : Nat} (h : i < l.length) : poAt l i = l[i] := by simp [poAt, h]
theorem ix_at {s : Sa} (h : SOk s) {k : Nat} (hk : k < s.points.length) : ixP s.points (poAt s.points k).id = k := by
  unfold ixP
  rw [List.findIdx_eq hk]
  refine ⟨by rw [← po_get s.points hk]; exact beq_self_eq_true _, fun j hj => ?_⟩
  have := ids_lt h k hj hk
  rw [← po_get s.points (by omega : j < s.points.length)]
  exact beq_false_of_ne (by omega)
theorem rm_no {s : Sa} (h : SOk s) {k : Nat} (hk : k < s.points.length) : ∀ p ∈ (rmS s k).points, p.id ≠ (poAt s.points k).id := by
  refine (poAt_all (rmS s k).points fun p => p.id ≠ (poAt s.points k).id).1 fun i hi => ?_
  rw [rm_len hk] at hi
  rw [rm_at hk]
  by_cases h1 : i < k
  · rw [if_pos h1]; have := ids_lt h k h1 hk; omega
  · rw [if_neg h1]; have := ids_lt h (i := k) (i + 1) (by omega) (by omega); omega
theorem drS_rm {s : Sa} (h : SOk s) {k : Nat} (hk : k < s.points.length) : drS s (poAt s.points k).id = (rmS s k, 0) := by
  unfold drS
  rw [ix_at h hk, if_pos hk]; rfl
theorem drS_no {s : Sa} {id : Int} (h : ∀ p ∈ s.points, p.id ≠ id) : drS s id = (s, 111) := by
  unfold drS
  have : ixP s.points id = s.points.length := by
    unfold ixP
    rw [List.findIdx_eq_length]
    exact fun p hp => beq_false_of_ne (h p hp)
  rw [this, if_neg (Nat.lt_irrefl _)]
theorem do_drop {s : Sa} (hz : Sz s) (hs : SOk s) {id : Int} (h : 1 ≤ id ∧ id ≤ 2147483647) : sDo s ⟨5, 0, 0, id, [], []⟩ = some (drS s id) := by
  rw [sDo_eq hz ⟨by simp, by simp [Sx]⟩, doS_t hs (.inr (.inr (.inl ⟨.inr rfl, ⟨rfl, rfl⟩, h, rfl, rfl⟩)))]
  rfl
theorem do_make {s : Sa} (hz : Sz s) (hs : SOk s) {id : Int} (h : 1 ≤ id ∧ id ≤ 2147483647) : sDo s ⟨4, 0, 0, id, [], []⟩ = some (mkS s id) := by
  rw [sDo_eq hz ⟨by simp, by simp [Sx]⟩, doS_t hs (.inr (.inr (.inl ⟨.inl rfl, ⟨rfl, rfl⟩, h, rfl, rfl⟩)))]
  rfl
theorem rm_sz {s : Sa} (h : Sz s) (k : Nat) : Sz (rmS s k) := by
  refine ⟨h.1, by simp [rmS]; have := h.2.1; omega, fun p hp => ?_, h.2.2.2⟩
  simp only [rmS, List.mem_append] at hp
  rcases hp with hp | hp
  · exact h.2.2.1 p (List.mem_of_mem_take hp)
  · exact h.2.2.1 p (List.mem_of_mem_drop hp)
end Ab
end Go.Proofs.Ytimcbhhebnikiaa
namespace Go.Proofs.Ytimcbhhebnikiaa
open Go Go.Proofs.Ytimcbhhebnikiaa.Ab
set_option linter.unusedVariables false
set_option linter.unusedSimpArgs false
set_option maxRecDepth 1000000
set_option maxHeartbeats 0
namespace Ab
def aw11 : Option Bool := some true
theorem aw11_eval : aCall Try.prog cf 4000 11 [] = some (.b true) := by kernel_rfl
theorem aw11_ok (r : Bool) : aw11 = some r → EvFr Try.prog cf true 11 [] (.b r) := fun h => by
  cases h
  exact EvFr.of_bool aw11_eval
end Ab
end Go.Proofs.Ytimcbhhebnikiaa
namespace Go.Proofs.Ytimcbhhebnikiaa
open Go Go.Proofs.Ytimcbhhebnikiaa.Ab
set_option linter.unusedVariables false
set_option linter.unusedSimpArgs false
set_option maxRecDepth 1000000
set_option maxHeartbeats 0
namespace Ab
/-- Function 7, as it answers. -/
noncomputable def lStateDrops (s : Sa) (which : UInt8) : Option (Bool) :=
 (tc (aw11) fun s0 =>
  (tc (sIds (s)) fun s1 =>
   (tc (few11 (s)) fun s2 =>
    (tb ((!s2))
     (some (s0))
     (tb (((s1.length : Int) == (0 : Int)))
      (some (s0))
      (tp ((((s1.length : Int) == (0 : Int)) = Bool.false))
       (tp ((((0 : Int) ≤ (Int.tmod (wr (↑(UInt8.toNat which) : Int)) (s1.length : Int))) ∧ ((Int.tmod (wr (↑(UInt8.toNat which) : Int)) (s1.length : Int)) < (s1.length : Int))))
        (tc (sDo (s) ((Ch.mk 5 0 0 (List.getD s1 ((Int.toNat (Int.tmod (wr (↑(UInt8.toNat which) : Int)) (s1.length : Int))) * 1) (0 : Int)) ([] : List UInt8) ([] : List Ex)))) fun s7 =>
         (tc (sPoint (s7.1) ((List.getD s1 ((Int.toNat (Int.tmod (wr (↑(UInt8.toNat which) : Int)) (s1.length : Int))) * 1) (0 : Int)))) fun s8 =>
          (tc (sDo (s7.1) ((Ch.mk 4 0 0 (List.getD s1 ((Int.toNat (Int.tmod (wr (↑(UInt8.toNat which) : Int)) (s1.length : Int))) * 1) (0 : Int)) ([] : List UInt8) ([] : List Ex)))) fun s9 =>
           (tc (sDo (s7.1) ((Ch.mk 5 0 0 (List.getD s1 ((Int.toNat (Int.tmod (wr (↑(UInt8.toNat which) : Int)) (s1.length : Int))) * 1) (0 : Int)) ([] : List UInt8) ([] : List Ex)))) fun s10 =>
            (tb (s0)
             (tb ((s7.2 == (0 : Int)))
              (tb ((s8.2 == (111 : Int)))
               (tb ((s9.2 == (112 : Int)))
                (tb ((s10.2 == (111 : Int)))
                 (tc (sIds (s7.1)) fun s16 =>
                  (tb (((s16.length : Int) == (wr ((s1.length : Int) - (1 : Int)))))
                   (tb ((s7.1.gen == s.gen))
                    (tb ((s7.1.last == s.last))
                     (tc (r7All (s7.1.map) (s.map)) fun s20 =>
                      (some (s20)))
                     none /- false -/)
                    none /- false -/)
                   none /- false -/))
                 none /- false -/)
                none /- false -/)
               none /- false -/)
              none /- false -/)
             none /- false -/))))))))))))
abbrev lStateDrops_G (s : Sa) (which : UInt8) (r : Bool) : Prop := EvFr Try.prog cf false 7 [Sa.av (s), .y (which)] (.b (r))
theorem lStateDrops_ok (s : Sa) (which : UInt8) (r : Bool) : lStateDrops s which = some r → lStateDrops_G s which r := by
  unfold lStateDrops
  refine tc_ok (fun s0 h0 => ?_)
  refine tc_ok (fun s1 h1 => ?_)
  refine tc_ok (fun s2 h2 => ?_)
  refine tb_ok (fun h3 => ?_) (fun h3 => ?_)
  ·
    intro e; injection e with e; subst e
    exact leafR vw_eq (k := 300) (r := []) (hs := hz [(3, [.fres (.b (s0))]), (2, [.fc]), (1, [.fres (ints (s1))]), (2, [.fc]), (1, [.fres (.b (s2))]), (2, [.yes, .yes, .yes, .yes]), (3, [])]) (raw := (AV.b s0)) kq (ac (aw11_ok  _ h0).any0 (ac (sIds_ok (s) _ h1).any0 (ac (few11_ok (s) _ h2).any0 (ac h3 (ac h3 (ac h3 (ac h3 an))))))) tq
  ·
    refine tb_ok (fun h4 => ?_) (fun h4 => ?_)
    ·
      have h4p := eq_of_beq h4
      intro e; injection e with e; subst e
      exact leafR vw_eq (k := 300) (r := []) (hs := hz [(3, [.fres (.b (s0))]), (2, [.fc]), (1, [.fres (ints (s1))]), (2, [.fc]), (1, [.fres (.b (s2))]), (2, [.no]), (1, [.no]), (1, [.no]), (1, [.no, .yes]), (2, [])]) (raw := (AV.b s0)) kq (ac (aw11_ok  _ h0).any0 (ac (sIds_ok (s) _ h1).any0 (ac (few11_ok (s) _ h2).any0 (ac h3 (ac h3 (ac h3 (ac h3 (ac h4 an)))))))) tq
    ·
      have h4p := ne_of_beq_false h4
      refine tp_ok (fun h5 => ?_)
      refine tp_ok (fun h6 => ?_)
      refine tc_ok (fun s7 h7 => ?_)
      refine tc_ok (fun s8 h8 => ?_)
      refine tc_ok (fun s9 h9 => ?_)
      refine tc_ok (fun s10 h10 => ?_)
      refine tb_ok (fun h11 => ?_) (fun h11 => ?_)
      ·
        refine tb_ok (fun h12 => ?_) (fun h12 => ?_)
        ·
          have h12p := eq_of_beq h12
          refine tb_ok (fun h13 => ?_) (fun h13 => ?_)
          ·
            have h13p := eq_of_beq h13
            refine tb_ok (fun h14 => ?_) (fun h14 => ?_)
            ·
              have h14p := eq_of_beq h14
              refine tb_ok (fun h15 => ?_) (fun h15 => ?_)
              ·
                have h15p := eq_of_beq h15
                refine tc_ok (fun s16 h16 => ?_)
                refine tb_ok (fun h17 => ?_) (fun h17 => ?_)
                ·
                  have h17p := eq_of_beq h17
                  refine tb_ok (fun h18 => ?_) (fun h18 => ?_)
                  ·
                    have h18p := eq_of_beq h18
                    refine tb_ok (fun h19 => ?_) (fun h19 => ?_)
                    ·
                      have h19p := eq_of_beq h19
                      refine tc_ok (fun s20 h20 => ?_)
                      intro e; injection e with e; subst e
                      exact leafR vw_eq (k := 300) (r := []) (hs := hz [(3, [.fres (.b (s0))]), (2, [.fc]), (1, [.fres (ints (s1))]), (2, [.fc]), (1, [.fres (.b (s2))]), (2, [.no]), (1, [.no]), (1, [.no]), (1, [.no, .no]), (4, [.yes, .yes, .yes, .val ((AV.i (List.getD s1 ((Int.toNat (Int.tmod (wr (↑(UInt8.toNat which) : Int)) (s1.length : Int))) * 1) (0 : Int))))]), (2, [.fc]), (3, [.fres (.tu [Sa.av (s7.1), .i (s7.2)])]), (5, [.fc]), (2, [.fc]), (2, [.fres (.tu [Po.av (s8.1), .i (s8.2)])]), (5, [.fc]), (2, [.fc]), (3, [.fres (.tu [Sa.av (s9.1), .i (s9.2)])]), (5, [.fc]), (2, [.fc]), (3, [.fres (.tu [Sa.av (s10.1), .i (s10.2)])]), (5, [.fc]), (3, [.yes]), (1, [.yes]), (1, [.yes]), (1, [.yes]), (1, [.yes]), (1, [.yes]), (1, [.yes]), (1, [.yes]), (1, [.yes]), (1, [.yes]), (1, [.yes]), (1, [.yes]), (1, [.yes]), (1, [.fc, .yes]), (1, [.fres (ints (s16)), .yes]), (1, [.yes]), (1, [.yes]), (1, [.yes]), (1, [.yes]), (1, [.yes]), (1, [.yes]), (1, [.yes]), (2, [.yes]), (1, [.yes]), (2, [.yes]), (1, [.yes]), (1, [.yes]), (1, [.yes]), (2, [.yes]), (1, [.yes]), (2, [.yes]), (1, [.yes]), (1, [.yes]), (1, [.yes]), (2, [.yes]), (1, [.yes]), (2, [.yes]), (1, [.fres (.b (s20)), .yes]), (1, [])]) (raw := (AV.b s20)) kq (ac (aw11_ok  _ h0).any0 (ac (sIds_ok (s) _ h1).any0 (ac (few11_ok (s) _ h2).any0 (ac h3 (ac h3 (ac h3 (ac h3 (ac h4 (ac h5 (ac h6 (ac (fq (p := ((1 : Nat) ≤ (List.length (List.drop ((Int.toNat (Int.tmod (wr (↑(UInt8.toNat which) : Int)) (s1.length : Int))) * 1) (List.map AV.i s1)))))) (ac (show (List.take 1 (List.drop ((Int.toNat (Int.tmod (wr (↑(UInt8.toNat which) : Int)) (s1.length : Int))) * 1) (List.map AV.i s1))) = [(AV.i (List.getD s1 ((Int.toNat (Int.tmod (wr (↑(UInt8.toNat which) : Int)) (s1.length : Int))) * 1) (0 : Int)))] from (by (try simp only [List.drop_drop]); exact one_drop_iC (l := s1) tq bq)) (ac (sDo_ok (s) ((Ch.mk 5 0 0 (List.getD s1 ((Int.toNat (Int.tmod (wr (↑(UInt8.toNat which) : Int)) (s1.length : Int))) * 1) (0 : Int)) ([] : List UInt8) ([] : List Ex))) _ h7) (ac (sPoint_ok (s7.1) ((List.getD s1 ((Int.toNat (Int.tmod (wr (↑(UInt8.toNat which) : Int)) (s1.length : Int))) * 1) (0 : Int))) _ h8) (ac (sDo_ok (s7.1) ((Ch.mk 4 0 0 (List.getD s1 ((Int.toNat (Int.tmod (wr (↑(UInt8.toNat which) : Int)) (s1.length : Int))) * 1) (0 : Int)) ([] : List UInt8) ([] : List Ex))) _ h9) (ac (sDo_ok (s7.1) ((Ch.mk 5 0 0 (List.getD s1 ((Int.toNat (Int.tmod (wr (↑(UInt8.toNat which) : Int)) (s1.length : Int))) * 1) (0 : Int)) ([] : List UInt8) ([] : List Ex))) _ h10) (ac h11 (ac h11 (ac h11 (ac h12 (ac h12 (ac h12 (ac h13 (ac h13 (ac h13 (ac h14 (ac h14 (ac h14 (ac h15 (ac h15 (ac (sIds_ok (s7.1) _ h16).any0 (ac h15 (ac h15 (ac h15 (ac h15 (ac h15 (ac h15 (ac h17 (ac h17 (ac h17 (ac h17 (ac h17 (ac h17 (ac h18 (ac h18 (ac h18 (ac h18 (ac h18 (ac h18 (ac h19 (ac h19 (ac h19 (ac h19 (ac h19 (ac (r7All_ok (s7.1.map) (s.map) _ h20).any0 (ac h19 an)))))))))))))))))))))))))))))))))))))))))))))))))))))))) tq
                    ·
                      have h19p := ne_of_beq_false h19
                      exact fun e => nomatch e
                  ·
                    have h18p := ne_of_beq_false h18
                    exact fun e => nomatch e
                ·
                  have h17p := ne_of_beq_false h17
                  exact fun e => nomatch e
              ·
                have h15p := ne_of_beq_false h15
                exact fun e => nomatch e
            ·
              have h14p := ne_of_beq_false h14
              exact fun e => nomatch e
          ·
            have h13p := ne_of_beq_false h13
            exact fun e => nomatch e
        ·
          have h12p := ne_of_beq_false h12
          exact fun e => nomatch e
      ·
        exact fun e => nomatch e
end Ab
end Go.Proofs.Ytimcbhhebnikiaa
namespace Go.Proofs.Ytimcbhhebnikiaa
open Go Go.Proofs.Ytimcbhhebnikiaa.Ab
set_option linter.unusedVariables false
set_option linter.unusedSimpArgs false
namespace Ab
theorem ids_at {l : List Po} {k : Nat} (hk : k < l.length) : (l.map Po.id).getD k 0 = (poAt l k).id := by
  simp [poAt, hk]
theorem lStateDrops_true (s : Sa) (which : UInt8) (hb : Bg s) : lStateDrops s which = some true := by
  unfold lStateDrops
  have ha : aw11 = some true := rfl
  rw [ha, tc_some, sIds_eqB hb, tc_some, few11_eq, tc_some, tb_not, tb_dec]
  by_cases hf : FewS s
  case neg => rw [if_neg hf]
  have hz := fews_sz hf
  rw [if_pos hf, tb_beq]
  by_cases hs : SOk s
  case neg => rw [cpy_f hs]; rfl
  rw [cpy_t hs, List.length_map]
  by_cases h0 : (s.points.length : Int) = 0
  · rw [if_pos h0]
  have hp4 := hs.2.2.2.1
  have hw : which.toNat < 256 := which.toNat_lt
  rw [if_neg h0, tp_pos (by rw [beq_eq_false_iff_ne]; exact h0), wr_id (x := ((which.toNat : Nat) : Int)) (by omega) (by omega)]
  have ht : Int.tmod ((which.toNat : Nat) : Int) (s.points.length : Int) = ((which.toNat % s.points.length : Nat) : Int) := rfl
  have hlt : which.toNat % s.points.length < s.points.length := Nat.mod_lt _ (by omega)
  rw [ht]
  generalize which.toNat % s.points.length = k at hlt
  rw [tp_pos (by omega), Int.toNat_natCast, Nat.mul_one, ids_at hlt]
  have hid := id_ok hs hlt
  have hid' : 1 ≤ (poAt s.points k).id ∧ (poAt s.points k).id ≤ 2147483647 := by omega
  have hrs := rm_ok hs hlt
  have hrz := rm_sz hz k
  have hno := rm_no hs hlt
  rw [do_drop hz hs hid', tc_some, drS_rm hs hlt]
  dsimp only
  rw [sPoint_eq hrz, tc_some, do_make hrz hrs hid', tc_some, do_drop hrz hrs hid', tc_some, drS_no hno]
  have hpn : pnt (rmS s k) (poAt s.points k).id = (po0, 111) := by
    unfold pnt
    rw [if_pos hrs]
    have : fd (rmS s k).points (poAt s.points k).id = none := by
      unfold fd
      rw [List.find?_eq_none]
      intro p hp
      simpa using hno p hp
    rw [this]; rfl
  have hmk : mkS (rmS s k) (poAt s.points k).id = (rmS s k, 112) := by
    unfold mkS
    rw [if_pos (show (poAt s.points k).id ≤ (rmS s k).last by show _ ≤ s.last; omega)]
  rw [hpn, hmk]
  have hl := rm_len hlt
  rw [sIds_eq hrz, cpy_t hrs, tc_some, List.length_map, hl, wr_id (x := (s.points.length : Int) - 1) (by omega) (by omega), r7All_eq _ _ (by have := hrz.1.1; omega), tc_some]
  have e1 : (rmS s k).gen = s.gen := rfl
  have e2 : (rmS s k).last = s.last := rfl
  have e3 : (rmS s k).map = s.map := rfl
  have e4 : ((s.points.length - 1 : Nat) : Int) = (s.points.length : Int) - 1 := by omega
  simp only [e1, e2, e3, e4, tb_t, beq_self_eq_true, decide_true]
theorem stateDrops_call (s : Sa) (which : UInt8) (h : Sa.ok s) : EvFr Try.prog cf false 7 [s.av, .y which] (.b true) := lStateDrops_ok s which true (lStateDrops_true s which ⟨h.2.2.1.1, h.2.2.2.1.1, fun p hp => (h.2.2.2.1.2 p hp).2.2.1⟩)
end Ab
end Go.Proofs.Ytimcbhhebnikiaa
