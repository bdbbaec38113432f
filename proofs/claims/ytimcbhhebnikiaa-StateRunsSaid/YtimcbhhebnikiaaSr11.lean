/- The law 'StateRuns': it returns true, and nothing that was there changes. No condition. (Part 11 of 12.) -/
import Derived.Test.YtimcbhhebnikiaaSr10
import Derived.Test.YtimcbhhebnikiaaRows
namespace Go.Proofs.Ytimcbhhebnikiaa
open Go Go.Proofs.Ytimcbhhebnikiaa.Ab
set_option linter.unusedVariables false
set_option linter.unusedSimpArgs false
namespace Ab
def lays (blocks : Int) (l o : List Ex) : List Ex × Int := if Mk blocks l then (if ∀ x ∈ o, Fit8 blocks x then (o.foldl put l, 0) else (l, 81)) else ([], 80)
theorem put_take (o l : List Ex) (i : Nat) (hi : i < o.length) : (o.take (i + 1)).foldl put l = put ((o.take i).foldl put l) (exAt o i) := by
  rw [ex_take1 o i hi, List.foldl_append]; rfl
theorem mem_take {o : List Ex} {n : Nat} {P : Ex → Prop} (hn : n ≤ o.length) (h : ∀ j, j < n → P (exAt o j)) : ∀ x ∈ o.take n, P x := by
  intro x hx
  obtain ⟨j, hj, e⟩ := List.getElem_of_mem hx
  rw [List.length_take] at hj
  rw [List.getElem_take] at e
  have := h j (by omega)
  rw [← e]
  have e2 : exAt o j = o[j]'(by omega) := by unfold exAt; simp [show j < o.length by omega]
  rw [← e2]; exact this
def layS (l o : List Ex) (i : Nat) : List Ex × Int := ((o.take (i + 1)).foldl put l, ((i + 1 : Nat) : Int))
theorem layS_0 (l o : List Ex) (h : 0 < o.length) : layS l o 0 = (put l (exAt o 0), 1) := by
  unfold layS; rw [put_take o l 0 h]; rfl
theorem mLay_eq (blocks : Int) (l o : List Ex) (hl : l.length ≤ 4294967296) (ho : o.length ≤ 4294967296) : mLay blocks l o = some (lays blocks l o) := by
  unfold mLay lays
  rw [mCheck_eq _ _ (by omega), tc_some, tb_not]
  by_cases hm : Mk blocks l
  case neg => rw [mk_f hm, if_neg hm]; rfl
  rw [mk_t hm, tb_t, if_pos hm, own_mk hm, tc_some, tb_beq]
  by_cases h0 : o.length = 0
  · have : o = [] := List.eq_nil_of_length_eq_zero h0
    subst this
    rw [if_pos (show (0 : Int) = (([] : List Ex).length : Int) from rfl), if_pos (by simp)]; rfl
  rw [if_neg (by omega), mPut_eq _ _ _ hl, tc_some, tb_bne]
  by_cases f0 : Fit8 blocks (exAt o 0)
  case neg =>
    have e : puts blocks l (exAt o 0) = (l, 81) := by unfold puts; rw [if_pos hm, if_neg f0]
    have hex : ¬ ∀ x ∈ o, Fit8 blocks x := fun h => f0 (h _ (by
      unfold exAt; rw [List.getD_eq_getElem?_getD, List.getElem?_eq_getElem (by omega)]; exact List.getElem_mem _))
    rw [e, if_neg (by simp), tc_some, if_neg hex]
  have e : puts blocks l (exAt o 0) = (put l (exAt o 0), 0) := by unfold puts; rw [if_pos hm, if_pos f0]
  rw [e, if_pos rfl]
  have hQ : (∀ i, i < o.length - 1 → Fit8 blocks (exAt o (i + 1))) ↔ ∀ x ∈ o, Fit8 blocks x := by
    constructor
    · intro h
      have := mem_take (o := o) (n := o.length) (P := Fit8 blocks) (Nat.le_refl _) fun j hj => by
        cases j with
        | zero => exact f0
        | succ j => exact h j (by omega)
      rwa [List.take_length] at this
    · intro h i hi
      refine h _ ?_
      unfold exAt; rw [List.getD_eq_getElem?_getD, List.getElem?_eq_getElem (by omega)]; exact List.getElem_mem _
  have hmk : ∀ i, i < o.length → (∀ j, j < i → Fit8 blocks (exAt o (j + 1))) → Mk blocks ((o.take (i + 1)).foldl put l) := fun i hi h => puts_mk _ _ hm (mem_take (by omega) fun j hj => by
    cases j with
    | zero => exact f0
    | succ j => exact h j (by omega))
  show th (mLay_G0_step blocks l o true l (put l (exAt o 0), 0)) (put l (exAt o 0), 1) _ = _
  rw [← layS_0 l o (by omega)]
  refine Eq.trans (th_first (some (l, 81)) (some (o.foldl put l, 0)) (layS l o) (o.length - 1) (fun i => Fit8 blocks (exAt o (i + 1))) (∀ x ∈ o, Fit8 blocks x) hQ (fun i hi hpre hp => ?_) (fun i hi hpre hp => ?_) (fun hall => ?_)) ?_
  · have hk := hmk i (by omega) hpre
    unfold mLay_G0_step layS
    simp only [tb_beq, tb_bne, Int.toNat_natCast]
    rw [if_neg (by omega), tp_pos (by omega), mPut_eq _ _ _ (by have := mk_len hk; omega), tc_some]
    unfold puts
    rw [if_pos hk, if_pos hp, if_pos rfl, wr_id (by omega) (by omega), put_take _ _ _ (show i + 1 < o.length by omega)]
    simp
  · have hk := hmk i (by omega) hpre
    have e2 : puts blocks ((o.take (i + 1)).foldl put l) (exAt o (i + 1)) = ((o.take (i + 1)).foldl put l, 81) := by unfold puts; rw [if_pos hk, if_neg hp]
    unfold mLay_G0_step layS
    simp only [tb_beq, tb_bne, Int.toNat_natCast]
    rw [mPut_eq _ _ _ (by have := mk_len hk; omega), e2]
    simp only [tc_some]
    rw [if_neg (by omega), tp_pos (by omega), if_neg (by omega), if_neg (by omega), tp_pos (by omega)]
    exact ⟨rfl, rfl⟩
  · unfold mLay_G0_step layS
    simp only [tb_beq]
    rw [if_pos (by omega), if_pos (by omega), show o.length - 1 + 1 = o.length by omega, List.take_length]
    exact ⟨rfl, rfl⟩
  · by_cases hall : ∀ x ∈ o, Fit8 blocks x
    · rw [if_pos hall, if_pos hall]
    · rw [if_neg hall, if_neg hall]
end Ab
end Go.Proofs.Ytimcbhhebnikiaa
namespace Go.Proofs.Ytimcbhhebnikiaa
open Go Go.Proofs.Ytimcbhhebnikiaa.Ab
set_option linter.unusedVariables false
set_option linter.unusedSimpArgs false
namespace Ab
/-- An extent of a generation. -/
def gn (g : Int) (x : Ex) : Ex := ⟨x.lba, x.len, x.kind, g, x.d⟩
def genS (g : Int) (l : List Ex) (i : Nat) : List Ex := (l.take i).map (gn g) ++ l.drop i
theorem genS_len (g : Int) (l : List Ex) (i : Nat) (hi : i ≤ l.length) : (genS g l i).length = l.length := by simp [genS]; omega
theorem genS_at (g : Int) (l : List Ex) (i : Nat) (hi : i < l.length) : exAt (genS g l i) i = exAt l i := by
  have hl : ((l.take i).map (gn g)).length = i := by simp; omega
  unfold exAt genS
  rw [List.getD_eq_getElem?_getD, List.getD_eq_getElem?_getD, List.getElem?_append_right (by omega), hl, List.getElem?_drop]
  simp
theorem genS_set (g : Int) (l : List Ex) (i : Nat) (hi : i < l.length) : (genS g l i).set i (gn g (exAt l i)) = genS g l (i + 1) := by
  have hl : ((l.take i).map (gn g)).length = i := by simp; omega
  unfold genS
  rw [drop_at ⟨0, 0, 0, 0, []⟩ l i hi, List.set_append_right _ _ (by omega), hl, Nat.sub_self, List.set_cons_zero, take_at ⟨0, 0, 0, 0, []⟩ l i hi, List.map_append, List.append_assoc]
  rfl
/-- One round of what sets generations. -/
noncomputable def genB (g : Int) (l : List Ex) (s7 : Int × List Ex) : Option (Int × List Ex) :=
 (tb ((decide (s7.1 < (l.length : Int))))
  (tp (((0 ≤ s7.1) ∧ (s7.1 < (l.length : Int))))
   (tp ((((List.length [(AV.i g)]) = 1) ∧ ((((0 + (s7.1.toNat * 5)) + 3) + (List.length [(AV.i g)])) ≤ (List.length (List.flatMap Ex.cells s7.2)))))
    (some (((wr (s7.1 + 1)), (List.set s7.2 s7.1.toNat (Ex.mk (exAt s7.2 s7.1.toNat).lba (exAt s7.2 s7.1.toNat).len (exAt s7.2 s7.1.toNat).kind g (exAt s7.2 s7.1.toNat).d)))))))
  none)
theorem genB_run {α : Type} (g : Int) (l : List Ex) (hl : l.length ≤ 4294967296) (f : Int × List Ex → Option α) : th (genB g l) (0, l) f = f ((l.length : Int), l.map (gn g)) := by
  have h0 : ((0 : Int), l) = (((0 : Nat) : Int), genS g l 0) := by simp [genS]
  rw [h0, th_run (step := genB g l) (f := f) (fun i => ((i : Int), genS g l i)) l.length]
  · simp [genS]
  · intro i hi
    unfold genB
    simp only [tb_dec, Int.toNat_natCast]
    rw [if_pos (by omega), tp_pos (by omega), tp_pos ⟨rfl, by rw [exs_len, genS_len g l i (by omega)]; simp; omega⟩, wr_id (by omega) (by omega), genS_at g l i hi]
    exact congrArg some (Prod.ext (by simp) (genS_set g l i hi))
  · unfold genB
    simp only [tb_dec]
    rw [if_neg (by omega)]
theorem th_ix {α β : Type} (l : List β) (d : β) (p : β → Bool) {step : Int → Option Int} {f : Int → Option α} (hs : ∀ i : Nat, i < l.length → p (l.getD i d) = false → step (i : Int) = some ((i : Int) + 1)) (hf : ∀ i : Nat, i < l.length → p (l.getD i d) = true → step (i : Int) = none) (he : step (l.length : Int) = none) : th step 0 f = f ((l.findIdx p : Nat) : Int) := by
  have gd : ∀ i (hi : i < l.length), l.getD i d = l[i] := fun i hi => by simp [hi]
  have hle : l.findIdx p ≤ l.length := List.findIdx_le_length
  have := th_run (step := step) (f := f) (fun i => (i : Int)) (l.findIdx p) (fun i hi => hs i (by omega) (by
    rw [gd i (by omega)]
    have := List.not_of_lt_findIdx hi
    simpa using this)) (by
    rcases Nat.lt_or_ge (l.findIdx p) l.length with g | g
    · exact hf _ g (by rw [gd _ g]; exact List.findIdx_getElem (w := g))
    · have : l.findIdx p = l.length := by omega
      rw [this]; exact he)
  simpa using this
/-- Extents laid over a state's map, of its generation. -/
def lyS (s : Sa) (o : List Ex) : Sa × Int :=
  if (lays s.blocks s.map (o.map (gn s.gen))).2 = 0 then (⟨s.blocks, s.gen, (lays s.blocks s.map (o.map (gn s.gen))).1, s.points, s.last, s.staged⟩, 0) else (s, (lays s.blocks s.map (o.map (gn s.gen))).2)
/-- A checkpoint made. -/
def mkS (s : Sa) (id : Int) : Sa × Int :=
  if id ≤ s.last then (s, 112) else if s.points.length = 4 then (s, 113) else if s.gen = 2147483647 then (s, 113) else (⟨s.blocks, s.gen + 1, s.map, s.points ++ [⟨id, s.gen, s.map⟩], id, s.staged⟩, 0)
def ixP (l : List Po) (id : Int) : Nat := l.findIdx fun p => p.id == id
/-- One dropped. -/
def drS (s : Sa) (id : Int) : Sa × Int :=
  if ixP s.points id < s.points.length then (⟨s.blocks, s.gen, s.map, s.points.take (ixP s.points id) ++ s.points.drop (ixP s.points id + 1), s.last, s.staged⟩, 0) else (s, 111)
/-- Bytes that wait. -/
def stS (s : Sa) (d : List UInt8) : Sa × Int :=
  if (d.length : Int) > 4000 - s.staged.length then (s, 113) else (⟨s.blocks, s.gen, s.map, s.points, s.last, s.staged ++ d⟩, 0)
def abS (s : Sa) : Sa := ⟨s.blocks, s.gen, s.map, s.points, s.last, []⟩
def apS (s : Sa) (c : Ch) : Sa × Int :=
  if (lyS s c.list).2 = 0 then (if (mkS (lyS s c.list).1 c.id).2 = 0 then (abS (mkS (lyS s c.list).1 c.id).1, 0) else (s, (mkS (lyS s c.list).1 c.id).2)) else (s, (lyS s c.list).2)
/-- A change, by its kind. -/
def doK (s : Sa) (c : Ch) : Sa × Int :=
  if c.kind = 1 then lyS s [⟨c.lba, c.n, 2, 0, c.d⟩] else if c.kind = 2 then lyS s [⟨c.lba, c.n, 1, 0, []⟩] else if c.kind = 3 then lyS s [⟨c.lba, c.n, 0, 0, []⟩] else
  if c.kind = 4 then mkS s c.id else if c.kind = 5 then drS s c.id else if c.kind = 6 then stS s c.d else if c.kind = 7 then (abS s, 0) else apS s c
open Classical in
noncomputable def doS (s : Sa) (c : Ch) : Sa × Int := if SOk s then (if CkH c then doK s c else (s, 100)) else (sa0, 110)
theorem doS_t {s : Sa} {c : Ch} (h : SOk s) (hc : CkH c) : doS s c = doK s c := by unfold doS; rw [if_pos h, if_pos hc]
theorem doS_c {s : Sa} {c : Ch} (h : SOk s) (hc : ¬ CkH c) : doS s c = (s, 100) := by unfold doS; rw [if_pos h, if_neg hc]
theorem doS_f {s : Sa} {c : Ch} (h : ¬ SOk s) : doS s c = (sa0, 110) := by unfold doS; rw [if_neg h]
/-- Is a change small? -/
def Hz (c : Ch) : Prop := c.d.length ≤ 1000000 ∧ Sx c.list
theorem mk_sx {b : Int} {l : List Ex} (h : Mk b l) : Sx l := ⟨by have := mk_len h; omega, fun x hx => by have := ck_dlen (mk_cks h x hx); omega⟩
theorem lays_sx {b : Int} {m o : List Ex} (h : (lays b m o).2 = 0) : Sx (lays b m o).1 ∧ Mk b m ∧ (∀ x ∈ o, Fit8 b x) ∧ (lays b m o).1 = o.foldl put m := by
  unfold lays at h ⊢
  by_cases h1 : Mk b m
  · by_cases h2 : ∀ x ∈ o, Fit8 b x
    · rw [if_pos h1, if_pos h2]; exact ⟨mk_sx (puts_mk o m h1 h2), h1, h2, rfl⟩
    · rw [if_pos h1, if_neg h2] at h; cases h
  · rw [if_neg h1] at h; cases h
theorem lyS_sz {s : Sa} (h : Sz s) (o : List Ex) : Sz (lyS s o).1 := by
  unfold lyS
  split
  · rename_i h0; exact ⟨(lays_sx h0).1, h.2.1, h.2.2.1, h.2.2.2⟩
  · exact h
theorem sDo_eq {s : Sa} {c : Ch} (hz : Sz s) (hc : Hz c) : sDo s c = some (doS s c) := by
  unfold sDo
  rw [sCheck_eq hz, tc_some, tb_bne]
  by_cases hs : SOk s
  case neg => rw [st_f hs, if_neg (by omega), doS_f hs]; rfl
  rw [st_t hs, if_pos rfl, cCheck_eq c (by have := hc.2.1; omega), tc_some, tb_not, tb_dec]
  simp only [sCopy_eq hz, cpy_t hs, tc_some, tb_dec, tb_beq]
  by_cases hk : CkH c
  case neg => rw [if_neg hk, doS_c hs hk, tp_pos ⟨trivial, exs_len _⟩]
  rw [if_pos hk, doS_t hs hk]
  have kk := ckh_kind hk
  have hone : ∀ x : Ex, x.d.length ≤ 1000000 → Sx [x] := fun x hx => by
    refine ⟨by simp, fun y hy => ?_⟩
    have e : y = x := by simpa using hy
    rw [e]; exact hx
  have hw : wr (s.gen + 1) = s.gen + 1 := by have := hs; unfold SOk at this; exact wr_id (by omega) (by omega)
  unfold doK
  by_cases k1 : c.kind = 1
  · rw [if_pos (by omega), if_pos k1, sExtents_eq (hone _ hc.1), tc_some]
    refine (genB_run s.gen _ (by simp) _).trans ?_
    rw [if_neg (by simp), tp_pos ⟨trivial, exs_len _⟩, tp_pos ⟨trivial, by rw [exs_len]; simp⟩, mLay_eq _ _ _ (by have := hz.1.1; omega) (by simp), tc_some]
    unfold lyS
    show (if (lays s.blocks s.map (List.map (gn s.gen) [_])).2 = 0 then _ else _) = _
    split <;> rfl
  rw [if_neg (by omega), if_neg k1]
  by_cases k2 : c.kind = 2
  · rw [if_pos (by omega), if_pos k2, sExtents_eq (hone _ (by simp)), tc_some]
    refine (genB_run s.gen _ (by simp) _).trans ?_
    rw [if_neg (by simp), tp_pos ⟨trivial, exs_len _⟩, tp_pos ⟨trivial, by rw [exs_len]; simp⟩, mLay_eq _ _ _ (by have := hz.1.1; omega) (by simp), tc_some]
    unfold lyS
    show (if (lays s.blocks s.map (List.map (gn s.gen) [_])).2 = 0 then _ else _) = _
    split <;> rfl
  rw [if_neg (by omega), if_neg k2]
  by_cases k3 : c.kind = 3
  · rw [if_pos (by omega), if_pos k3, sExtents_eq (hone _ (by simp)), tc_some]
    refine (genB_run s.gen _ (by simp) _).trans ?_
    rw [if_neg (by simp), tp_pos ⟨trivial, exs_len _⟩, tp_pos ⟨trivial, by rw [exs_len]; simp⟩, mLay_eq _ _ _ (by have := hz.1.1; omega) (by simp), tc_some]
    unfold lyS
    show (if (lays s.blocks s.map (List.map (gn s.gen) [_])).2 = 0 then _ else _) = _
    split <;> rfl
  rw [if_neg (by omega), if_neg k3]
  have hpl : ∀ l : List Ex, (List.length ((List.flatMap Po.cells s.points) ++ [(AV.i c.id), (AV.i s.gen), (AV.rf 9 5 0 l.length)])) = (s.points.length + 1) * 3 := fun l => by rw [List.length_append, pos_len]; simp; omega
  by_cases k4 : c.kind = 4
  · rw [if_pos (by omega), if_pos k4]
    unfold mkS
    by_cases h1 : c.id ≤ s.last
    · rw [if_pos h1, if_pos h1, tp_pos ⟨trivial, exs_len _⟩]
    rw [if_neg h1, if_neg h1]
    by_cases h2 : s.points.length = 4
    · rw [if_pos (by omega), if_pos h2, tp_pos ⟨trivial, exs_len _⟩]
    rw [if_neg (by omega), if_neg h2]
    by_cases h3 : s.gen = 2147483647
    · rw [if_pos h3, if_pos h3, tp_pos ⟨trivial, exs_len _⟩]
    rw [if_neg h3, if_neg h3, tp_pos ⟨trivial, exs_len _⟩, sExtents_eq hz.1, tc_some, tp_pos ⟨pos_len _, by have := hz.2.1; omega⟩, tp_pos ⟨trivial, by first | exact hpl _ | (rw [List.length_append, pos_len]; simp; omega)⟩, hw, List.take_length]
  rw [if_neg (by omega), if_neg k4]
  by_cases k5 : c.kind = 5
  · rw [if_pos (by omega), if_pos k5]
    have hp := hz.2.1
    refine (th_ix s.points ⟨0, 0, []⟩ (fun p => p.id == c.id) ?_ ?_ ?_).trans ?_
    · intro i hi hp
      unfold sDo_L3_step
      have hp' : ¬ (poAt s.points i).id = c.id := by simpa [poAt] using hp
      simp only [tb_dec, tb_beq, Int.toNat_natCast]
      rw [if_pos (by omega), tp_pos (by omega), if_neg hp', wr_id (by omega) (by omega)]
    · intro i hi hp
      unfold sDo_L3_step
      have hp' : (poAt s.points i).id = c.id := by simpa [poAt] using hp
      simp only [tb_dec, tb_beq, Int.toNat_natCast]
      rw [if_pos (by omega), tp_pos (by omega), if_pos hp']
    · unfold sDo_L3_step
      simp only [tb_dec]
      rw [if_neg (by omega)]
    · have hle : ixP s.points c.id ≤ s.points.length := List.findIdx_le_length
      have hix : List.findIdx (fun p => p.id == c.id) s.points = ixP s.points c.id := rfl
      rw [hix]
      simp only [Int.toNat_natCast]
      unfold drS
      by_cases h : ixP s.points c.id < s.points.length
      · have hid : (poAt s.points (ixP s.points c.id)).id = c.id := by
          have := List.findIdx_getElem (p := fun p : Po => p.id == c.id) (w := h)
          unfold poAt
          rw [List.getD_eq_getElem?_getD, List.getElem?_eq_getElem h]
          exact eq_of_beq this
        rw [if_pos (by omega), if_pos h, tp_pos (by omega), if_pos hid, if_neg (by omega), tp_pos (by omega), tp_pos (pos_len _), tp_pos (wr_id (by omega) (by omega)), tp_pos ⟨trivial, exs_len _⟩, tp_pos ⟨trivial, by rw [pos_len]; simp; omega⟩]
      · rw [if_neg (by omega), if_neg h, tp_pos ⟨trivial, exs_len _⟩]
  rw [if_neg (by omega), if_neg k5]
  by_cases k6 : c.kind = 6
  · have h4 : wr (4000 - (s.staged.length : Int)) = 4000 - (s.staged.length : Int) := wr_id (by have := hz.2.2.2; omega) (by omega)
    rw [if_pos (by omega), if_pos k6, h4]
    unfold stS
    by_cases h1 : (c.d.length : Int) > 4000 - (s.staged.length : Int)
    · rw [if_pos h1, if_pos h1, tp_pos ⟨trivial, exs_len _⟩]
    · rw [if_neg h1, if_neg h1, tp_pos ⟨by simp, by have := hz.2.2.2; have := hc.1; omega⟩, tp_pos ⟨trivial, exs_len _⟩]
  rw [if_neg (by omega), if_neg k6]
  by_cases k7 : c.kind = 7
  · rw [if_pos (by omega), if_pos k7, tp_pos ⟨trivial, exs_len _⟩]
    rfl
  rw [if_neg (by omega), if_neg k7, if_pos (by omega), sExtents_eq hc.2, tc_some]
  refine (genB_run s.gen _ (by have := hc.2.1; omega) _).trans ?_
  rw [if_neg (by simp), tp_pos ⟨trivial, exs_len _⟩, tp_pos ⟨trivial, by rw [exs_len]; simp⟩, mLay_eq _ _ _ (by have := hz.1.1; omega) (by simp; have := hc.2.1; omega), tc_some]
  unfold apS lyS
  show (if (lays s.blocks s.map (List.map (gn s.gen) c.list)).2 = 0 then _ else _) = _
  by_cases h0 : (lays s.blocks s.map (c.list.map (gn s.gen))).2 = 0
  case neg => rw [if_neg h0, if_neg h0, if_neg h0]
  rw [if_pos h0, if_pos h0, if_pos rfl]
  unfold mkS
  simp only
  by_cases h1 : c.id ≤ s.last
  · rw [if_pos h1, if_pos h1]; rfl
  rw [if_neg h1, if_neg h1]
  by_cases h2 : s.points.length = 4
  · rw [if_pos (by omega), if_pos h2]; rfl
  rw [if_neg (by omega), if_neg h2]
  by_cases h3 : s.gen = 2147483647
  · rw [if_pos h3, if_pos h3]; rfl
  rw [if_neg h3, if_neg h3, sExtents_eq (lays_sx h0).1, tc_some, tp_pos ⟨pos_len _, by have := hz.2.1; omega⟩, tp_pos ⟨trivial, by rw [List.length_append, pos_len]; simp; omega⟩, hw, List.take_length]
  rfl
theorem doS_sz {s : Sa} {c : Ch} (hz : Sz s) (hc : Hz c) : Sz (doS s c).1 := by
  by_cases hs : SOk s
  case neg => rw [doS_f hs]; exact ⟨⟨by simp [sa0], fun x hx => by cases hx⟩, by simp [sa0], fun p hp => (by cases hp), by simp [sa0]⟩
  by_cases hk : CkH c
  case neg => rw [doS_c hs hk]; exact hz
  rw [doS_t hs hk]
  have h4 : s.points.length ≤ 4 ∧ s.staged.length ≤ 4000 := by unfold SOk at hs; omega
  have hm : ∀ (s' : Sa) (id : Int), Sz s' → s'.points = s.points → Sz (mkS s' id).1 := by
    intro s' id h' e
    unfold mkS
    split
    · exact h'
    split
    · exact h'
    split
    · exact h'
    · refine ⟨h'.1, by simp [e]; omega, fun p hp => ?_, h'.2.2.2⟩
      simp only [List.mem_append, List.mem_singleton] at hp
      rcases hp with hp | rfl
      · exact h'.2.2.1 p hp
      · exact h'.1
  unfold doK
  split
  · exact lyS_sz hz _
  split
  · exact lyS_sz hz _
  split
  · exact lyS_sz hz _
  split
  · exact hm s _ hz rfl
  split
  · unfold drS
    split
    · refine ⟨hz.1, by simp; omega, fun p hp => ?_, hz.2.2.2⟩
      simp only [List.mem_append] at hp
      rcases hp with hp | hp
      · exact hz.2.2.1 p (List.mem_of_mem_take hp)
      · exact hz.2.2.1 p (List.mem_of_mem_drop hp)
    · exact hz
  split
  · unfold stS
    split
    · exact hz
    · exact ⟨hz.1, hz.2.1, hz.2.2.1, by simp; omega⟩
  split
  · exact ⟨hz.1, hz.2.1, hz.2.2.1, by simp [abS]⟩
  · unfold apS
    have hl : (lyS s c.list).1.points = s.points := by unfold lyS; split <;> rfl
    split
    · split
      · have := hm _ c.id (lyS_sz hz c.list) hl
        exact ⟨this.1, this.2.1, this.2.2.1, by simp [abS]⟩
      · exact hz
    · exact hz
end Ab
end Go.Proofs.Ytimcbhhebnikiaa
namespace Go.Proofs.Ytimcbhhebnikiaa
open Go Go.Proofs.Ytimcbhhebnikiaa.Ab
set_option linter.unusedVariables false
set_option linter.unusedSimpArgs false
namespace Ab
def new (blocks : Int) : List Ex := [⟨0, blocks, 0, 0, []⟩]
end Ab
end Go.Proofs.Ytimcbhhebnikiaa
namespace Go.Proofs.Ytimcbhhebnikiaa
open Go Go.Proofs.Ytimcbhhebnikiaa.Ab
set_option linter.unusedVariables false
set_option linter.unusedSimpArgs false
namespace Ab
def s1 (b : Int) : Sa := ⟨b, 1, new b, [], 0, []⟩
end Ab
end Go.Proofs.Ytimcbhhebnikiaa
namespace Go.Proofs.Ytimcbhhebnikiaa
open Go Go.Proofs.Ytimcbhhebnikiaa.Ab
set_option linter.unusedVariables false
set_option linter.unusedSimpArgs false
set_option maxRecDepth 1000000
set_option maxHeartbeats 0
namespace Ab
noncomputable abbrev sRun_L0_I (s : Sa) (l : List Ch) : St := (St.mk [(0, (AV.ag [(AV.i s.blocks), (AV.i s.gen), (exs s.map), (AV.sl s.points.length (List.flatMap Po.cells s.points)), (AV.i s.last), (bys s.staged)])), (1, (AV.sl l.length (List.flatMap Ch.cells l))), (2, (AV.pt 0 0)), (4, (AV.pt 1 0)), (5, (AV.i 0)), (6, (AV.i 0)), (11, (AV.sl l.length (List.flatMap Ch.cells l))), (12, (AV.i (l.length : Int))), (13, (AV.i 0))] 35 (AH.mk 2 [(1, (AObj.cells [(AV.i 0), (AV.i 0), AV.nl, AV.nl, (AV.i 0), AV.nl])), (0, (AObj.cells [(AV.i s.blocks), (AV.i s.gen), (exs s.map), (AV.sl s.points.length (List.flatMap Po.cells s.points)), (AV.i s.last), (bys s.staged)]))]) Bool.false)
noncomputable abbrev sRun_L0_S (s : Sa) (l : List Ch) (s0 : Int × Int × Int × List Ex × List Po × Int × List UInt8) : St := (St.mk [(0, (AV.ag [(AV.i s.blocks), (AV.i s.gen), (exs s.map), (AV.sl s.points.length (List.flatMap Po.cells s.points)), (AV.i s.last), (bys s.staged)])), (1, (AV.sl l.length (List.flatMap Ch.cells l))), (2, (AV.pt 0 0)), (4, (AV.pt 1 0)), (11, (AV.sl l.length (List.flatMap Ch.cells l))), (12, (AV.i (l.length : Int))), (13, (AV.i s0.1))] 35 (AH.mk 2 [(1, (AObj.cells [(AV.i 0), (AV.i 0), AV.nl, AV.nl, (AV.i 0), AV.nl])), (0, (AObj.cells [(AV.i s0.2.1), (AV.i s0.2.2.1), (exs s0.2.2.2.1), (pos s0.2.2.2.2.1), (AV.i s0.2.2.2.2.2.1), (bys s0.2.2.2.2.2.2)]))]) Bool.false)
noncomputable def sRun_L0_step (s : Sa) (l : List Ch) (s0 : Int × Int × Int × List Ex × List Po × Int × List UInt8) : Option (Int × Int × Int × List Ex × List Po × Int × List UInt8) :=
 (tb ((decide (s0.1 < (l.length : Int))))
  (tp ((((0 : Int) ≤ s0.1) ∧ (s0.1 < (l.length : Int))))
   (tc (sDo ((Sa.mk s0.2.1 s0.2.2.1 s0.2.2.2.1 s0.2.2.2.2.1 s0.2.2.2.2.2.1 s0.2.2.2.2.2.2)) ((chAt l s0.1.toNat))) fun s3 =>
    (tb ((s3.2 != (0 : Int)))
     none /- exit -/
     (some (((wr (s0.1 + (1 : Int))), (s3.1.blocks, (s3.1.gen, (s3.1.map, (s3.1.points, (s3.1.last, s3.1.staged)))))))))))
  none /- exit -/)
theorem sRun_L0_ok (s : Sa) (l : List Ch) (s0 zz : Int × Int × Int × List Ex × List Po × Int × List UInt8) : sRun_L0_step s l s0 = some zz → EvStep Try.prog cf 2 (lp Try.prog 27 0) (sRun_L0_S s l s0) (sRun_L0_S s l zz) := by
  unfold sRun_L0_step
  refine tb_ok (fun h1 => ?_) (fun h1 => ?_)
  ·
    have h1p := of_decide_eq_true h1
    refine tp_ok (fun h2 => ?_)
    refine tc_ok (fun s3 h3 => ?_)
    refine tb_ok (fun h4 => ?_) (fun h4 => ?_)
    ·
      have h4p := bne_iff_ne.1 h4
      exact fun e => nomatch e
    ·
      have h4p := bne_eq_false_iff_eq.1 h4
      intro e; injection e with e; subst e
      exact leafIS vw_eq (k := 300) (r := []) (hs := hz [(1, [.yes]), (1, [.yes, .yes, .cells ((Ch.cells (chAt l s0.1.toNat)))]), (3, [.fc]), (1, [.fc]), (1, [.fc]), (1, [.fres (.tu [Sa.av (s3.1), .i (s3.2)])]), (5, [.fc]), (3, [.no]), (1, [.fc]), (1, [.fc]), (2, [])]) (ks := [0, 1, 2, 4, 11, 12, 13]) (bs := [1, 0]) kq (ac h1 (ac h2 (ac (fq (p := ((6 : Nat) ≤ (List.length (List.drop (s0.1.toNat * 6) (List.flatMap Ch.cells l)))))) (ac (show (List.take 6 (List.drop (s0.1.toNat * 6) (List.flatMap Ch.cells l))) = (Ch.cells (chAt l s0.1.toNat)) from (ch_takeO bq bq)) (ac (sDo_ok ((Sa.mk s0.2.1 s0.2.2.1 s0.2.2.2.1 s0.2.2.2.2.1 s0.2.2.2.2.2.1 s0.2.2.2.2.2.2)) ((chAt l s0.1.toNat)) _ h3) (ac h4 an)))))) kq
  ·
    have h1p := of_decide_eq_false h1
    exact fun e => nomatch e
/-- Function 27, as it answers. -/
noncomputable def sRun (s : Sa) (l : List Ch) : Option (Sa × Int × Int) :=
 (th (sRun_L0_step s l) (((0 : Int), (s.blocks, (s.gen, (s.map, (s.points, (s.last, s.staged))))))) fun s0 =>
  (tb ((decide (s0.1 < (l.length : Int))))
   (tp ((((0 : Int) ≤ s0.1) ∧ (s0.1 < (l.length : Int))))
    (tc (sDo ((Sa.mk s0.2.1 s0.2.2.1 s0.2.2.2.1 s0.2.2.2.2.1 s0.2.2.2.2.2.1 s0.2.2.2.2.2.2)) ((chAt l s0.1.toNat))) fun s3 =>
     (tb ((s3.2 != (0 : Int)))
      (some ((s3.1, (s0.1, s3.2))))
      none /- stop behind an operation -/)))
   (tc (sCopy ((Sa.mk s0.2.1 s0.2.2.1 s0.2.2.2.1 s0.2.2.2.2.1 s0.2.2.2.2.2.1 s0.2.2.2.2.2.2))) fun s2 =>
    (tp ((((0 : Nat) = (0 : Nat)) ∧ ((List.length (List.flatMap Ex.cells s2.map)) = (s2.map.length * 5))))
     (some ((s2, ((l.length : Int), (0 : Int)))))))))
abbrev sRun_G (s : Sa) (l : List Ch) (r : Sa × Int × Int) : Prop := EvFr Try.prog cf false 27 [Sa.av (s), chs (l)] (.tu [Sa.av (r.1), .i (r.2.1), .i (r.2.2)])
theorem sRun_ok (s : Sa) (l : List Ch) (r : Sa × Int × Int) : sRun s l = some r → sRun_G s l r := by
  unfold sRun
  refine th_ok (fun s0 h0 => ?_)
  refine tb_ok (fun h1 => ?_) (fun h1 => ?_)
  ·
    have h1p := of_decide_eq_true h1
    refine tp_ok (fun h2 => ?_)
    refine tc_ok (fun s3 h3 => ?_)
    refine tb_ok (fun h4 => ?_) (fun h4 => ?_)
    ·
      have h4p := bne_iff_ne.1 h4
      intro e; injection e with e; subst e
      exact leafR vw_eq (k := 300) (r := []) (hs := hz [(7, [.head (sRun_L0_S s l s0)]), (1, [.yes]), (1, [.yes, .yes, .cells ((Ch.cells (chAt l s0.1.toNat)))]), (3, [.fc]), (1, [.fc]), (1, [.fc]), (1, [.fres (.tu [Sa.av (s3.1), .i (s3.2)])]), (5, [.fc]), (3, [.yes]), (1, [.fc]), (3, [.fc]), (3, [.fc])]) (raw := (AV.tu [(AV.ag [(AV.i s3.1.blocks), (AV.i s3.1.gen), (exs s3.1.map), (AV.sl s3.1.points.length (List.flatMap Po.cells s3.1.points)), (AV.i s3.1.last), (bys s3.1.staged)]), (AV.i s0.1), (AV.i s3.2)])) kq (ac (show EvHead Try.prog cf (lp Try.prog 27 0) (sRun_L0_I s l) (sRun_L0_S s l s0) from (EvHead.of (sRun_L0_ok s l) (absB_of [] [] kq (.consn kq (.agp pq) (.consn kq (.eqv tq rfl) (.consn kq (.pt rfl) (.consn kq (.pt rfl) (.consn kq (.eqv tq rfl) (.consn kq (.eqv tq rfl) (.consn kq (.eqv tq rfl) .nil))))))) (.cons (.old rfl rfl (.cells (.cons (.eqv tq rfl) (.cons (.eqv tq rfl) (.cons .nl0 (.cons .nl0 (.cons (.eqv tq rfl) (.cons .nl0 .nil)))))))) (.cons (.old rfl rfl (.cells (.cons (.eqv tq rfl) (.cons (.eqv tq rfl) (.cons (.eqv tq rfl) (.cons (.eqv tq rfl) (.cons (.eqv tq rfl) (.cons (.eqv tq rfl) .nil)))))))) .nil))) h0)) (ac h1 (ac h2 (ac (fq (p := ((6 : Nat) ≤ (List.length (List.drop (s0.1.toNat * 6) (List.flatMap Ch.cells l)))))) (ac (show (List.take 6 (List.drop (s0.1.toNat * 6) (List.flatMap Ch.cells l))) = (Ch.cells (chAt l s0.1.toNat)) from (ch_takeO bq bq)) (ac (sDo_ok ((Sa.mk s0.2.1 s0.2.2.1 s0.2.2.2.1 s0.2.2.2.2.1 s0.2.2.2.2.2.1 s0.2.2.2.2.2.2)) ((chAt l s0.1.toNat)) _ h3) (ac h4 an))))))) tq
    ·
      have h4p := bne_eq_false_iff_eq.1 h4
      exact fun e => nomatch e
  ·
    have h1p := of_decide_eq_false h1
    refine tc_ok (fun s2 h2 => ?_)
    refine tp_ok (fun h3 => ?_)
    intro e; injection e with e; subst e
    exact leafR vw_eq (k := 300) (r := []) (hs := hz [(7, [.head (sRun_L0_S s l s0)]), (1, [.no]), (1, [.fc]), (1, [.fres (Sa.av (s2))]), (3, [.fc]), (3, [.fc, .yes, .yes, .yes, .yes, .yes, .yes])]) (raw := (AV.tu [(AV.ag [(AV.i s2.blocks), (AV.i s2.gen), (exs s2.map), (AV.sl s2.points.length (List.flatMap Po.cells s2.points)), (AV.i s2.last), (bys s2.staged)]), (AV.i (l.length : Int)), (AV.i 0)])) kq (ac (show EvHead Try.prog cf (lp Try.prog 27 0) (sRun_L0_I s l) (sRun_L0_S s l s0) from (EvHead.of (sRun_L0_ok s l) (absB_of [] [] kq (.consn kq (.agp pq) (.consn kq (.eqv tq rfl) (.consn kq (.pt rfl) (.consn kq (.pt rfl) (.consn kq (.eqv tq rfl) (.consn kq (.eqv tq rfl) (.consn kq (.eqv tq rfl) .nil))))))) (.cons (.old rfl rfl (.cells (.cons (.eqv tq rfl) (.cons (.eqv tq rfl) (.cons .nl0 (.cons .nl0 (.cons (.eqv tq rfl) (.cons .nl0 .nil)))))))) (.cons (.old rfl rfl (.cells (.cons (.eqv tq rfl) (.cons (.eqv tq rfl) (.cons (.eqv tq rfl) (.cons (.eqv tq rfl) (.cons (.eqv tq rfl) (.cons (.eqv tq rfl) .nil)))))))) .nil))) h0)) (ac h1 (ac (sCopy_ok ((Sa.mk s0.2.1 s0.2.2.1 s0.2.2.2.1 s0.2.2.2.2.1 s0.2.2.2.2.2.1 s0.2.2.2.2.2.2)) _ h2) (ac h3 (ac (pq (p := Pl Bool.false ((List.flatMap Ex.cells s2.map)))) (ac (fq (p := (((0 : Nat) = (0 : Nat)) ∧ ((List.length (List.flatMap Po.cells s2.points)) = (s2.points.length * 3))))) (ac (pq (p := Pl Bool.false ((List.flatMap Po.cells s2.points)))) (ac (tq (p := (((0 : Nat) = (0 : Nat)) ∧ ((List.length (List.map AV.y s2.staged)) = (s2.staged.length * 1))))) (ac (pq (p := Pl Bool.false ((List.map AV.y s2.staged)))) an))))))))) tq
end Ab
end Go.Proofs.Ytimcbhhebnikiaa
namespace Go.Proofs.Ytimcbhhebnikiaa
open Go Go.Proofs.Ytimcbhhebnikiaa.Ab
set_option linter.unusedVariables false
set_option linter.unusedSimpArgs false
namespace Ab
theorem sa0_no : ¬ SOk sa0 := fun h => by have := h.2.1; simp [sa0] at this
theorem sa0_sz : Sz sa0 := ⟨⟨by simp [sa0], fun x hx => by cases hx⟩, by simp [sa0], fun p hp => (by cases hp), by simp [sa0]⟩
theorem cpy_sz {s : Sa} (h : Sz s) : Sz (cpy s) := by
  by_cases hs : SOk s
  · rw [cpy_t hs]; exact h
  · rw [cpy_f hs]; exact sa0_sz
/-- Changes one behind the other. -/
noncomputable def runL : Sa → List Ch → Int → Sa × Int × Int
  | s, [], i => (cpy s, i, 0)
  | s, c :: l, i => if (doS s c).2 = 0 then runL (doS s c).1 l (i + 1) else ((doS s c).1, i, (doS s c).2)
theorem runL_cons (s : Sa) (c : Ch) (l : List Ch) (i : Int) : runL s (c :: l) i = if (doS s c).2 = 0 then runL (doS s c).1 l (i + 1) else ((doS s c).1, i, (doS s c).2) := rfl
abbrev tp7 (i : Int) (s : Sa) : Int × Int × Int × List Ex × List Po × Int × List UInt8 := (i, (s.blocks, (s.gen, (s.map, (s.points, (s.last, s.staged))))))
theorem sRun_eq {s : Sa} {l : List Ch} (hz : Sz s) (hl : l.length ≤ 1000000) (hc : ∀ c ∈ l, Hz c) : sRun s l = some (runL s l 0) := by
  have hat : ∀ i, i < l.length → Hz (chAt l i) := (chAt_all l Hz).2 hc
  unfold sRun
  have key : ∀ f, (∀ (i : Nat) (t : Sa), i ≤ l.length → Sz t → (i = l.length ∨ (i < l.length ∧ (doS t (chAt l i)).2 ≠ 0)) → f (tp7 (i : Int) t) = some (runL t (l.drop i) (i : Int))) → th (sRun_L0_step s l) (tp7 0 s) f = some (runL s l 0) := by
    intro f hf
    have := th_rec (step := sRun_L0_step s l) (f := f) (s0 := tp7 0 s) (fun q => some (runL ⟨q.2.1, q.2.2.1, q.2.2.2.1, q.2.2.2.2.1, q.2.2.2.2.2.1, q.2.2.2.2.2.2⟩ (l.drop q.1.toNat) q.1)) (fun q => ∃ (i : Nat) (t : Sa), q = tp7 (i : Int) t ∧ i ≤ l.length ∧ Sz t) (fun q => l.length - q.1.toNat) ⟨0, s, rfl, by omega, hz⟩ ?_
    · rw [this]; rfl
    · rintro q ⟨i, t, rfl, hi, ht⟩
      by_cases h : i < l.length
      · have hdo := sDo_eq ht (hat i h)
        by_cases h0 : (doS t (chAt l i)).2 = 0
        · refine .inl ⟨tp7 ((i : Int) + 1) (doS t (chAt l i)).1, ?_, ⟨i + 1, _, rfl, by omega, doS_sz ht (hat i h)⟩, ?_, ?_⟩
          · unfold sRun_L0_step
            simp only [tp7, tb_dec, Int.toNat_natCast]
            rw [if_pos (by omega), tp_pos (by omega), hdo, tc_some, tb_bne, if_pos h0, wr_id (by omega) (by omega)]
          · simp only [tp7]; omega
          · simp only [tp7, Int.toNat_natCast]
            rw [show ((i : Int) + 1).toNat = i + 1 by omega, drop_at ⟨0, 0, 0, 0, [], []⟩ l i h]
            show _ = some (runL t (chAt l i :: l.drop (i + 1)) (i : Int))
            rw [runL_cons, if_pos h0]
        · refine .inr ⟨?_, ?_⟩
          · unfold sRun_L0_step
            simp only [tp7, tb_dec, Int.toNat_natCast]
            rw [if_pos (by omega), tp_pos (by omega), hdo, tc_some, tb_bne, if_neg h0]
          · rw [hf i t hi ht (.inr ⟨h, h0⟩)]; simp only [tp7, Int.toNat_natCast]
      · refine .inr ⟨?_, ?_⟩
        · unfold sRun_L0_step
          simp only [tp7, tb_dec]
          rw [if_neg (by omega)]
        · rw [hf i t hi ht (.inl (by omega))]; simp only [tp7, Int.toNat_natCast]
  refine key _ fun i t hi ht h => ?_
  simp only [tp7, tb_dec, Int.toNat_natCast]
  rcases h with h | ⟨h, h0⟩
  · subst h
    rw [if_neg (by omega), sCopy_eq ht, tc_some, tp_pos ⟨trivial, exs_len _⟩, List.drop_length]
    rfl
  · rw [if_pos (by omega), tp_pos (by omega), sDo_eq ht (hat i h), tc_some, tb_bne, if_neg h0, drop_at ⟨0, 0, 0, 0, [], []⟩ l i h]
    show _ = some (runL t (chAt l i :: l.drop (i + 1)) (i : Int))
    rw [runL_cons, if_neg h0]
theorem runL_cpy (t : Sa) (l : List Ch) (i : Int) : runL (cpy t) l i = runL t l i := by
  by_cases h : SOk t
  · rw [cpy_t h]
  rw [cpy_f h]
  cases l with
  | nil => show (cpy sa0, i, (0 : Int)) = (cpy t, i, 0); rw [cpy_f sa0_no, cpy_f h]
  | cons c l => rw [runL_cons, runL_cons, doS_f sa0_no, doS_f h]
theorem runL_shift : ∀ (l : List Ch) (t : Sa) (i j : Int), runL t l (i + j) = ((runL t l i).1, (runL t l i).2.1 + j, (runL t l i).2.2)
  | [], t, i, j => rfl
  | c :: l, t, i, j => by
    rw [runL_cons, runL_cons]
    split
    · rw [show i + j + 1 = (i + 1) + j by omega, runL_shift l]
    · rfl
theorem runL_app : ∀ (a b : List Ch) (s : Sa) (i : Int), runL s (a ++ b) i = if (runL s a i).2.2 = 0 then runL (runL s a i).1 b (i + a.length) else runL s a i
  | [], b, s, i => by
    show runL s b i = if (0 : Int) = 0 then runL (cpy s) b (i + ((0 : Nat) : Int)) else _
    rw [if_pos rfl, runL_cpy]; simp
  | c :: a, b, s, i => by
    rw [List.cons_append, runL_cons, runL_cons]
    by_cases h : (doS s c).2 = 0
    · rw [if_pos h, if_pos h, runL_app a b]
      simp only [List.length_cons]
      rw [show i + 1 + (a.length : Int) = i + ((a.length + 1 : Nat) : Int) by omega]
    · rw [if_neg h, if_neg h, if_neg h]
theorem runL_n : ∀ (l : List Ch) (s : Sa) (i : Int), i ≤ (runL s l i).2.1 ∧ (runL s l i).2.1 ≤ i + l.length ∧ ((runL s l i).2.2 = 0 → (runL s l i).2.1 = i + l.length)
  | [], s, i => by
    have e : (runL s [] i) = (cpy s, i, 0) := rfl
    rw [e]; simp
  | c :: l, s, i => by
    have := runL_n l (doS s c).1 (i + 1)
    rw [runL_cons]
    simp only [List.length_cons]
    split
    · exact ⟨by omega, by omega, fun h => by have := this.2.2 h; omega⟩
    · rename_i h; exact ⟨Int.le_refl _, by show i ≤ _; omega, fun g => absurd g h⟩
theorem runL_sz : ∀ (l : List Ch) (s : Sa) (i : Int), Sz s → (∀ c ∈ l, Hz c) → Sz (runL s l i).1
  | [], s, i, h, _ => cpy_sz h
  | c :: l, s, i, h, hc => by
    rw [runL_cons]
    split
    · exact runL_sz l _ _ (doS_sz h (hc c (by simp))) fun d hd => hc d (by simp [hd])
    · exact doS_sz h (hc c (by simp))
theorem fewl_hz {l : List Ch} (h : FewL l) : ∀ c ∈ l, Hz c := fun c hc => ⟨by have := (h.2 c hc).1; omega, fewx_sx (h.2 c hc).2⟩
end Ab
end Go.Proofs.Ytimcbhhebnikiaa
namespace Go.Proofs.Ytimcbhhebnikiaa
open Go Go.Proofs.Ytimcbhhebnikiaa.Ab
set_option linter.unusedVariables false
set_option linter.unusedSimpArgs false
set_option maxRecDepth 1000000
set_option maxHeartbeats 0
namespace Ab
def aw11 : Option Bool := some true
theorem aw11_eval : aCall Try.prog cf 4000 11 [] = some (.b true) := by kernel_rfl
theorem aw11_ok (r : Bool) : aw11 = some r → EvFr Try.prog cf true 11 [] (.b r) := fun h => by
  cases h
  exact EvFr.of_bool aw11_eval
end Ab
end Go.Proofs.Ytimcbhhebnikiaa
namespace Go.Proofs.Ytimcbhhebnikiaa
open Go Go.Proofs.Ytimcbhhebnikiaa.Ab
set_option linter.unusedVariables false
set_option linter.unusedSimpArgs false
set_option maxRecDepth 1000000
set_option maxHeartbeats 0
namespace Ab
/-- Function 6, as it answers. -/
noncomputable def lStateRuns (s : Sa) (a : List Ch) (b : List Ch) : Option (Bool) :=
 (tc (aw11) fun s0 =>
  (tc (few11 (s)) fun s1 =>
   (tb ((!s1))
    (some (s0))
    (tc (changes (a)) fun s3 =>
     (tb ((!s3))
      (some (s0))
      (tc (changes (b)) fun s5 =>
       (tb ((!s5))
        (some (s0))
        (tc (sCheck (s)) fun s7 =>
         (tb ((s7 != (0 : Int)))
          (some (s0))
          (tc (sCopy (s)) fun s9 =>
           (tc (sRun (s) (a)) fun s10 =>
            (tc (sRun (s10.1) (b)) fun s11 =>
             (tp (((List.length (List.flatMap Ch.cells a)) = (a.length * 6)))
              (tp ((a.length ≤ (4294967296 : Nat)))
               (tp (((List.length (List.flatMap Ch.cells b)) = (b.length * 6)))
                (tp ((((List.length (List.flatMap Ch.cells a)) = (a.length * 6)) ∧ ((a.length + b.length) ≤ (4294967296 : Nat))))
                 (tp ((((0 : Nat) = (0 : Nat)) ∧ ((List.length ((List.flatMap Ch.cells a) ++ (List.flatMap Ch.cells b))) = ((a.length + b.length) * 6))))
                  (tc (sRun (s) ((a ++ b))) fun s17 =>
                   (tp ((((0 : Nat) = (0 : Nat)) ∧ ((List.length (List.flatMap Ex.cells s9.map)) = (s9.map.length * 5))))
                    (tc (r11Same (s9) (s)) fun s19 =>
                     (tb ((s10.2.2 != (0 : Int)))
                      (tb (s0)
                       (tb (s19)
                        (tb ((s17.2.1 == s10.2.1))
                         (tb ((s17.2.2 == s10.2.2))
                          (tc (r11Same (s10.1) (s17.1)) fun s25 =>
                           (some (s25)))
                          none /- false -/)
                         none /- false -/)
                        none /- false -/)
                       none /- false -/)
                      (tb (s0)
                       (tb (s19)
                        (tb ((s10.2.1 == (a.length : Int)))
                         (tb ((s17.2.1 == (wr (s10.2.1 + s11.2.1))))
                          (tb ((s17.2.2 == s11.2.2))
                           (tc (r11Same (s11.1) (s17.1)) fun s26 =>
                            (some (s26)))
                           none /- false -/)
                          none /- false -/)
                         none /- false -/)
                        none /- false -/)
                       none /- false -/))))))))))))))))))))))
abbrev lStateRuns_G (s : Sa) (a : List Ch) (b : List Ch) (r : Bool) : Prop := EvFr Try.prog cf false 6 [Sa.av (s), chs (a), chs (b)] (.b (r))
theorem lStateRuns_ok (s : Sa) (a : List Ch) (b : List Ch) (r : Bool) : lStateRuns s a b = some r → lStateRuns_G s a b r := by
  unfold lStateRuns
  refine tc_ok (fun s0 h0 => ?_)
  refine tc_ok (fun s1 h1 => ?_)
  refine tb_ok (fun h2 => ?_) (fun h2 => ?_)
  ·
    intro e; injection e with e; subst e
    exact leafR vw_eq (k := 300) (r := []) (hs := hz [(3, [.fres (.b (s0))]), (2, [.fc]), (1, [.fres (.b (s1))]), (2, [.yes, .yes, .yes, .yes]), (13, [])]) (raw := (AV.b s0)) kq (ac (aw11_ok  _ h0).any0 (ac (few11_ok (s) _ h1).any0 (ac h2 (ac h2 (ac h2 (ac h2 an)))))) tq
  ·
    refine tc_ok (fun s3 h3 => ?_)
    refine tb_ok (fun h4 => ?_) (fun h4 => ?_)
    ·
      intro e; injection e with e; subst e
      exact leafR vw_eq (k := 300) (r := []) (hs := hz [(3, [.fres (.b (s0))]), (2, [.fc]), (1, [.fres (.b (s1))]), (2, [.no]), (1, [.no]), (1, [.fres (.b (s3)), .no]), (1, [.no]), (1, [.yes, .yes, .yes, .yes]), (8, [])]) (raw := (AV.b s0)) kq (ac (aw11_ok  _ h0).any0 (ac (few11_ok (s) _ h1).any0 (ac h2 (ac h2 (ac (changes_ok (a) _ h3).any0 (ac h2 (ac h2 (ac h4 (ac h4 (ac h4 (ac h4 an))))))))))) tq
    ·
      refine tc_ok (fun s5 h5 => ?_)
      refine tb_ok (fun h6 => ?_) (fun h6 => ?_)
      ·
        intro e; injection e with e; subst e
        exact leafR vw_eq (k := 300) (r := []) (hs := hz [(3, [.fres (.b (s0))]), (2, [.fc]), (1, [.fres (.b (s1))]), (2, [.no]), (1, [.no]), (1, [.fres (.b (s3)), .no]), (1, [.no]), (1, [.no]), (1, [.no]), (1, [.fres (.b (s5)), .no]), (1, [.no]), (1, [.yes, .yes, .yes, .yes]), (3, [])]) (raw := (AV.b s0)) kq (ac (aw11_ok  _ h0).any0 (ac (few11_ok (s) _ h1).any0 (ac h2 (ac h2 (ac (changes_ok (a) _ h3).any0 (ac h2 (ac h2 (ac h4 (ac h4 (ac (changes_ok (b) _ h5).any0 (ac h4 (ac h4 (ac h6 (ac h6 (ac h6 (ac h6 an)))))))))))))))) tq
      ·
        refine tc_ok (fun s7 h7 => ?_)
        refine tb_ok (fun h8 => ?_) (fun h8 => ?_)
        ·
          have h8p := bne_iff_ne.1 h8
          intro e; injection e with e; subst e
          exact leafR vw_eq (k := 300) (r := []) (hs := hz [(3, [.fres (.b (s0))]), (2, [.fc]), (1, [.fres (.b (s1))]), (2, [.no]), (1, [.no]), (1, [.fres (.b (s3)), .no]), (1, [.no]), (1, [.no]), (1, [.no]), (1, [.fres (.b (s5)), .no]), (1, [.no]), (1, [.no]), (1, [.fc, .no]), (1, [.fres (.i (s7)), .no]), (1, [.no, .yes]), (2, [])]) (raw := (AV.b s0)) kq (ac (aw11_ok  _ h0).any0 (ac (few11_ok (s) _ h1).any0 (ac h2 (ac h2 (ac (changes_ok (a) _ h3).any0 (ac h2 (ac h2 (ac h4 (ac h4 (ac (changes_ok (b) _ h5).any0 (ac h4 (ac h4 (ac h6 (ac h6 (ac (sCheck_ok (s) _ h7).any0 (ac h6 (ac h6 (ac h8 an)))))))))))))))))) tq
        ·
          have h8p := bne_eq_false_iff_eq.1 h8
          refine tc_ok (fun s9 h9 => ?_)
          refine tc_ok (fun s10 h10 => ?_)
          refine tc_ok (fun s11 h11 => ?_)
          refine tp_ok (fun h12 => ?_)
          refine tp_ok (fun h13 => ?_)
          refine tp_ok (fun h14 => ?_)
          refine tp_ok (fun h15 => ?_)
          refine tp_ok (fun h16 => ?_)
          refine tc_ok (fun s17 h17 => ?_)
          refine tp_ok (fun h18 => ?_)
          refine tc_ok (fun s19 h19 => ?_)
          refine tb_ok (fun h20 => ?_) (fun h20 => ?_)
          ·
            have h20p := bne_iff_ne.1 h20
            refine tb_ok (fun h21 => ?_) (fun h21 => ?_)
            ·
              refine tb_ok (fun h22 => ?_) (fun h22 => ?_)
              ·
                refine tb_ok (fun h23 => ?_) (fun h23 => ?_)
                ·
                  have h23p := eq_of_beq h23
                  refine tb_ok (fun h24 => ?_) (fun h24 => ?_)
                  ·
                    have h24p := eq_of_beq h24
                    refine tc_ok (fun s25 h25 => ?_)
                    intro e; injection e with e; subst e
                    exact leafR vw_eq (k := 300) (r := []) (hs := hz [(3, [.fres (.b (s0))]), (2, [.fc]), (1, [.fres (.b (s1))]), (2, [.no]), (1, [.no]), (1, [.fres (.b (s3)), .no]), (1, [.no]), (1, [.no]), (1, [.no]), (1, [.fres (.b (s5)), .no]), (1, [.no]), (1, [.no]), (1, [.fc, .no]), (1, [.fres (.i (s7)), .no]), (1, [.no, .no]), (1, [.fc]), (1, [.fres (Sa.av (s9))]), (2, [.fc]), (1, [.fc]), (2, [.fres (.tu [Sa.av (s10.1), .i (s10.2.1), .i (s10.2.2)])]), (6, [.fc]), (3, [.fc]), (2, [.fres (.tu [Sa.av (s11.1), .i (s11.2.1), .i (s11.2.2)])]), (6, [.fc]), (3, [.fc]), (2, [.yes, .yes]), (1, [.yes, .yes]), (1, [.yes, .yes, .fres (.tu [Sa.av (s17.1), .i (s17.2.1), .i (s17.2.2)])]), (6, [.fc]), (2, [.yes]), (1, [.fc]), (1, [.fc]), (1, [.yes, .yes, .yes, .yes, .yes, .yes, .fres (.b (s19))]), (3, [.yes]), (2, [.yes]), (1, [.yes]), (1, [.yes]), (1, [.yes]), (1, [.yes]), (1, [.yes]), (1, [.yes]), (1, [.yes]), (1, [.yes]), (1, [.yes]), (1, [.yes]), (1, [.fc, .yes]), (1, [.fc, .yes]), (1, [.fres (.b (s25)), .yes]), (1, [])]) (raw := (AV.b s25)) kq (ac (aw11_ok  _ h0).any0 (ac (few11_ok (s) _ h1).any0 (ac h2 (ac h2 (ac (changes_ok (a) _ h3).any0 (ac h2 (ac h2 (ac h4 (ac h4 (ac (changes_ok (b) _ h5).any0 (ac h4 (ac h4 (ac h6 (ac h6 (ac (sCheck_ok (s) _ h7).any0 (ac h6 (ac h6 (ac h8 (ac (sCopy_ok (s) _ h9) (ac (sRun_ok (s) (a) _ h10) (ac (sRun_ok (s10.1) (b) _ h11) (ac h12 (ac h13 (ac h14 (ac h15 (ac h16 (ac (pq (p := Pl Bool.false (((List.flatMap Ch.cells a) ++ (List.flatMap Ch.cells b))))) (ac (show EvFr Try.prog cf Bool.false 27 [(AV.ag [(AV.i s.blocks), (AV.i s.gen), (exs s.map), (AV.sl s.points.length (List.flatMap Po.cells s.points)), (AV.i s.last), (bys s.staged)]), (AV.sl (a.length + b.length) ((List.flatMap Ch.cells a) ++ (List.flatMap Ch.cells b)))] (.tu [Sa.av (s17.1), .i (s17.2.1), .i (s17.2.2)]) from ((sRun_ok (s) ((a ++ b)) _ h17).cast tq)) (ac (show orderOk (rg Try.prog 6 0) = true ∧ allOk (Region.before (rg Try.prog 6 0)) [] 0 [(some [0], some []), (some [], some []), (some [], some []), (some [], some [7]), (some [], some []), (some [7], some [7, 8]), (some [8], some [8]), (some [], some []), (some [], some []), (some [], some []), (some [], some []), (some [], some [9]), (some [9], some [9]), (some [], some []), (some [], some [])] = true from (ord_of ord_6_0 bef_6_0 kq)) (ac h18 (ac (pq (p := Pl Bool.false ((List.flatMap Ex.cells s9.map)))) (ac (fq (p := (((0 : Nat) = (0 : Nat)) ∧ ((List.length (List.flatMap Po.cells s9.points)) = (s9.points.length * 3))))) (ac (pq (p := Pl Bool.false ((List.flatMap Po.cells s9.points)))) (ac (tq (p := (((0 : Nat) = (0 : Nat)) ∧ ((List.length (List.map AV.y s9.staged)) = (s9.staged.length * 1))))) (ac (pq (p := Pl Bool.false ((List.map AV.y s9.staged)))) (ac (r11Same_ok (s9) (s) _ h19) (ac h20 (ac h21 (ac h21 (ac h22 (ac h22 (ac h22 (ac h22 (ac h23 (ac h23 (ac h23 (ac h23 (ac h24 (ac h24 (ac h24 (ac (r11Same_ok (s10.1) (s17.1) _ h25).any0 (ac h24 an)))))))))))))))))))))))))))))))))))))))))))))))))))) tq
                  ·
                    have h24p := ne_of_beq_false h24
                    exact fun e => nomatch e
                ·
                  have h23p := ne_of_beq_false h23
                  exact fun e => nomatch e
              ·
                exact fun e => nomatch e
            ·
              exact fun e => nomatch e
          ·
            have h20p := bne_eq_false_iff_eq.1 h20
            refine tb_ok (fun h21 => ?_) (fun h21 => ?_)
            ·
              refine tb_ok (fun h22 => ?_) (fun h22 => ?_)
              ·
                refine tb_ok (fun h23 => ?_) (fun h23 => ?_)
                ·
                  have h23p := eq_of_beq h23
                  refine tb_ok (fun h24 => ?_) (fun h24 => ?_)
                  ·
                    have h24p := eq_of_beq h24
                    refine tb_ok (fun h25 => ?_) (fun h25 => ?_)
                    ·
                      have h25p := eq_of_beq h25
                      refine tc_ok (fun s26 h26 => ?_)
                      intro e; injection e with e; subst e
                      exact leafR vw_eq (k := 300) (r := []) (hs := hz [(3, [.fres (.b (s0))]), (2, [.fc]), (1, [.fres (.b (s1))]), (2, [.no]), (1, [.no]), (1, [.fres (.b (s3)), .no]), (1, [.no]), (1, [.no]), (1, [.no]), (1, [.fres (.b (s5)), .no]), (1, [.no]), (1, [.no]), (1, [.fc, .no]), (1, [.fres (.i (s7)), .no]), (1, [.no, .no]), (1, [.fc]), (1, [.fres (Sa.av (s9))]), (2, [.fc]), (1, [.fc]), (2, [.fres (.tu [Sa.av (s10.1), .i (s10.2.1), .i (s10.2.2)])]), (6, [.fc]), (3, [.fc]), (2, [.fres (.tu [Sa.av (s11.1), .i (s11.2.1), .i (s11.2.2)])]), (6, [.fc]), (3, [.fc]), (2, [.yes, .yes]), (1, [.yes, .yes]), (1, [.yes, .yes, .fres (.tu [Sa.av (s17.1), .i (s17.2.1), .i (s17.2.2)])]), (6, [.fc]), (2, [.yes]), (1, [.fc]), (1, [.fc]), (1, [.yes, .yes, .yes, .yes, .yes, .yes, .fres (.b (s19))]), (3, [.no]), (2, [.yes]), (1, [.yes]), (1, [.yes]), (1, [.yes]), (1, [.yes]), (1, [.yes]), (1, [.yes]), (1, [.yes]), (1, [.yes]), (1, [.yes]), (1, [.yes]), (1, [.yes]), (1, [.yes]), (1, [.yes]), (1, [.yes]), (1, [.yes]), (1, [.yes]), (1, [.yes]), (1, [.fc, .yes]), (1, [.fc, .yes]), (1, [.fres (.b (s26)), .yes]), (1, [])]) (raw := (AV.b s26)) kq (ac (aw11_ok  _ h0).any0 (ac (few11_ok (s) _ h1).any0 (ac h2 (ac h2 (ac (changes_ok (a) _ h3).any0 (ac h2 (ac h2 (ac h4 (ac h4 (ac (changes_ok (b) _ h5).any0 (ac h4 (ac h4 (ac h6 (ac h6 (ac (sCheck_ok (s) _ h7).any0 (ac h6 (ac h6 (ac h8 (ac (sCopy_ok (s) _ h9) (ac (sRun_ok (s) (a) _ h10) (ac (sRun_ok (s10.1) (b) _ h11) (ac h12 (ac h13 (ac h14 (ac h15 (ac h16 (ac (pq (p := Pl Bool.false (((List.flatMap Ch.cells a) ++ (List.flatMap Ch.cells b))))) (ac (show EvFr Try.prog cf Bool.false 27 [(AV.ag [(AV.i s.blocks), (AV.i s.gen), (exs s.map), (AV.sl s.points.length (List.flatMap Po.cells s.points)), (AV.i s.last), (bys s.staged)]), (AV.sl (a.length + b.length) ((List.flatMap Ch.cells a) ++ (List.flatMap Ch.cells b)))] (.tu [Sa.av (s17.1), .i (s17.2.1), .i (s17.2.2)]) from ((sRun_ok (s) ((a ++ b)) _ h17).cast tq)) (ac (show orderOk (rg Try.prog 6 0) = true ∧ allOk (Region.before (rg Try.prog 6 0)) [] 0 [(some [0], some []), (some [], some []), (some [], some []), (some [], some [7]), (some [], some []), (some [7], some [7, 8]), (some [8], some [8]), (some [], some []), (some [], some []), (some [], some []), (some [], some []), (some [], some [9]), (some [9], some [9]), (some [], some []), (some [], some [])] = true from (ord_of ord_6_0 bef_6_0 kq)) (ac h18 (ac (pq (p := Pl Bool.false ((List.flatMap Ex.cells s9.map)))) (ac (fq (p := (((0 : Nat) = (0 : Nat)) ∧ ((List.length (List.flatMap Po.cells s9.points)) = (s9.points.length * 3))))) (ac (pq (p := Pl Bool.false ((List.flatMap Po.cells s9.points)))) (ac (tq (p := (((0 : Nat) = (0 : Nat)) ∧ ((List.length (List.map AV.y s9.staged)) = (s9.staged.length * 1))))) (ac (pq (p := Pl Bool.false ((List.map AV.y s9.staged)))) (ac (r11Same_ok (s9) (s) _ h19) (ac h20 (ac h21 (ac h21 (ac h22 (ac h22 (ac h22 (ac h22 (ac h22 (ac h23 (ac h23 (ac h23 (ac h23 (ac h23 (ac h23 (ac h24 (ac h24 (ac h24 (ac h24 (ac h25 (ac h25 (ac h25 (ac (r11Same_ok (s11.1) (s17.1) _ h26).any0 (ac h25 an))))))))))))))))))))))))))))))))))))))))))))))))))))))))))) tq
                    ·
                      have h25p := ne_of_beq_false h25
                      exact fun e => nomatch e
                  ·
                    have h24p := ne_of_beq_false h24
                    exact fun e => nomatch e
                ·
                  have h23p := ne_of_beq_false h23
                  exact fun e => nomatch e
              ·
                exact fun e => nomatch e
            ·
              exact fun e => nomatch e
end Ab
end Go.Proofs.Ytimcbhhebnikiaa
namespace Go.Proofs.Ytimcbhhebnikiaa
open Go Go.Proofs.Ytimcbhhebnikiaa.Ab
set_option linter.unusedVariables false
set_option linter.unusedSimpArgs false
namespace Ab
theorem lStateRuns_true (s : Sa) (a b : List Ch) : lStateRuns s a b = some true := by
  unfold lStateRuns
  have ha : aw11 = some true := rfl
  rw [ha, tc_some, few11_eq, tc_some, tb_not, tb_dec]
  by_cases hf : FewS s
  case neg => rw [if_neg hf]
  rw [if_pos hf, changes_eq, tc_some, tb_not, tb_dec]
  by_cases ga : FewL a
  case neg => rw [if_neg ga]
  rw [if_pos ga, changes_eq, tc_some, tb_not, tb_dec]
  by_cases gb : FewL b
  case neg => rw [if_neg gb]
  have hz := fews_sz hf
  rw [if_pos gb, sCheck_eq hz, tc_some, tb_bne]
  by_cases hs : SOk s
  case neg => rw [st_f hs, if_neg (by omega)]
  have la := ga.1
  have lb := gb.1
  have hxa := fewl_hz ga
  have hxb := fewl_hz gb
  have hxz := runL_sz a s 0 hz hxa
  rw [st_t hs, if_pos rfl, sCopy_eq hz, cpy_t hs, tc_some, sRun_eq hz (by omega) hxa, tc_some, sRun_eq hxz (by omega) hxb, tc_some, tp_pos (chs_len _), tp_pos (by omega), tp_pos (chs_len _), tp_pos ⟨chs_len _, by omega⟩, tp_pos ⟨rfl, by rw [List.length_append, chs_len, chs_len]; omega⟩,
    sRun_eq hz (by rw [List.length_append]; omega) (fun c hc => by rcases List.mem_append.1 hc with h | h; exact hxa c h; exact hxb c h), tc_some, tp_pos ⟨rfl, exs_len _⟩, r11Same_eq _ _ (sz_sy hz), tc_some, tb_bne, decide_eq_true rfl]
  have happ := runL_app a b s 0
  have na := runL_n a s 0
  by_cases h0 : (runL s a 0).2.2 = 0
  · rw [if_pos h0] at happ ⊢
    have hsh := runL_shift b (runL s a 0).1 0 (a.length : Int)
    rw [Int.zero_add] at hsh
    rw [Int.zero_add, hsh] at happ
    have nb := runL_n b (runL s a 0).1 0
    have n0 := na.2.2 h0
    rw [happ]
    simp only [tb_t, tb_beq]
    rw [if_pos (by omega), wr_id (by omega) (by omega), if_pos (by omega), if_pos trivial, r11Same_eq _ _ (sz_sy (runL_sz b _ 0 hxz hxb)), tc_some, decide_eq_true rfl]
  · rw [if_neg h0] at happ ⊢
    rw [happ]
    simp only [tb_t, beq_self_eq_true]
    rw [r11Same_eq _ _ (sz_sy hxz), tc_some, decide_eq_true rfl]
theorem stateRuns_call (s : Sa) (a b : List Ch) (_ : Sa.ok s) (_ : Ln a ∧ ∀ x ∈ a, Ch.ok x) (_ : Ln b ∧ ∀ x ∈ b, Ch.ok x) : EvFr Try.prog cf false 6 [s.av, chs a, chs b] (.b true) := lStateRuns_ok s a b true (lStateRuns_true s a b)
end Ab
end Go.Proofs.Ytimcbhhebnikiaa
