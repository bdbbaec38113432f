/- The law 'StateImage': it returns true, and nothing that was there changes. No condition. (Part 11 of 12.) -/
import Derived.Test.YtimcbhhebnikiaaSi10
import Derived.Test.YtimcbhhebnikiaaRows
namespace Go.Proofs.Ytimcbhhebnikiaa
open Go Go.Proofs.Ytimcbhhebnikiaa.Ab
set_option linter.unusedVariables false
set_option linter.unusedSimpArgs false
namespace Ab
def gn (g : Int) (x : Ex) : Ex := ⟨x.lba, x.len, x.kind, g, x.d⟩
def zdz (g : Int) (l : List Ex) (i : Nat) : List Ex := (l.take i).map (gn g) ++ l.drop i
theorem zr7 (g : Int) (l : List Ex) (i : Nat) (hi : i ≤ l.length) : (zdz g l i).length = l.length := by simp [zdz]; omega
theorem zub (g : Int) (l : List Ex) (i : Nat) (hi : i < l.length) : z7 (zdz g l i) i = z7 l i := by
  have hl : ((l.take i).map (gn g)).length = i := by simp; omega
  unfold z7 zdz
  rw [List.getD_eq_getElem?_getD, List.getD_eq_getElem?_getD, List.getElem?_append_right (by omega), hl, List.getElem?_drop]
  simp
theorem zs3 (g : Int) (l : List Ex) (i : Nat) (hi : i < l.length) : (zdz g l i).set i (gn g (z7 l i)) = zdz g l (i + 1) := by
  have hl : ((l.take i).map (gn g)).length = i := by simp; omega
  unfold zdz
  rw [zo4 ⟨0, 0, 0, 0, []⟩ l i hi, List.set_append_right _ _ (by omega), hl, Nat.sub_self, List.set_cons_zero, zam ⟨0, 0, 0, 0, []⟩ l i hi, List.map_append, List.append_assoc]
  rfl
noncomputable def genB (g : Int) (l : List Ex) (s7 : Int × List Ex) : Option (Int × List Ex) :=
 (tb ((decide (s7.1 < (l.length : Int))))
  (tp (((0 ≤ s7.1) ∧ (s7.1 < (l.length : Int))))
   (tp ((((List.length [(AV.i g)]) = 1) ∧ ((((0 + (s7.1.toNat * 5)) + 3) + (List.length [(AV.i g)])) ≤ (List.length (List.flatMap Ex.cells s7.2)))))
    (some (((wr (s7.1 + 1)), (List.set s7.2 s7.1.toNat (Ex.mk (z7 s7.2 s7.1.toNat).lba (z7 s7.2 s7.1.toNat).len (z7 s7.2 s7.1.toNat).kind g (z7 s7.2 s7.1.toNat).d)))))))
  none)
theorem za1 {α : Type} (g : Int) (l : List Ex) (hl : l.length ≤ 4294967296) (f : Int × List Ex → Option α) : th (genB g l) (0, l) f = f ((l.length : Int), l.map (gn g)) := by
  have h0 : ((0 : Int), l) = (((0 : Nat) : Int), zdz g l 0) := by simp [zdz]
  rw [h0, z29 (step := genB g l) (f := f) (fun i => ((i : Int), zdz g l i)) l.length]
  · simp [zdz]
  · intro i hi
    unfold genB
    simp only [w9, Int.toNat_natCast]
    rw [if_pos (by omega), x4 (by omega), x4 ⟨rfl, by rw [t9, zr7 g l i (by omega)]; simp; omega⟩, j9 (by omega) (by omega), zub g l i hi]
    exact congrArg some (Prod.ext (by simp) (zs3 g l i hi))
  · unfold genB
    simp only [w9]
    rw [if_neg (by omega)]
theorem th_ix {α β : Type} (l : List β) (d : β) (p : β → Bool) {step : Int → Option Int} {f : Int → Option α} (hs : ∀ i : Nat, i < l.length → p (l.getD i d) = false → step (i : Int) = some ((i : Int) + 1)) (hf : ∀ i : Nat, i < l.length → p (l.getD i d) = true → step (i : Int) = none) (he : step (l.length : Int) = none) : th step 0 f = f ((l.findIdx p : Nat) : Int) := by
  have gd : ∀ i (hi : i < l.length), l.getD i d = l[i] := fun i hi => by simp [hi]
  have hle : l.findIdx p ≤ l.length := List.findIdx_le_length
  have := z29 (step := step) (f := f) (fun i => (i : Int)) (l.findIdx p) (fun i hi => hs i (by omega) (by
    rw [gd i (by omega)]
    have := List.not_of_lt_findIdx hi
    simpa using this)) (by
    rcases Nat.lt_or_ge (l.findIdx p) l.length with g | g
    · exact hf _ g (by rw [gd _ g]; exact List.findIdx_getElem (w := g))
    · have : l.findIdx p = l.length := by omega
      rw [this]; exact he)
  simpa using this
def lyS (s : Sa) (o : List Ex) : Sa × Int :=
  if (zao s.blocks s.map (o.map (gn s.gen))).2 = 0 then (⟨s.blocks, s.gen, (zao s.blocks s.map (o.map (gn s.gen))).1, s.points, s.last, s.staged⟩, 0) else (s, (zao s.blocks s.map (o.map (gn s.gen))).2)
def mkS (s : Sa) (id : Int) : Sa × Int :=
  if id ≤ s.last then (s, 112) else if s.points.length = 4 then (s, 113) else if s.gen = 2147483647 then (s, 113) else (⟨s.blocks, s.gen + 1, s.map, s.points ++ [⟨id, s.gen, s.map⟩], id, s.staged⟩, 0)
def ixP (l : List Po) (id : Int) : Nat := l.findIdx fun p => p.id == id
def drS (s : Sa) (id : Int) : Sa × Int :=
  if ixP s.points id < s.points.length then (⟨s.blocks, s.gen, s.map, s.points.take (ixP s.points id) ++ s.points.drop (ixP s.points id + 1), s.last, s.staged⟩, 0) else (s, 111)
def stS (s : Sa) (d : List UInt8) : Sa × Int :=
  if (d.length : Int) > 4000 - s.staged.length then (s, 113) else (⟨s.blocks, s.gen, s.map, s.points, s.last, s.staged ++ d⟩, 0)
def abS (s : Sa) : Sa := ⟨s.blocks, s.gen, s.map, s.points, s.last, []⟩
def apS (s : Sa) (c : Ch) : Sa × Int :=
  if (lyS s c.list).2 = 0 then (if (mkS (lyS s c.list).1 c.id).2 = 0 then (abS (mkS (lyS s c.list).1 c.id).1, 0) else (s, (mkS (lyS s c.list).1 c.id).2)) else (s, (lyS s c.list).2)
def doK (s : Sa) (c : Ch) : Sa × Int :=
  if c.kind = 1 then lyS s [⟨c.lba, c.n, 2, 0, c.d⟩] else if c.kind = 2 then lyS s [⟨c.lba, c.n, 1, 0, []⟩] else if c.kind = 3 then lyS s [⟨c.lba, c.n, 0, 0, []⟩] else
  if c.kind = 4 then mkS s c.id else if c.kind = 5 then drS s c.id else if c.kind = 6 then stS s c.d else if c.kind = 7 then (abS s, 0) else apS s c
open Classical in
noncomputable def doS (s : Sa) (c : Ch) : Sa × Int := if SOk s then (if CkH c then doK s c else (s, 100)) else (sa0, 110)
theorem zjk {s : Sa} {c : Ch} (h : SOk s) (hc : CkH c) : doS s c = doK s c := by unfold doS; rw [if_pos h, if_pos hc]
theorem zkf {s : Sa} {c : Ch} (h : SOk s) (hc : ¬ CkH c) : doS s c = (s, 100) := by unfold doS; rw [if_pos h, if_neg hc]
theorem doS_f {s : Sa} {c : Ch} (h : ¬ SOk s) : doS s c = (sa0, 110) := by unfold doS; rw [if_neg h]
def Hz (c : Ch) : Prop := c.d.length ≤ 1000000 ∧ Sx c.list
theorem mk_sx {b : Int} {l : List Ex} (h : Mk b l) : Sx l := ⟨by have := z6b h; omega, fun x hx => by have := za9 (zm9 h x hx); omega⟩
theorem zhk {b : Int} {m o : List Ex} (h : (zao b m o).2 = 0) : Sx (zao b m o).1 ∧ Mk b m ∧ (∀ x ∈ o, z3v b x) ∧ (zao b m o).1 = o.foldl put m := by
  unfold zao at h ⊢
  by_cases h1 : Mk b m
  · by_cases h2 : ∀ x ∈ o, z3v b x
    · rw [if_pos h1, if_pos h2]; exact ⟨mk_sx (zhv o m h1 h2), h1, h2, rfl⟩
    · rw [if_pos h1, if_neg h2] at h; cases h
  · rw [if_neg h1] at h; cases h
theorem zxx {s : Sa} {c : Ch} (hz : Sz s) (hc : Hz c) : sDo s c = some (doS s c) := by
  unfold sDo
  rw [zb9 hz, x9, z45]
  by_cases hs : SOk s
  case neg => rw [zhj hs, if_neg (by omega), doS_f hs]; rfl
  rw [st_t hs, if_pos rfl, zq7 c (by have := hc.2.1; omega), x9, z0y, w9]
  simp only [zja hz, ztu hs, x9, w9, z2w]
  by_cases hk : CkH c
  case neg => rw [if_neg hk, zkf hs hk, x4 ⟨trivial, t9 _⟩]
  rw [if_pos hk, zjk hs hk]
  have kk := z9w hk
  have hone : ∀ x : Ex, x.d.length ≤ 1000000 → Sx [x] := fun x hx => by
    refine ⟨by simp, fun y hy => ?_⟩
    have e : y = x := by simpa using hy
    rw [e]; exact hx
  have hw : wr (s.gen + 1) = s.gen + 1 := by have := hs; unfold SOk at this; exact j9 (by omega) (by omega)
  unfold doK
  by_cases k1 : c.kind = 1
  · rw [if_pos (by omega), if_pos k1, z1p (hone _ hc.1), x9]
    refine (za1 s.gen _ (by simp) _).trans ?_
    rw [if_neg (by simp), x4 ⟨trivial, t9 _⟩, x4 ⟨trivial, by rw [t9]; simp⟩, zd0 _ _ _ (by have := hz.1.1; omega) (by simp), x9]
    unfold lyS
    show (if (zao s.blocks s.map (List.map (gn s.gen) [_])).2 = 0 then _ else _) = _
    split <;> rfl
  rw [if_neg (by omega), if_neg k1]
  by_cases k2 : c.kind = 2
  · rw [if_pos (by omega), if_pos k2, z1p (hone _ (by simp)), x9]
    refine (za1 s.gen _ (by simp) _).trans ?_
    rw [if_neg (by simp), x4 ⟨trivial, t9 _⟩, x4 ⟨trivial, by rw [t9]; simp⟩, zd0 _ _ _ (by have := hz.1.1; omega) (by simp), x9]
    unfold lyS
    show (if (zao s.blocks s.map (List.map (gn s.gen) [_])).2 = 0 then _ else _) = _
    split <;> rfl
  rw [if_neg (by omega), if_neg k2]
  by_cases k3 : c.kind = 3
  · rw [if_pos (by omega), if_pos k3, z1p (hone _ (by simp)), x9]
    refine (za1 s.gen _ (by simp) _).trans ?_
    rw [if_neg (by simp), x4 ⟨trivial, t9 _⟩, x4 ⟨trivial, by rw [t9]; simp⟩, zd0 _ _ _ (by have := hz.1.1; omega) (by simp), x9]
    unfold lyS
    show (if (zao s.blocks s.map (List.map (gn s.gen) [_])).2 = 0 then _ else _) = _
    split <;> rfl
  rw [if_neg (by omega), if_neg k3]
  have hpl : ∀ l : List Ex, (List.length ((List.flatMap Po.cells s.points) ++ [(AV.i c.id), (AV.i s.gen), (AV.rf 9 5 0 l.length)])) = (s.points.length + 1) * 3 := fun l => by rw [List.length_append, z0j]; simp; omega
  by_cases k4 : c.kind = 4
  · rw [if_pos (by omega), if_pos k4]
    unfold mkS
    by_cases h1 : c.id ≤ s.last
    · rw [if_pos h1, if_pos h1, x4 ⟨trivial, t9 _⟩]
    rw [if_neg h1, if_neg h1]
    by_cases h2 : s.points.length = 4
    · rw [if_pos (by omega), if_pos h2, x4 ⟨trivial, t9 _⟩]
    rw [if_neg (by omega), if_neg h2]
    by_cases h3 : s.gen = 2147483647
    · rw [if_pos h3, if_pos h3, x4 ⟨trivial, t9 _⟩]
    rw [if_neg h3, if_neg h3, x4 ⟨trivial, t9 _⟩, z1p hz.1, x9, x4 ⟨z0j _, by have := hz.2.1; omega⟩, x4 ⟨trivial, by first | exact hpl _ | (rw [List.length_append, z0j]; simp; omega)⟩, hw, List.take_length]
  rw [if_neg (by omega), if_neg k4]
  by_cases k5 : c.kind = 5
  · rw [if_pos (by omega), if_pos k5]
    have hp := hz.2.1
    refine (th_ix s.points ⟨0, 0, []⟩ (fun p => p.id == c.id) ?_ ?_ ?_).trans ?_
    · intro i hi hp
      unfold z3h
      have hp' : ¬ (v9 s.points i).id = c.id := by simpa [v9] using hp
      simp only [w9, z2w, Int.toNat_natCast]
      rw [if_pos (by omega), x4 (by omega), if_neg hp', j9 (by omega) (by omega)]
    · intro i hi hp
      unfold z3h
      have hp' : (v9 s.points i).id = c.id := by simpa [v9] using hp
      simp only [w9, z2w, Int.toNat_natCast]
      rw [if_pos (by omega), x4 (by omega), if_pos hp']
    · unfold z3h
      simp only [w9]
      rw [if_neg (by omega)]
    · have hle : ixP s.points c.id ≤ s.points.length := List.findIdx_le_length
      have hix : List.findIdx (fun p => p.id == c.id) s.points = ixP s.points c.id := rfl
      rw [hix]
      simp only [Int.toNat_natCast]
      unfold drS
      by_cases h : ixP s.points c.id < s.points.length
      · have hid : (v9 s.points (ixP s.points c.id)).id = c.id := by
          have := List.findIdx_getElem (p := fun p : Po => p.id == c.id) (w := h)
          unfold v9
          rw [List.getD_eq_getElem?_getD, List.getElem?_eq_getElem h]
          exact eq_of_beq this
        rw [if_pos (by omega), if_pos h, x4 (by omega), if_pos hid, if_neg (by omega), x4 (by omega), x4 (z0j _), x4 (j9 (by omega) (by omega)), x4 ⟨trivial, t9 _⟩, x4 ⟨trivial, by rw [z0j]; simp; omega⟩]
      · rw [if_neg (by omega), if_neg h, x4 ⟨trivial, t9 _⟩]
  rw [if_neg (by omega), if_neg k5]
  by_cases k6 : c.kind = 6
  · have h4 : wr (4000 - (s.staged.length : Int)) = 4000 - (s.staged.length : Int) := j9 (by have := hz.2.2.2; omega) (by omega)
    rw [if_pos (by omega), if_pos k6, h4]
    unfold stS
    by_cases h1 : (c.d.length : Int) > 4000 - (s.staged.length : Int)
    · rw [if_pos h1, if_pos h1, x4 ⟨trivial, t9 _⟩]
    · rw [if_neg h1, if_neg h1, x4 ⟨by simp, by have := hz.2.2.2; have := hc.1; omega⟩, x4 ⟨trivial, t9 _⟩]
  rw [if_neg (by omega), if_neg k6]
  by_cases k7 : c.kind = 7
  · rw [if_pos (by omega), if_pos k7, x4 ⟨trivial, t9 _⟩]
    rfl
  rw [if_neg (by omega), if_neg k7, if_pos (by omega), z1p hc.2, x9]
  refine (za1 s.gen _ (by have := hc.2.1; omega) _).trans ?_
  rw [if_neg (by simp), x4 ⟨trivial, t9 _⟩, x4 ⟨trivial, by rw [t9]; simp⟩, zd0 _ _ _ (by have := hz.1.1; omega) (by simp; have := hc.2.1; omega), x9]
  unfold apS lyS
  show (if (zao s.blocks s.map (List.map (gn s.gen) c.list)).2 = 0 then _ else _) = _
  by_cases h0 : (zao s.blocks s.map (c.list.map (gn s.gen))).2 = 0
  case neg => rw [if_neg h0, if_neg h0, if_neg h0]
  rw [if_pos h0, if_pos h0, if_pos rfl]
  unfold mkS
  simp only
  by_cases h1 : c.id ≤ s.last
  · rw [if_pos h1, if_pos h1]; rfl
  rw [if_neg h1, if_neg h1]
  by_cases h2 : s.points.length = 4
  · rw [if_pos (by omega), if_pos h2]; rfl
  rw [if_neg (by omega), if_neg h2]
  by_cases h3 : s.gen = 2147483647
  · rw [if_pos h3, if_pos h3]; rfl
  rw [if_neg h3, if_neg h3, z1p (zhk h0).1, x9, x4 ⟨z0j _, by have := hz.2.1; omega⟩, x4 ⟨trivial, by rw [List.length_append, z0j]; simp; omega⟩, hw, List.take_length]
  rfl
end Ab
end Go.Proofs.Ytimcbhhebnikiaa
namespace Go.Proofs.Ytimcbhhebnikiaa
open Go Go.Proofs.Ytimcbhhebnikiaa.Ab
set_option linter.unusedVariables false
set_option linter.unusedSimpArgs false
namespace Ab
theorem zv8 {blocks : Int} {l : List Ex} (h : Mk blocks l) {o : List Ex} (ho : ∀ x ∈ o, x ∈ l) : (∀ x ∈ o, z3v blocks x) ∧ (∀ x ∈ o, ∀ y ∈ o, ∀ k, x.lba ≤ k → k < x.lba + x.len → y.lba ≤ k → k < y.lba + y.len → bAt x k = bAt y k) := by
  refine ⟨fun x hx => ⟨zm9 h x (ho x hx), ?_⟩, fun x hx y hy k a1 a2 b1 b2 => ?_⟩
  · have hg := zr0 (z6i h) x (ho x hx)
    have h3 := h.2.2
    omega
  · exact zmt (z6i h) (k := k) ⟨x, ho x hx, a1, a2, rfl⟩ ⟨y, ho y hy, b1, b2, rfl⟩
def new (blocks : Int) : List Ex := [⟨0, blocks, 0, 0, []⟩]
theorem zwn {blocks : Int} (h : 1 ≤ blocks ∧ blocks ≤ 64) : Mk blocks (new blocks) := by
  refine zvx (l := new blocks) ⟨?_, rfl, (by intro y hy; cases hy), trivial⟩ (by simp [new, sl]) h.1
  refine ⟨by simp, by simp, by simp only; omega, by simp only; omega, by simp, by simp, by simp, by simp, by simp, by simp⟩
end Ab
end Go.Proofs.Ytimcbhhebnikiaa
namespace Go.Proofs.Ytimcbhhebnikiaa
open Go Go.Proofs.Ytimcbhhebnikiaa.Ab
set_option linter.unusedVariables false
set_option linter.unusedSimpArgs false
namespace Ab
def s1 (b : Int) : Sa := ⟨b, 1, new b, [], 0, []⟩
theorem nw_eq {b : Int} (h : 1 ≤ b ∧ b ≤ 64) : nw b = (s1 b, 0) := by unfold nw; rw [if_pos h]; rfl
theorem s1_ok {b : Int} (h : 1 ≤ b ∧ b ≤ 64) : SOk (s1 b) := by
  refine ⟨⟨zwn h, fun x hx => ?_⟩, by simp [s1], by simp [s1], by simp [s1], by simp [s1], by simp [s1], by simp [s1], fun i hi => by simp [s1] at hi, zwy _ _⟩
  have : x = ⟨0, b, 0, 0, []⟩ := by simpa [s1, new] using hx
  rw [this]; simp [s1]
theorem zfw {s : Sa} {d : List UInt8} (h : SOk s) (hd : d.length ≤ 4000) : SOk ⟨s.blocks, s.gen, s.map, s.points, s.last, d⟩ := by
  obtain ⟨h1, h2, h3, h4, h5, h6, h7, h8, h9⟩ := h
  exact ⟨h1, h2, h3, h4, h5, h6, hd, h8, h9⟩
end Ab
end Go.Proofs.Ytimcbhhebnikiaa
namespace Go.Proofs.Ytimcbhhebnikiaa
open Go Go.Proofs.Ytimcbhhebnikiaa.Ab
set_option linter.unusedVariables false
set_option linter.unusedSimpArgs false
namespace Ab
theorem zts {b : Int} {A B C : List Ex} {g h : Int} (hB : Mk b B) (hC : Mk b C) (hg : g ≤ h) (h1 : Kp A B g) (h2 : Kp B C h) : Kp A C g := by
  intro x hx hxg y hy k k1 k2 k3 k4
  have hsub : ∀ z ∈ [x], z ∈ C := fun z hz => by
    have e : z = x := by simpa using hz
    rw [e]; exact hx
  have fx := (zv8 hC hsub).1 x (by simp)
  have px := z0c fx.1
  obtain ⟨z, hz, q1, q2⟩ := znn (z6i hB) (k := k) (by omega) (by have := hB.2.2; have := fx.2; omega)
  have e1 := h2 x hx (by omega) z hz k k1 k2 q1 q2
  have e2 : x.gen = z.gen := congrArg (fun c : Int × Int × List UInt8 => c.2.1) e1
  exact e1.trans (h1 z hz (by omega) y hy k q1 q2 k3 k4)
theorem zqx {s : Sa} (h : SOk s) : ∀ i, i ≤ s.points.length → 0 ≤ (pv s i).id ∧ 0 ≤ (pv s i).gen
  | 0, _ => by simp [pv]
  | i + 1, hi => by
    have := zqx h i (by omega)
    have hp := h.2.2.2.2.2.2.2.1 i (by omega)
    rw [z1f]
    have h1 := hp.2.1
    have h2 := hp.2.2.2.1
    omega
theorem id_ok {s : Sa} (h : SOk s) {i : Nat} (hi : i < s.points.length) : 1 ≤ (v9 s.points i).id ∧ (v9 s.points i).id ≤ s.last ∧ s.last ≤ 2147483647 := by
  have hp := h.2.2.2.2.2.2.2.1 i hi
  have := zqx h i (by omega)
  have h1 := hp.2.1
  have h2 := hp.2.2.1
  have h3 := h.2.2.2.2.2.1
  omega
def rmS (s : Sa) (k : Nat) : Sa := ⟨s.blocks, s.gen, s.map, s.points.take k ++ s.points.drop (k + 1), s.last, s.staged⟩
theorem zww {s : Sa} {k : Nat} (hk : k < s.points.length) : (rmS s k).points.length = s.points.length - 1 := by simp [rmS]; omega
theorem zvu {s : Sa} {k : Nat} (hk : k < s.points.length) (i : Nat) : v9 (rmS s k).points i = if i < k then v9 s.points i else v9 s.points (i + 1) := by
  have hl : (s.points.take k).length = k := by simp; omega
  unfold v9 rmS
  simp only [List.getD_eq_getElem?_getD]
  by_cases h : i < k
  · rw [if_pos h, List.getElem?_append_left (by omega), List.getElem?_take, if_pos h]
  · rw [if_neg h, List.getElem?_append_right (by omega), hl, List.getElem?_drop, show k + 1 + (i - k) = i + 1 by omega]
theorem zw5 {s : Sa} {k : Nat} (hk : k < s.points.length) (i : Nat) : pv (rmS s k) i = if i ≤ k then pv s i else pv s (i + 1) := by
  cases i with
  | zero => simp [pv]
  | succ i =>
    rw [z1f, zvu hk, z1f, z1f]
    by_cases h : i < k
    · rw [if_pos h, if_pos (by omega)]
    · rw [if_neg h, if_neg (by omega)]
theorem zw0 {s : Sa} (h : SOk s) {k : Nat} (hk : k < s.points.length) {C : List Ex} (hC : Mk s.blocks C) (h2 : Kp (pv s (k + 1)).map C (pv s (k + 1)).gen) : Kp (pv s k).map C (pv s k).gen := by
  have hp := h.2.2.2.2.2.2.2.1 k hk
  rw [z1f] at h2
  exact zts hp.1.1 hC (by have := hp.2.2.2.1; omega) hp.2.2.2.2.2 h2
theorem rm_ok {s : Sa} (h : SOk s) {k : Nat} (hk : k < s.points.length) : SOk (rmS s k) := by
  have hlen := zww hk
  have h4 := h.2.2.2.1
  refine ⟨h.1, h.2.1, h.2.2.1, by omega, h.2.2.2.2.1, h.2.2.2.2.2.1, h.2.2.2.2.2.2.1, fun i hi => ?_, ?_⟩
  · rw [hlen] at hi
    unfold PP
    rw [zvu hk, zw5 hk]
    by_cases h1 : i < k
    · rw [if_pos h1, if_pos (by omega)]
      exact h.2.2.2.2.2.2.2.1 i (by omega)
    rw [if_neg h1]
    have hp := h.2.2.2.2.2.2.2.1 (i + 1) (by omega)
    by_cases h2 : i ≤ k
    · have : i = k := by omega
      subst this
      rw [if_pos (Nat.le_refl _)]
      have hq := h.2.2.2.2.2.2.2.1 i hk
      have e : pv s (i + 1) = v9 s.points i := z1f s i
      refine ⟨hp.1, ?_, hp.2.2.1, ?_, hp.2.2.2.2.1, zw0 h hk hp.1.1 hp.2.2.2.2.2⟩
      · have := hp.2.1; have := hq.2.1; rw [e] at *; omega
      · have := hp.2.2.2.1; have := hq.2.2.2.1; rw [e] at *; omega
    · rw [if_neg h2]; exact hp
  · rw [hlen, zw5 hk]
    have hf := h.2.2.2.2.2.2.2.2
    by_cases h1 : s.points.length - 1 ≤ k
    · rw [if_pos h1]
      have e : s.points.length = k + 1 := by omega
      rw [show s.points.length - 1 = k by omega]
      rw [e] at hf
      exact zw0 h hk h.1.1 hf
    · rw [if_neg h1, show s.points.length - 1 + 1 = s.points.length by omega]; exact hf
end Ab
end Go.Proofs.Ytimcbhhebnikiaa
namespace Go.Proofs.Ytimcbhhebnikiaa
open Go Go.Proofs.Ytimcbhhebnikiaa.Ab
set_option linter.unusedVariables false
set_option linter.unusedSimpArgs false
namespace Ab
theorem zi7 {l : List Ex} {x : Ex} (hx : x ∈ l) {k : Int} (h1 : x.lba ≤ k) (h2 : k < x.lba + x.len) : Den l k (bAt x k) := ⟨x, hx, h1, h2, rfl⟩
theorem zxf {b g : Int} {m : List Ex} {y : Ex} (h : Up b m g) (hy : z3v b y) (hg : y.gen ≤ g) : Up b (put m y) g := by
  obtain ⟨p1, p2⟩ := z6w h.1 hy.1 hy.2
  refine ⟨p1, fun x hx => ?_⟩
  have px := z0c ((zaj (z6i p1) x hx).1)
  have hd := zi7 hx (k := x.lba) (by omega) (by omega)
  rcases (p2 _ _).1 hd with ⟨_, z, hz, _, _, e⟩ | ⟨_, _, e⟩
  · have : x.gen = z.gen := congrArg (fun c : Int × Int × List UInt8 => c.2.1) e
    rw [this]; exact h.2 z hz
  · have : x.gen = y.gen := congrArg (fun c : Int × Int × List UInt8 => c.2.1) e
    omega
theorem zwm {b g : Int} {was m : List Ex} {y : Ex} (h : Mk b m) (hy : z3v b y) (hg : g < y.gen) (hk : Kp was m g) : Kp was (put m y) g := by
  obtain ⟨p1, p2⟩ := z6w h hy.1 hy.2
  intro x hx hxg w hw k k1 k2 k3 k4
  rcases (p2 _ _).1 (zi7 hx k1 k2) with ⟨_, z, hz, q1, q2, e⟩ | ⟨_, _, e⟩
  · have e2 : x.gen = z.gen := congrArg (fun c : Int × Int × List UInt8 => c.2.1) e
    exact e.trans (hk z hz (by omega) w hw k q1 q2 k3 k4)
  · have : x.gen = y.gen := congrArg (fun c : Int × Int × List UInt8 => c.2.1) e
    omega
theorem zow {b G : Int} : ∀ (o m : List Ex), Up b m G → (∀ x ∈ o, z3v b x) → (∀ x ∈ o, x.gen = G) → Up b (o.foldl put m) G
  | [], m, h, _, _ => h
  | y :: o, m, h, ho, hg => zow o _ (zxf h (ho y (by simp)) (Int.le_of_eq (hg y (by simp)))) (fun x hx => ho x (by simp [hx])) fun x hx => hg x (by simp [hx])
theorem zof {b G g : Int} {was : List Ex} (hG : g < G) : ∀ (o m : List Ex), Mk b m → (∀ x ∈ o, z3v b x) → (∀ x ∈ o, x.gen = G) → Kp was m g → Kp was (o.foldl put m) g
  | [], m, _, _, _, h => h
  | y :: o, m, hm, ho, hg, h => zof hG o _ ((z6w hm (ho y (by simp)).1 (ho y (by simp)).2).1) (fun x hx => ho x (by simp [hx])) (fun x hx => hg x (by simp [hx])) (zwm hm (ho y (by simp)) (by rw [hg y (by simp)]; exact hG) h)
theorem zrz {g : Int} {o : List Ex} : ∀ x ∈ o.map (gn g), x.gen = g := by
  intro x hx
  obtain ⟨y, _, rfl⟩ := List.mem_map.1 hx
  rfl
theorem zfu {s : Sa} (h : SOk s) : (pv s s.points.length).gen < s.gen := by
  rcases Nat.eq_zero_or_pos s.points.length with g | g
  · rw [g]; have := h.2.1; simp [pv]; omega
  · obtain ⟨j, hj⟩ : ∃ j, s.points.length = j + 1 := ⟨s.points.length - 1, by omega⟩
    rw [hj, z1f]
    exact (h.2.2.2.2.2.2.2.1 j (by omega)).2.2.2.2.1
theorem zrl {s : Sa} (h : SOk s) : (pv s s.points.length).id ≤ s.last := by
  rcases Nat.eq_zero_or_pos s.points.length with g | g
  · rw [g]; have := h.2.2.2.2.1; simp [pv]; omega
  · obtain ⟨j, hj⟩ : ∃ j, s.points.length = j + 1 := ⟨s.points.length - 1, by omega⟩
    rw [hj, z1f]
    exact (h.2.2.2.2.2.2.2.1 j (by omega)).2.2.1
theorem zwr {s : Sa} {m : List Ex} (h : SOk s) (h1 : Up s.blocks m s.gen) (h2 : Kp (pv s s.points.length).map m (pv s s.points.length).gen) : SOk ⟨s.blocks, s.gen, m, s.points, s.last, s.staged⟩ := by
  obtain ⟨_, a2, a3, a4, a5, a6, a7, a8, _⟩ := h
  exact ⟨h1, a2, a3, a4, a5, a6, a7, a8, h2⟩
theorem zj5 {s : Sa} (h : SOk s) (o : List Ex) : SOk (lyS s o).1 := by
  unfold lyS
  split
  · rename_i h0
    obtain ⟨_, q1, q2, q3⟩ := zhk h0
    rw [q3]
    exact zwr h (zow _ _ h.1 q2 zrz) (zof (zfu h) _ _ h.1.1 q2 zrz h.2.2.2.2.2.2.2.2)
  · exact h
theorem zuc {b : Int} {m : List Ex} (h : Mk b m) (g : Int) : Kp m m g := fun x hx _ y hy k k1 k2 k3 k4 => zmt (z6i h) (zi7 hx k1 k2) (zi7 hy k3 k4)
theorem zo3 {l : List Po} {p : Po} {i : Nat} (hi : i < l.length) : v9 (l ++ [p]) i = v9 l i := by
  unfold v9; simp only [List.getD_eq_getElem?_getD]; rw [List.getElem?_append_left hi]
theorem znz (l : List Po) (p : Po) : v9 (l ++ [p]) l.length = p := by
  unfold v9; simp
def adS (s : Sa) (id : Int) : Sa := ⟨s.blocks, s.gen + 1, s.map, s.points ++ [⟨id, s.gen, s.map⟩], id, s.staged⟩
theorem zo9 {s : Sa} {id : Int} {i : Nat} (hi : i ≤ s.points.length) : pv (adS s id) i = pv s i := by
  cases i with
  | zero => simp [pv]
  | succ i => rw [z1f, z1f]; exact zo3 (by omega)
theorem ad_ok {s : Sa} (h : SOk s) {id : Int} (h1 : ¬ id ≤ s.last) (h2 : ¬ s.points.length = 4) (h3 : ¬ s.gen = 2147483647) (h4 : id ≤ 2147483647) : SOk (adS s id) := by
  obtain ⟨a1, a2, a3, a4, a5, a6, a7, a8, a9⟩ := h
  have hlt := zfu ⟨a1, a2, a3, a4, a5, a6, a7, a8, a9⟩
  have hid := zrl ⟨a1, a2, a3, a4, a5, a6, a7, a8, a9⟩
  have hl : (adS s id).points.length = s.points.length + 1 := by simp [adS]
  refine ⟨⟨a1.1, fun x hx => by have := a1.2 x hx; show x.gen ≤ s.gen + 1; omega⟩, by show 1 ≤ s.gen + 1; omega, by show s.gen + 1 ≤ _; omega, by omega, by show 0 ≤ id; omega, h4, a7, fun i hi => ?_, ?_⟩
  · rw [hl] at hi
    unfold PP
    by_cases g : i < s.points.length
    · have hp := a8 i g
      rw [show (adS s id).points = s.points ++ [⟨id, s.gen, s.map⟩] from rfl, zo3 g, zo9 (by omega)]
      exact ⟨hp.1, hp.2.1, by have := hp.2.2.1; show _ ≤ id; omega, hp.2.2.2.1, by have := hp.2.2.2.2.1; show _ < s.gen + 1; omega, hp.2.2.2.2.2⟩
    · have e : i = s.points.length := by omega
      subst e
      rw [show (adS s id).points = s.points ++ [⟨id, s.gen, s.map⟩] from rfl, znz, zo9 (Nat.le_refl _)]
      exact ⟨a1, by show _ < id; omega, Int.le_refl _, hlt, by show s.gen < s.gen + 1; omega, a9⟩
  · rw [hl, z1f, show (adS s id).points = s.points ++ [⟨id, s.gen, s.map⟩] from rfl, znz]
    exact zuc a1.1 _
theorem zvw {s : Sa} (h : SOk s) {id : Int} (h4 : id ≤ 2147483647) : SOk (mkS s id).1 := by
  unfold mkS
  split
  · exact h
  split
  · exact h
  split
  · exact h
  · rename_i h1 h2 h3
    exact ad_ok h h1 h2 h3 h4
theorem dr_ok {s : Sa} (h : SOk s) (id : Int) : SOk (drS s id).1 := by
  unfold drS
  split
  · rename_i h1; exact rm_ok h h1
  · exact h
theorem st_ok {s : Sa} (h : SOk s) (d : List UInt8) : SOk (stS s d).1 := by
  unfold stS
  split
  · exact h
  · rename_i h1
    exact zfw h (by simp; omega)
theorem zvl {s : Sa} (h : SOk s) : SOk (abS s) := zfw h (by simp)
theorem do_ok {s : Sa} {c : Ch} (h : SOk s) (hc : CkH c) : SOk (doK s c).1 := by
  have kk := z9w hc
  unfold doK
  split
  · exact zj5 h _
  split
  · exact zj5 h _
  split
  · exact zj5 h _
  split
  · rename_i k4; exact zvw h (((zvn k4).1 hc).2.1.2)
  split
  · exact dr_ok h _
  split
  · exact st_ok h _
  split
  · exact zvl h
  · have k8 : c.kind = 8 := by omega
    unfold apS
    split
    · split
      · exact zvl (zvw (zj5 h _) (((zo2 k8).1 hc).2.1.2))
      · exact h
    · exact h
theorem zqs {s : Sa} (h : SOk s) (c : Ch) : SOk (doS s c).1 := by
  by_cases hc : CkH c
  · rw [zjk h hc]; exact do_ok h hc
  · rw [zkf h hc]; exact h
theorem zfk {s : Sa} (h : SOk s) (c : Ch) : (doS s c).1.blocks = s.blocks := by
  by_cases hc : CkH c
  case neg => rw [zkf h hc]
  rw [zjk h hc]
  have hl : ∀ o, (lyS s o).1.blocks = s.blocks := fun o => by unfold lyS; split <;> rfl
  have hm : ∀ (t : Sa) id, (mkS t id).1.blocks = t.blocks := fun t id => by
    unfold mkS
    split
    · rfl
    split
    · rfl
    split <;> rfl
  unfold doK
  split
  · exact hl _
  split
  · exact hl _
  split
  · exact hl _
  split
  · exact hm _ _
  split
  · unfold drS; split <;> rfl
  split
  · unfold stS; split <;> rfl
  split
  · rfl
  · unfold apS
    split
    · split
      · show (mkS _ _).1.blocks = _; rw [hm, hl]
      · rfl
    · rfl
end Ab
end Go.Proofs.Ytimcbhhebnikiaa
namespace Go.Proofs.Ytimcbhhebnikiaa
open Go Go.Proofs.Ytimcbhhebnikiaa.Ab
set_option linter.unusedVariables false
set_option linter.unusedSimpArgs false
namespace Ab
theorem zu9 {l : List Ch} (h : zqt l) : ∀ c ∈ l, Hz c := fun c hc => ⟨by have := (h.2 c hc).1; omega, zve (h.2 c hc).2⟩
end Ab
end Go.Proofs.Ytimcbhhebnikiaa
namespace Go.Proofs.Ytimcbhhebnikiaa
open Go Go.Proofs.Ytimcbhhebnikiaa.Ab
set_option linter.unusedVariables false
set_option linter.unusedSimpArgs false
set_option maxRecDepth 1000000
set_option maxHeartbeats 0
namespace Ab
def aw11 : Option Bool := some true
theorem zp9 : zo7 Try.prog cf 4000 11 [] = some (.b true) := by kernel_rfl
theorem zoy (r : Bool) : aw11 = some r → z08 Try.prog cf true 11 [] (.b r) := fun h => by
  cases h
  exact z08.of_bool zp9
end Ab
end Go.Proofs.Ytimcbhhebnikiaa
namespace Go.Proofs.Ytimcbhhebnikiaa
open Go Go.Proofs.Ytimcbhhebnikiaa.Ab
set_option linter.unusedVariables false
set_option linter.unusedSimpArgs false
set_option maxRecDepth 1000000
set_option maxHeartbeats 0
namespace Ab
noncomputable abbrev zaw (blocks : UInt8) (l : List Ch) (s0 : Bool) (s1 : Bool) (s3 : Sa × Int) : St := (St.mk [(0, (AV.y blocks)), (1, (AV.sl l.length (l.flatMap Ch.cells))), (4, (AV.b false)), (19, (AV.b s0)), (5, (AV.b s0)), (20, (AV.y blocks)), (21, (AV.i (wr (↑(UInt8.toNat blocks) : Int)))), (22, (AV.i (Int.tmod (wr (↑(UInt8.toNat blocks) : Int)) (64 : Int)))), (23, (AV.i (wr ((1 : Int) + (Int.tmod (wr (↑(UInt8.toNat blocks) : Int)) (64 : Int)))))), (6, (AV.i (wr ((1 : Int) + (Int.tmod (wr (↑(UInt8.toNat blocks) : Int)) (64 : Int)))))), (24, (AV.sl l.length (l.flatMap Ch.cells))), (25, (AV.b s1)), (26, (AV.b (!s1))), (29, (AV.i (wr ((1 : Int) + (Int.tmod (wr (↑(UInt8.toNat blocks) : Int)) (64 : Int)))))), (30, (AV.tu [(AV.ag [(AV.i s3.1.blocks), (AV.i s3.1.gen), (exs s3.1.map), (AV.sl s3.1.points.length (s3.1.points.flatMap Po.cells)), (AV.i s3.1.last), (bys s3.1.staged)]), (AV.i s3.2)])), (28, (AV.tu [(AV.ag [(AV.i s3.1.blocks), (AV.i s3.1.gen), (exs s3.1.map), (AV.sl s3.1.points.length (s3.1.points.flatMap Po.cells)), (AV.i s3.1.last), (bys s3.1.staged)]), (AV.i s3.2)])), (31, (AV.ag [(AV.i s3.1.blocks), (AV.i s3.1.gen), (exs s3.1.map), (AV.sl s3.1.points.length (s3.1.points.flatMap Po.cells)), (AV.i s3.1.last), (bys s3.1.staged)])), (32, (AV.i s3.2)), (7, (AV.pt 0 0)), (8, (AV.i s3.2)), (33, (AV.i (wr ((1 : Int) + (Int.tmod (wr (↑(UInt8.toNat blocks) : Int)) (64 : Int)))))), (34, (AV.rf 1 34 0 (Int.toNat (wr ((1 : Int) + (Int.tmod (wr (↑(UInt8.toNat blocks) : Int)) (64 : Int))))))), (9, (AV.rf 1 34 0 (Int.toNat (wr ((1 : Int) + (Int.tmod (wr (↑(UInt8.toNat blocks) : Int)) (64 : Int))))))), (10, (AV.i 0))] 166 (AH.mk 2 [(1, (AObj.cells (List.flatten (List.replicate (Int.toNat (wr ((1 : Int) + (Int.tmod (wr (↑(UInt8.toNat blocks) : Int)) (64 : Int))))) ((AV.i (Int.ofNat 0)) :: (AV.i (Int.ofNat 0)) :: List.replicate (32 : Nat) (AV.y (UInt8.ofNat (0 : Nat)))))))), (0, (AObj.cells [(AV.i s3.1.blocks), (AV.i s3.1.gen), (exs s3.1.map), (AV.sl s3.1.points.length (s3.1.points.flatMap Po.cells)), (AV.i s3.1.last), (bys s3.1.staged)]))]) false)
noncomputable abbrev z2r (blocks : UInt8) (l : List Ch) (s0 : Bool) (s1 : Bool) (s3 : Sa × Int) (s5 : List Ce × Int × Int × Int × List Ex × List Po × Int × List UInt8) : St := (St.mk [(0, (AV.y blocks)), (1, (AV.sl l.length (l.flatMap Ch.cells))), (5, (AV.b s0)), (6, (AV.i (wr ((1 : Int) + (Int.tmod (wr (↑(UInt8.toNat blocks) : Int)) (64 : Int)))))), (26, (AV.b (!s1))), (7, (AV.pt 0 0)), (9, (ces s5.1)), (10, (AV.i s5.2.1))] 166 (AH.mk 2 [(0, (AObj.cells [(AV.i s5.2.2.1), (AV.i s5.2.2.2.1), (exs s5.2.2.2.2.1), (pos s5.2.2.2.2.2.1), (AV.i s5.2.2.2.2.2.2.1), (bys s5.2.2.2.2.2.2.2)]))]) false)
noncomputable def z06 (blocks : UInt8) (l : List Ch) (s0 : Bool) (s1 : Bool) (s3 : Sa × Int) (s5 : List Ce × Int × Int × Int × List Ex × List Po × Int × List UInt8) : Option (List Ce × Int × Int × Int × List Ex × List Po × Int × List UInt8) :=
 (tb ((decide (s5.2.1 < (l.length : Int)))) (tp ((((0 : Int) ≤ s5.2.1) ∧ (s5.2.1 < (l.length : Int)))) (tc (sDo ((Sa.mk s5.2.2.1 s5.2.2.2.1 s5.2.2.2.2.1 s5.2.2.2.2.2.1 s5.2.2.2.2.2.2.1 s5.2.2.2.2.2.2.2)) ((u7 l s5.2.1.toNat))) fun s8 => (tb ((s8.2 == (0 : Int))) (tb (((u7 l s5.2.1.toNat).kind == (1 : Int))) (tc (zen (s5.1) ((u7 l s5.2.1.toNat).lba) (s5.2.2.2.1) ((u7 l s5.2.1.toNat).d)) fun s11 => (tc (iOf ((wr ((1 : Int) + (Int.tmod (wr (↑(UInt8.toNat blocks) : Int)) (64 : Int))))) (s8.1.map)) fun s12 => (tb ((s12.2 != (0 : Int))) none (tc (z4z (s12.1) (s11.1)) fun s14 => (tb ((!s14)) none (tb (((u7 l s5.2.1.toNat).kind == (4 : Int))) (tc (z3l (s8.1) ((u7 l s5.2.1.toNat).id)) fun s17 => (tb ((s17.2 != (0 : Int))) none (tc (z5w (s17.1.map) (s8.1.map)) fun s19 => (tb ((!s19)) none (tb ((s17.1.gen != s5.2.2.2.1)) none (tb ((s8.1.gen != (wr (s5.2.2.2.1 + (1 : Int))))) none (some ((s11.1, ((wr (s5.2.1 + (1 : Int))), (s8.1.blocks, (s8.1.gen, (s8.1.map, (s8.1.points, (s8.1.last, s8.1.staged))))))))))))))) (tb (((u7 l s5.2.1.toNat).kind == (8 : Int))) (tc (z3l (s8.1) ((u7 l s5.2.1.toNat).id)) fun s18 => (tb ((s18.2 != (0 : Int))) none (tc (z5w (s18.1.map) (s8.1.map)) fun s20 => (tb ((!s20)) none (tb ((s18.1.gen != s5.2.2.2.1)) none (tb ((s8.1.gen != (wr (s5.2.2.2.1 + (1 : Int))))) none (some ((s11.1, ((wr (s5.2.1 + (1 : Int))), (s8.1.blocks, (s8.1.gen, (s8.1.map, (s8.1.points, (s8.1.last, s8.1.staged))))))))))))))) (some ((s11.1, ((wr (s5.2.1 + (1 : Int))), (s8.1.blocks, (s8.1.gen, (s8.1.map, (s8.1.points, (s8.1.last, s8.1.staged)))))))))))))))) (tb (((u7 l s5.2.1.toNat).kind == (2 : Int))) (tc (zfy (s5.1) ((u7 l s5.2.1.toNat).lba) ((u7 l s5.2.1.toNat).n) ((1 : Int)) (s5.2.2.2.1)) fun s12 => (tc (iOf ((wr ((1 : Int) + (Int.tmod (wr (↑(UInt8.toNat blocks) : Int)) (64 : Int))))) (s8.1.map)) fun s13 => (tb ((s13.2 != (0 : Int))) none (tc (z4z (s13.1) (s12.1)) fun s15 => (tb ((!s15)) none (tb (((u7 l s5.2.1.toNat).kind == (4 : Int))) (tc (z3l (s8.1) ((u7 l s5.2.1.toNat).id)) fun s18 => (tb ((s18.2 != (0 : Int))) none (tc (z5w (s18.1.map) (s8.1.map)) fun s20 => (tb ((!s20)) none (tb ((s18.1.gen != s5.2.2.2.1)) none (tb ((s8.1.gen != (wr (s5.2.2.2.1 + (1 : Int))))) none (some ((s12.1, ((wr (s5.2.1 + (1 : Int))), (s8.1.blocks, (s8.1.gen, (s8.1.map, (s8.1.points, (s8.1.last, s8.1.staged))))))))))))))) (tb (((u7 l s5.2.1.toNat).kind == (8 : Int))) (tc (z3l (s8.1) ((u7 l s5.2.1.toNat).id)) fun s19 => (tb ((s19.2 != (0 : Int))) none (tc (z5w (s19.1.map) (s8.1.map)) fun s21 => (tb ((!s21)) none (tb ((s19.1.gen != s5.2.2.2.1)) none (tb ((s8.1.gen != (wr (s5.2.2.2.1 + (1 : Int))))) none (some ((s12.1, ((wr (s5.2.1 + (1 : Int))), (s8.1.blocks, (s8.1.gen, (s8.1.map, (s8.1.points, (s8.1.last, s8.1.staged))))))))))))))) (some ((s12.1, ((wr (s5.2.1 + (1 : Int))), (s8.1.blocks, (s8.1.gen, (s8.1.map, (s8.1.points, (s8.1.last, s8.1.staged)))))))))))))))) (tb (((u7 l s5.2.1.toNat).kind == (3 : Int))) (tc (zfy (s5.1) ((u7 l s5.2.1.toNat).lba) ((u7 l s5.2.1.toNat).n) ((0 : Int)) (s5.2.2.2.1)) fun s13 => (tc (iOf ((wr ((1 : Int) + (Int.tmod (wr (↑(UInt8.toNat blocks) : Int)) (64 : Int))))) (s8.1.map)) fun s14 => (tb ((s14.2 != (0 : Int))) none (tc (z4z (s14.1) (s13.1)) fun s16 => (tb ((!s16)) none (tb (((u7 l s5.2.1.toNat).kind == (4 : Int))) (tc (z3l (s8.1) ((u7 l s5.2.1.toNat).id)) fun s19 => (tb ((s19.2 != (0 : Int))) none (tc (z5w (s19.1.map) (s8.1.map)) fun s21 => (tb ((!s21)) none (tb ((s19.1.gen != s5.2.2.2.1)) none (tb ((s8.1.gen != (wr (s5.2.2.2.1 + (1 : Int))))) none (some ((s13.1, ((wr (s5.2.1 + (1 : Int))), (s8.1.blocks, (s8.1.gen, (s8.1.map, (s8.1.points, (s8.1.last, s8.1.staged))))))))))))))) (tb (((u7 l s5.2.1.toNat).kind == (8 : Int))) (tc (z3l (s8.1) ((u7 l s5.2.1.toNat).id)) fun s20 => (tb ((s20.2 != (0 : Int))) none (tc (z5w (s20.1.map) (s8.1.map)) fun s22 => (tb ((!s22)) none (tb ((s20.1.gen != s5.2.2.2.1)) none (tb ((s8.1.gen != (wr (s5.2.2.2.1 + (1 : Int))))) none (some ((s13.1, ((wr (s5.2.1 + (1 : Int))), (s8.1.blocks, (s8.1.gen, (s8.1.map, (s8.1.points, (s8.1.last, s8.1.staged))))))))))))))) (some ((s13.1, ((wr (s5.2.1 + (1 : Int))), (s8.1.blocks, (s8.1.gen, (s8.1.map, (s8.1.points, (s8.1.last, s8.1.staged)))))))))))))))) (tb (((u7 l s5.2.1.toNat).kind == (8 : Int))) (tc (iOf ((wr ((1 : Int) + (Int.tmod (wr (↑(UInt8.toNat blocks) : Int)) (64 : Int))))) (s8.1.map)) fun s14 => (tc (iOf ((wr ((1 : Int) + (Int.tmod (wr (↑(UInt8.toNat blocks) : Int)) (64 : Int))))) (s8.1.map)) fun s15 => (tb ((s15.2 != (0 : Int))) none (tc (z4z (s15.1) (s14.1)) fun s17 => (tb ((!s17)) none (tb (((u7 l s5.2.1.toNat).kind == (4 : Int))) (tc (z3l (s8.1) ((u7 l s5.2.1.toNat).id)) fun s20 => (tb ((s20.2 != (0 : Int))) none (tc (z5w (s20.1.map) (s8.1.map)) fun s22 => (tb ((!s22)) none (tb ((s20.1.gen != s5.2.2.2.1)) none (tb ((s8.1.gen != (wr (s5.2.2.2.1 + (1 : Int))))) none (some ((s14.1, ((wr (s5.2.1 + (1 : Int))), (s8.1.blocks, (s8.1.gen, (s8.1.map, (s8.1.points, (s8.1.last, s8.1.staged))))))))))))))) (tc (z3l (s8.1) ((u7 l s5.2.1.toNat).id)) fun s20 => (tb ((s20.2 != (0 : Int))) none (tc (z5w (s20.1.map) (s8.1.map)) fun s22 => (tb ((!s22)) none (tb ((s20.1.gen != s5.2.2.2.1)) none (tb ((s8.1.gen != (wr (s5.2.2.2.1 + (1 : Int))))) none (some ((s14.1, ((wr (s5.2.1 + (1 : Int))), (s8.1.blocks, (s8.1.gen, (s8.1.map, (s8.1.points, (s8.1.last, s8.1.staged))))))))))))))))))))) (tc (iOf ((wr ((1 : Int) + (Int.tmod (wr (↑(UInt8.toNat blocks) : Int)) (64 : Int))))) (s8.1.map)) fun s14 => (tb ((s14.2 != (0 : Int))) none (tc (z4z (s14.1) (s5.1)) fun s16 => (tb ((!s16)) none (tb (((u7 l s5.2.1.toNat).kind == (4 : Int))) (tc (z3l (s8.1) ((u7 l s5.2.1.toNat).id)) fun s19 => (tb ((s19.2 != (0 : Int))) none (tc (z5w (s19.1.map) (s8.1.map)) fun s21 => (tb ((!s21)) none (tb ((s19.1.gen != s5.2.2.2.1)) none (tb ((s8.1.gen != (wr (s5.2.2.2.1 + (1 : Int))))) none (some ((s5.1, ((wr (s5.2.1 + (1 : Int))), (s8.1.blocks, (s8.1.gen, (s8.1.map, (s8.1.points, (s8.1.last, s8.1.staged))))))))))))))) (some ((s5.1, ((wr (s5.2.1 + (1 : Int))), (s8.1.blocks, (s8.1.gen, (s8.1.map, (s8.1.points, (s8.1.last, s8.1.staged)))))))))))))))))) (tc (iOf ((wr ((1 : Int) + (Int.tmod (wr (↑(UInt8.toNat blocks) : Int)) (64 : Int))))) (s8.1.map)) fun s10 => (tb ((s10.2 != (0 : Int))) none (tc (z4z (s10.1) (s5.1)) fun s12 => (tb ((!s12)) none (some ((s5.1, ((wr (s5.2.1 + (1 : Int))), (s8.1.blocks, (s8.1.gen, (s8.1.map, (s8.1.points, (s8.1.last, s8.1.staged)))))))))))))))) none)
theorem zad (blocks : UInt8) (l : List Ch) (s0 : Bool) (s1 : Bool) (s3 : Sa × Int) (s5 zz : List Ce × Int × Int × Int × List Ex × List Po × Int × List UInt8) : z06 blocks l s0 s1 s3 s5 = some zz → u5 Try.prog cf 2 (lp Try.prog 10 0) (z2r blocks l s0 s1 s3 s5) (z2r blocks l s0 s1 s3 zz) := by
  unfold z06
  exact tbD (fun h6 h6p => x8 fun h7 => x5 fun s8 h8 => tbE (fun h9 h9p => tbE (fun h10 h10p => x5 fun s11 h11 => x5 fun s12 h12 => tbN (fun h13 h13p => w6) fun h13 h13p => x5 fun s14 h14 => u0 (fun h15 => w6) fun h15 => tbE (fun h16 h16p => x5 fun s17 h17 => tbN (fun h18 h18p => w6) fun h18 h18p => x5 fun s19 h19 => u0 (fun h20 => w6) fun h20 => tbN (fun h21 h21p => w6) fun h21 h21p => tbN (fun h22 h22p => w6) fun h22 h22p => by intro e; injection e with e; subst e; exact d6 z9 (k := 300) (r := []) (hs := hz [(4, [.yes]), (2, [.yes, .yes, .cells ((Ch.cells (u7 l s5.2.1.toNat)))]), (2, [.fc]), (1, [.fc]), (1, [.fc]), (1, [.fres (.tu [Sa.av (s8.1), .i (s8.2)])]), (5, [.fc]), (5, [.yes]), (5, [.yes]), (11, [.fres (.tu [ces (s11.1), .i (s11.2)])]), (9, [.fres (.tu [ces (s12.1), .i (s12.2)])]), (8, [.no]), (1, [.no]), (1, [.no]), (1, [.fres (.b (s14)), .no]), (1, [.no, .no]), (3, [.yes]), (1, [.yes]), (2, [.yes]), (1, [.yes]), (1, [.yes, .yes, .yes, .yes, .yes, .yes]), (2, [.fc]), (4, [.fres (.tu [Po.av (s17.1), .i (s17.2)])]), (5, [.fc]), (4, [.no]), (1, [.no]), (2, [.no]), (1, [.no]), (2, [.no]), (1, [.fres (.b (s19)), .no]), (1, [.no]), (1, [.no]), (1, [.no]), (2, [.no]), (1, [.no]), (2, [.no]), (1, [.no]), (1, [.no]), (1, [.no]), (2, [.no]), (1, [.no]), (2, [.no]), (1, [.no]), (1, [.no, .no]), (1, [.fc]), (1, [.fc]), (5, [])]) (ks := [0, 1, 5, 6, 26, 7, 9, 10]) (bs := [0]) kq (ac h6 (ac h7 (ac (fq (p := ((6 : Nat) ≤ (List.length (List.drop (s5.2.1.toNat * 6) (l.flatMap Ch.cells)))))) (ac (show (List.take 6 (List.drop (s5.2.1.toNat * 6) (l.flatMap Ch.cells))) = (Ch.cells (u7 l s5.2.1.toNat)) from (z0w bq bq)) (ac (z3p ((Sa.mk s5.2.2.1 s5.2.2.2.1 s5.2.2.2.2.1 s5.2.2.2.2.2.1 s5.2.2.2.2.2.2.1 s5.2.2.2.2.2.2.2)) ((u7 l s5.2.1.toNat)) _ h8) (ac h9 (ac h10 (ac (zbk (s5.1) ((u7 l s5.2.1.toNat).lba) (s5.2.2.2.1) ((u7 l s5.2.1.toNat).d) _ h11).any0 (ac (z2x ((wr ((1 : Int) + (Int.tmod (wr (↑(UInt8.toNat blocks) : Int)) (64 : Int))))) (s8.1.map) _ h12).any0 (ac h13 (ac h13 (ac h13 (ac (z0u (s12.1) (s11.1) _ h14).any0 (ac h13 (ac h13 (ac h15 (ac h9 (ac h9 (ac h9 (ac h9 (ac h16 (ac h16 (ac h16 (ac h9 (ac h16 (ac h9 (ac (z2p (s8.1) ((u7 l s5.2.1.toNat).id) _ h17) (ac h18 (ac h18 (ac h18 (ac h18 (ac h18 (ac (z3n (s17.1.map) (s8.1.map) _ h19).any0 (ac h18 (ac h18 (ac h20 (ac h20 (ac h20 (ac h20 (ac h20 (ac h20 (ac h21 (ac h21 (ac h21 (ac h21 (ac h21 (ac h21 (ac h21 (ac h22 an))))))))))))))))))))))))))))))))))))))))))))))))) kq) fun h16 h16p => tbE (fun h17 h17p => x5 fun s18 h18 => tbN (fun h19 h19p => w6) fun h19 h19p => x5 fun s20 h20 => u0 (fun h21 => w6) fun h21 => tbN (fun h22 h22p => w6) fun h22 h22p => tbN (fun h23 h23p => w6) fun h23 h23p => by intro e; injection e with e; subst e; exact d6 z9 (k := 300) (r := []) (hs := hz [(4, [.yes]), (2, [.yes, .yes, .cells ((Ch.cells (u7 l s5.2.1.toNat)))]), (2, [.fc]), (1, [.fc]), (1, [.fc]), (1, [.fres (.tu [Sa.av (s8.1), .i (s8.2)])]), (5, [.fc]), (5, [.yes]), (5, [.yes]), (11, [.fres (.tu [ces (s11.1), .i (s11.2)])]), (9, [.fres (.tu [ces (s12.1), .i (s12.2)])]), (8, [.no]), (1, [.no]), (1, [.no]), (1, [.fres (.b (s14)), .no]), (1, [.no, .no]), (3, [.yes]), (1, [.yes]), (2, [.yes]), (1, [.yes]), (1, [.no]), (1, [.no]), (2, [.no]), (1, [.yes, .no, .yes, .yes]), (1, [.fc]), (4, [.fres (.tu [Po.av (s18.1), .i (s18.2)])]), (5, [.fc]), (4, [.no]), (1, [.no]), (2, [.no]), (1, [.no]), (2, [.no]), (1, [.fres (.b (s20)), .no]), (1, [.no]), (1, [.no]), (1, [.no]), (2, [.no]), (1, [.no]), (2, [.no]), (1, [.no]), (1, [.no]), (1, [.no]), (2, [.no]), (1, [.no]), (2, [.no]), (1, [.no]), (1, [.no, .no]), (1, [.fc]), (1, [.fc]), (5, [])]) (ks := [0, 1, 5, 6, 26, 7, 9, 10]) (bs := [0]) kq (ac h6 (ac h7 (ac (fq (p := ((6 : Nat) ≤ (List.length (List.drop (s5.2.1.toNat * 6) (l.flatMap Ch.cells)))))) (ac (show (List.take 6 (List.drop (s5.2.1.toNat * 6) (l.flatMap Ch.cells))) = (Ch.cells (u7 l s5.2.1.toNat)) from (z0w bq bq)) (ac (z3p ((Sa.mk s5.2.2.1 s5.2.2.2.1 s5.2.2.2.2.1 s5.2.2.2.2.2.1 s5.2.2.2.2.2.2.1 s5.2.2.2.2.2.2.2)) ((u7 l s5.2.1.toNat)) _ h8) (ac h9 (ac h10 (ac (zbk (s5.1) ((u7 l s5.2.1.toNat).lba) (s5.2.2.2.1) ((u7 l s5.2.1.toNat).d) _ h11).any0 (ac (z2x ((wr ((1 : Int) + (Int.tmod (wr (↑(UInt8.toNat blocks) : Int)) (64 : Int))))) (s8.1.map) _ h12).any0 (ac h13 (ac h13 (ac h13 (ac (z0u (s12.1) (s11.1) _ h14).any0 (ac h13 (ac h13 (ac h15 (ac h9 (ac h9 (ac h9 (ac h9 (ac h16 (ac h16 (ac h16 (ac h9 (ac h16 (ac h9 (ac h17 (ac (z2p (s8.1) ((u7 l s5.2.1.toNat).id) _ h18) (ac h19 (ac h19 (ac h19 (ac h19 (ac h19 (ac (z3n (s18.1.map) (s8.1.map) _ h20).any0 (ac h19 (ac h19 (ac h21 (ac h21 (ac h21 (ac h21 (ac h21 (ac h21 (ac h22 (ac h22 (ac h22 (ac h22 (ac h22 (ac h22 (ac h22 (ac h23 an)))))))))))))))))))))))))))))))))))))))))))))))))) kq) fun h17 h17p => by intro e; injection e with e; subst e; exact d6 z9 (k := 300) (r := []) (hs := hz [(4, [.yes]), (2, [.yes, .yes, .cells ((Ch.cells (u7 l s5.2.1.toNat)))]), (2, [.fc]), (1, [.fc]), (1, [.fc]), (1, [.fres (.tu [Sa.av (s8.1), .i (s8.2)])]), (5, [.fc]), (5, [.yes]), (5, [.yes]), (11, [.fres (.tu [ces (s11.1), .i (s11.2)])]), (9, [.fres (.tu [ces (s12.1), .i (s12.2)])]), (8, [.no]), (1, [.no]), (1, [.no]), (1, [.fres (.b (s14)), .no]), (1, [.no, .no]), (3, [.yes]), (1, [.yes]), (2, [.yes]), (1, [.yes]), (1, [.no]), (1, [.no]), (2, [.no]), (1, [.yes, .no, .yes, .no]), (1, [.fc]), (1, [.fc]), (5, [])]) (ks := [0, 1, 5, 6, 26, 7, 9, 10]) (bs := [0]) kq (ac h6 (ac h7 (ac (fq (p := ((6 : Nat) ≤ (List.length (List.drop (s5.2.1.toNat * 6) (l.flatMap Ch.cells)))))) (ac (show (List.take 6 (List.drop (s5.2.1.toNat * 6) (l.flatMap Ch.cells))) = (Ch.cells (u7 l s5.2.1.toNat)) from (z0w bq bq)) (ac (z3p ((Sa.mk s5.2.2.1 s5.2.2.2.1 s5.2.2.2.2.1 s5.2.2.2.2.2.1 s5.2.2.2.2.2.2.1 s5.2.2.2.2.2.2.2)) ((u7 l s5.2.1.toNat)) _ h8) (ac h9 (ac h10 (ac (zbk (s5.1) ((u7 l s5.2.1.toNat).lba) (s5.2.2.2.1) ((u7 l s5.2.1.toNat).d) _ h11).any0 (ac (z2x ((wr ((1 : Int) + (Int.tmod (wr (↑(UInt8.toNat blocks) : Int)) (64 : Int))))) (s8.1.map) _ h12).any0 (ac h13 (ac h13 (ac h13 (ac (z0u (s12.1) (s11.1) _ h14).any0 (ac h13 (ac h13 (ac h15 (ac h9 (ac h9 (ac h9 (ac h9 (ac h16 (ac h16 (ac h16 (ac h9 (ac h16 (ac h9 (ac h17 an))))))))))))))))))))))))))) kq) fun h10 h10p => tbE (fun h11 h11p => x5 fun s12 h12 => x5 fun s13 h13 => tbN (fun h14 h14p => w6) fun h14 h14p => x5 fun s15 h15 => u0 (fun h16 => w6) fun h16 => tbE (fun h17 h17p => x5 fun s18 h18 => tbN (fun h19 h19p => w6) fun h19 h19p => x5 fun s20 h20 => u0 (fun h21 => w6) fun h21 => tbN (fun h22 h22p => w6) fun h22 h22p => tbN (fun h23 h23p => w6) fun h23 h23p => by intro e; injection e with e; subst e; exact d6 z9 (k := 300) (r := []) (hs := hz [(4, [.yes]), (2, [.yes, .yes, .cells ((Ch.cells (u7 l s5.2.1.toNat)))]), (2, [.fc]), (1, [.fc]), (1, [.fc]), (1, [.fres (.tu [Sa.av (s8.1), .i (s8.2)])]), (5, [.fc]), (5, [.yes]), (5, [.no]), (2, [.yes]), (11, [.fres (.tu [ces (s12.1), .i (s12.2)])]), (9, [.fres (.tu [ces (s13.1), .i (s13.2)])]), (8, [.no]), (1, [.no]), (1, [.no]), (1, [.fres (.b (s15)), .no]), (1, [.no, .no]), (3, [.yes]), (1, [.yes]), (2, [.yes]), (1, [.yes]), (1, [.yes, .yes, .yes, .yes, .yes, .yes]), (2, [.fc]), (4, [.fres (.tu [Po.av (s18.1), .i (s18.2)])]), (5, [.fc]), (4, [.no]), (1, [.no]), (2, [.no]), (1, [.no]), (2, [.no]), (1, [.fres (.b (s20)), .no]), (1, [.no]), (1, [.no]), (1, [.no]), (2, [.no]), (1, [.no]), (2, [.no]), (1, [.no]), (1, [.no]), (1, [.no]), (2, [.no]), (1, [.no]), (2, [.no]), (1, [.no]), (1, [.no, .no]), (1, [.fc]), (1, [.fc]), (5, [])]) (ks := [0, 1, 5, 6, 26, 7, 9, 10]) (bs := [0]) kq (ac h6 (ac h7 (ac (fq (p := ((6 : Nat) ≤ (List.length (List.drop (s5.2.1.toNat * 6) (l.flatMap Ch.cells)))))) (ac (show (List.take 6 (List.drop (s5.2.1.toNat * 6) (l.flatMap Ch.cells))) = (Ch.cells (u7 l s5.2.1.toNat)) from (z0w bq bq)) (ac (z3p ((Sa.mk s5.2.2.1 s5.2.2.2.1 s5.2.2.2.2.1 s5.2.2.2.2.2.1 s5.2.2.2.2.2.2.1 s5.2.2.2.2.2.2.2)) ((u7 l s5.2.1.toNat)) _ h8) (ac h9 (ac h10 (ac h11 (ac (z6y (s5.1) ((u7 l s5.2.1.toNat).lba) ((u7 l s5.2.1.toNat).n) ((1 : Int)) (s5.2.2.2.1) _ h12).any0 (ac (z2x ((wr ((1 : Int) + (Int.tmod (wr (↑(UInt8.toNat blocks) : Int)) (64 : Int))))) (s8.1.map) _ h13).any0 (ac h14 (ac h14 (ac h14 (ac (z0u (s13.1) (s12.1) _ h15).any0 (ac h14 (ac h14 (ac h16 (ac h9 (ac h9 (ac h9 (ac h9 (ac h17 (ac h17 (ac h17 (ac h9 (ac h17 (ac h9 (ac (z2p (s8.1) ((u7 l s5.2.1.toNat).id) _ h18) (ac h19 (ac h19 (ac h19 (ac h19 (ac h19 (ac (z3n (s18.1.map) (s8.1.map) _ h20).any0 (ac h19 (ac h19 (ac h21 (ac h21 (ac h21 (ac h21 (ac h21 (ac h21 (ac h22 (ac h22 (ac h22 (ac h22 (ac h22 (ac h22 (ac h22 (ac h23 an)))))))))))))))))))))))))))))))))))))))))))))))))) kq) fun h17 h17p => tbE (fun h18 h18p => x5 fun s19 h19 => tbN (fun h20 h20p => w6) fun h20 h20p => x5 fun s21 h21 => u0 (fun h22 => w6) fun h22 => tbN (fun h23 h23p => w6) fun h23 h23p => tbN (fun h24 h24p => w6) fun h24 h24p => by intro e; injection e with e; subst e; exact d6 z9 (k := 300) (r := []) (hs := hz [(4, [.yes]), (2, [.yes, .yes, .cells ((Ch.cells (u7 l s5.2.1.toNat)))]), (2, [.fc]), (1, [.fc]), (1, [.fc]), (1, [.fres (.tu [Sa.av (s8.1), .i (s8.2)])]), (5, [.fc]), (5, [.yes]), (5, [.no]), (2, [.yes]), (11, [.fres (.tu [ces (s12.1), .i (s12.2)])]), (9, [.fres (.tu [ces (s13.1), .i (s13.2)])]), (8, [.no]), (1, [.no]), (1, [.no]), (1, [.fres (.b (s15)), .no]), (1, [.no, .no]), (3, [.yes]), (1, [.yes]), (2, [.yes]), (1, [.yes]), (1, [.no]), (1, [.no]), (2, [.no]), (1, [.yes, .no, .yes, .yes]), (1, [.fc]), (4, [.fres (.tu [Po.av (s19.1), .i (s19.2)])]), (5, [.fc]), (4, [.no]), (1, [.no]), (2, [.no]), (1, [.no]), (2, [.no]), (1, [.fres (.b (s21)), .no]), (1, [.no]), (1, [.no]), (1, [.no]), (2, [.no]), (1, [.no]), (2, [.no]), (1, [.no]), (1, [.no]), (1, [.no]), (2, [.no]), (1, [.no]), (2, [.no]), (1, [.no]), (1, [.no, .no]), (1, [.fc]), (1, [.fc]), (5, [])]) (ks := [0, 1, 5, 6, 26, 7, 9, 10]) (bs := [0]) kq (ac h6 (ac h7 (ac (fq (p := ((6 : Nat) ≤ (List.length (List.drop (s5.2.1.toNat * 6) (l.flatMap Ch.cells)))))) (ac (show (List.take 6 (List.drop (s5.2.1.toNat * 6) (l.flatMap Ch.cells))) = (Ch.cells (u7 l s5.2.1.toNat)) from (z0w bq bq)) (ac (z3p ((Sa.mk s5.2.2.1 s5.2.2.2.1 s5.2.2.2.2.1 s5.2.2.2.2.2.1 s5.2.2.2.2.2.2.1 s5.2.2.2.2.2.2.2)) ((u7 l s5.2.1.toNat)) _ h8) (ac h9 (ac h10 (ac h11 (ac (z6y (s5.1) ((u7 l s5.2.1.toNat).lba) ((u7 l s5.2.1.toNat).n) ((1 : Int)) (s5.2.2.2.1) _ h12).any0 (ac (z2x ((wr ((1 : Int) + (Int.tmod (wr (↑(UInt8.toNat blocks) : Int)) (64 : Int))))) (s8.1.map) _ h13).any0 (ac h14 (ac h14 (ac h14 (ac (z0u (s13.1) (s12.1) _ h15).any0 (ac h14 (ac h14 (ac h16 (ac h9 (ac h9 (ac h9 (ac h9 (ac h17 (ac h17 (ac h17 (ac h9 (ac h17 (ac h9 (ac h18 (ac (z2p (s8.1) ((u7 l s5.2.1.toNat).id) _ h19) (ac h20 (ac h20 (ac h20 (ac h20 (ac h20 (ac (z3n (s19.1.map) (s8.1.map) _ h21).any0 (ac h20 (ac h20 (ac h22 (ac h22 (ac h22 (ac h22 (ac h22 (ac h22 (ac h23 (ac h23 (ac h23 (ac h23 (ac h23 (ac h23 (ac h23 (ac h24 an))))))))))))))))))))))))))))))))))))))))))))))))))) kq) fun h18 h18p => by intro e; injection e with e; subst e; exact d6 z9 (k := 300) (r := []) (hs := hz [(4, [.yes]), (2, [.yes, .yes, .cells ((Ch.cells (u7 l s5.2.1.toNat)))]), (2, [.fc]), (1, [.fc]), (1, [.fc]), (1, [.fres (.tu [Sa.av (s8.1), .i (s8.2)])]), (5, [.fc]), (5, [.yes]), (5, [.no]), (2, [.yes]), (11, [.fres (.tu [ces (s12.1), .i (s12.2)])]), (9, [.fres (.tu [ces (s13.1), .i (s13.2)])]), (8, [.no]), (1, [.no]), (1, [.no]), (1, [.fres (.b (s15)), .no]), (1, [.no, .no]), (3, [.yes]), (1, [.yes]), (2, [.yes]), (1, [.yes]), (1, [.no]), (1, [.no]), (2, [.no]), (1, [.yes, .no, .yes, .no]), (1, [.fc]), (1, [.fc]), (5, [])]) (ks := [0, 1, 5, 6, 26, 7, 9, 10]) (bs := [0]) kq (ac h6 (ac h7 (ac (fq (p := ((6 : Nat) ≤ (List.length (List.drop (s5.2.1.toNat * 6) (l.flatMap Ch.cells)))))) (ac (show (List.take 6 (List.drop (s5.2.1.toNat * 6) (l.flatMap Ch.cells))) = (Ch.cells (u7 l s5.2.1.toNat)) from (z0w bq bq)) (ac (z3p ((Sa.mk s5.2.2.1 s5.2.2.2.1 s5.2.2.2.2.1 s5.2.2.2.2.2.1 s5.2.2.2.2.2.2.1 s5.2.2.2.2.2.2.2)) ((u7 l s5.2.1.toNat)) _ h8) (ac h9 (ac h10 (ac h11 (ac (z6y (s5.1) ((u7 l s5.2.1.toNat).lba) ((u7 l s5.2.1.toNat).n) ((1 : Int)) (s5.2.2.2.1) _ h12).any0 (ac (z2x ((wr ((1 : Int) + (Int.tmod (wr (↑(UInt8.toNat blocks) : Int)) (64 : Int))))) (s8.1.map) _ h13).any0 (ac h14 (ac h14 (ac h14 (ac (z0u (s13.1) (s12.1) _ h15).any0 (ac h14 (ac h14 (ac h16 (ac h9 (ac h9 (ac h9 (ac h9 (ac h17 (ac h17 (ac h17 (ac h9 (ac h17 (ac h9 (ac h18 an)))))))))))))))))))))))))))) kq) fun h11 h11p => tbE (fun h12 h12p => x5 fun s13 h13 => x5 fun s14 h14 => tbN (fun h15 h15p => w6) fun h15 h15p => x5 fun s16 h16 => u0 (fun h17 => w6) fun h17 => tbE (fun h18 h18p => x5 fun s19 h19 => tbN (fun h20 h20p => w6) fun h20 h20p => x5 fun s21 h21 => u0 (fun h22 => w6) fun h22 => tbN (fun h23 h23p => w6) fun h23 h23p => tbN (fun h24 h24p => w6) fun h24 h24p => by intro e; injection e with e; subst e; exact d6 z9 (k := 300) (r := []) (hs := hz [(4, [.yes]), (2, [.yes, .yes, .cells ((Ch.cells (u7 l s5.2.1.toNat)))]), (2, [.fc]), (1, [.fc]), (1, [.fc]), (1, [.fres (.tu [Sa.av (s8.1), .i (s8.2)])]), (5, [.fc]), (5, [.yes]), (5, [.no]), (2, [.no]), (2, [.yes]), (11, [.fres (.tu [ces (s13.1), .i (s13.2)])]), (9, [.fres (.tu [ces (s14.1), .i (s14.2)])]), (8, [.no]), (1, [.no]), (1, [.no]), (1, [.fres (.b (s16)), .no]), (1, [.no, .no]), (3, [.yes]), (1, [.yes]), (2, [.yes]), (1, [.yes]), (1, [.yes, .yes, .yes, .yes, .yes, .yes]), (2, [.fc]), (4, [.fres (.tu [Po.av (s19.1), .i (s19.2)])]), (5, [.fc]), (4, [.no]), (1, [.no]), (2, [.no]), (1, [.no]), (2, [.no]), (1, [.fres (.b (s21)), .no]), (1, [.no]), (1, [.no]), (1, [.no]), (2, [.no]), (1, [.no]), (2, [.no]), (1, [.no]), (1, [.no]), (1, [.no]), (2, [.no]), (1, [.no]), (2, [.no]), (1, [.no]), (1, [.no, .no]), (1, [.fc]), (1, [.fc]), (5, [])]) (ks := [0, 1, 5, 6, 26, 7, 9, 10]) (bs := [0]) kq (ac h6 (ac h7 (ac (fq (p := ((6 : Nat) ≤ (List.length (List.drop (s5.2.1.toNat * 6) (l.flatMap Ch.cells)))))) (ac (show (List.take 6 (List.drop (s5.2.1.toNat * 6) (l.flatMap Ch.cells))) = (Ch.cells (u7 l s5.2.1.toNat)) from (z0w bq bq)) (ac (z3p ((Sa.mk s5.2.2.1 s5.2.2.2.1 s5.2.2.2.2.1 s5.2.2.2.2.2.1 s5.2.2.2.2.2.2.1 s5.2.2.2.2.2.2.2)) ((u7 l s5.2.1.toNat)) _ h8) (ac h9 (ac h10 (ac h11 (ac h12 (ac (z6y (s5.1) ((u7 l s5.2.1.toNat).lba) ((u7 l s5.2.1.toNat).n) ((0 : Int)) (s5.2.2.2.1) _ h13).any0 (ac (z2x ((wr ((1 : Int) + (Int.tmod (wr (↑(UInt8.toNat blocks) : Int)) (64 : Int))))) (s8.1.map) _ h14).any0 (ac h15 (ac h15 (ac h15 (ac (z0u (s14.1) (s13.1) _ h16).any0 (ac h15 (ac h15 (ac h17 (ac h9 (ac h9 (ac h9 (ac h9 (ac h18 (ac h18 (ac h18 (ac h9 (ac h18 (ac h9 (ac (z2p (s8.1) ((u7 l s5.2.1.toNat).id) _ h19) (ac h20 (ac h20 (ac h20 (ac h20 (ac h20 (ac (z3n (s19.1.map) (s8.1.map) _ h21).any0 (ac h20 (ac h20 (ac h22 (ac h22 (ac h22 (ac h22 (ac h22 (ac h22 (ac h23 (ac h23 (ac h23 (ac h23 (ac h23 (ac h23 (ac h23 (ac h24 an))))))))))))))))))))))))))))))))))))))))))))))))))) kq) fun h18 h18p => tbE (fun h19 h19p => x5 fun s20 h20 => tbN (fun h21 h21p => w6) fun h21 h21p => x5 fun s22 h22 => u0 (fun h23 => w6) fun h23 => tbN (fun h24 h24p => w6) fun h24 h24p => tbN (fun h25 h25p => w6) fun h25 h25p => by intro e; injection e with e; subst e; exact d6 z9 (k := 300) (r := []) (hs := hz [(4, [.yes]), (2, [.yes, .yes, .cells ((Ch.cells (u7 l s5.2.1.toNat)))]), (2, [.fc]), (1, [.fc]), (1, [.fc]), (1, [.fres (.tu [Sa.av (s8.1), .i (s8.2)])]), (5, [.fc]), (5, [.yes]), (5, [.no]), (2, [.no]), (2, [.yes]), (11, [.fres (.tu [ces (s13.1), .i (s13.2)])]), (9, [.fres (.tu [ces (s14.1), .i (s14.2)])]), (8, [.no]), (1, [.no]), (1, [.no]), (1, [.fres (.b (s16)), .no]), (1, [.no, .no]), (3, [.yes]), (1, [.yes]), (2, [.yes]), (1, [.yes]), (1, [.no]), (1, [.no]), (2, [.no]), (1, [.yes, .no, .yes, .yes]), (1, [.fc]), (4, [.fres (.tu [Po.av (s20.1), .i (s20.2)])]), (5, [.fc]), (4, [.no]), (1, [.no]), (2, [.no]), (1, [.no]), (2, [.no]), (1, [.fres (.b (s22)), .no]), (1, [.no]), (1, [.no]), (1, [.no]), (2, [.no]), (1, [.no]), (2, [.no]), (1, [.no]), (1, [.no]), (1, [.no]), (2, [.no]), (1, [.no]), (2, [.no]), (1, [.no]), (1, [.no, .no]), (1, [.fc]), (1, [.fc]), (5, [])]) (ks := [0, 1, 5, 6, 26, 7, 9, 10]) (bs := [0]) kq (ac h6 (ac h7 (ac (fq (p := ((6 : Nat) ≤ (List.length (List.drop (s5.2.1.toNat * 6) (l.flatMap Ch.cells)))))) (ac (show (List.take 6 (List.drop (s5.2.1.toNat * 6) (l.flatMap Ch.cells))) = (Ch.cells (u7 l s5.2.1.toNat)) from (z0w bq bq)) (ac (z3p ((Sa.mk s5.2.2.1 s5.2.2.2.1 s5.2.2.2.2.1 s5.2.2.2.2.2.1 s5.2.2.2.2.2.2.1 s5.2.2.2.2.2.2.2)) ((u7 l s5.2.1.toNat)) _ h8) (ac h9 (ac h10 (ac h11 (ac h12 (ac (z6y (s5.1) ((u7 l s5.2.1.toNat).lba) ((u7 l s5.2.1.toNat).n) ((0 : Int)) (s5.2.2.2.1) _ h13).any0 (ac (z2x ((wr ((1 : Int) + (Int.tmod (wr (↑(UInt8.toNat blocks) : Int)) (64 : Int))))) (s8.1.map) _ h14).any0 (ac h15 (ac h15 (ac h15 (ac (z0u (s14.1) (s13.1) _ h16).any0 (ac h15 (ac h15 (ac h17 (ac h9 (ac h9 (ac h9 (ac h9 (ac h18 (ac h18 (ac h18 (ac h9 (ac h18 (ac h9 (ac h19 (ac (z2p (s8.1) ((u7 l s5.2.1.toNat).id) _ h20) (ac h21 (ac h21 (ac h21 (ac h21 (ac h21 (ac (z3n (s20.1.map) (s8.1.map) _ h22).any0 (ac h21 (ac h21 (ac h23 (ac h23 (ac h23 (ac h23 (ac h23 (ac h23 (ac h24 (ac h24 (ac h24 (ac h24 (ac h24 (ac h24 (ac h24 (ac h25 an)))))))))))))))))))))))))))))))))))))))))))))))))))) kq) fun h19 h19p => by intro e; injection e with e; subst e; exact d6 z9 (k := 300) (r := []) (hs := hz [(4, [.yes]), (2, [.yes, .yes, .cells ((Ch.cells (u7 l s5.2.1.toNat)))]), (2, [.fc]), (1, [.fc]), (1, [.fc]), (1, [.fres (.tu [Sa.av (s8.1), .i (s8.2)])]), (5, [.fc]), (5, [.yes]), (5, [.no]), (2, [.no]), (2, [.yes]), (11, [.fres (.tu [ces (s13.1), .i (s13.2)])]), (9, [.fres (.tu [ces (s14.1), .i (s14.2)])]), (8, [.no]), (1, [.no]), (1, [.no]), (1, [.fres (.b (s16)), .no]), (1, [.no, .no]), (3, [.yes]), (1, [.yes]), (2, [.yes]), (1, [.yes]), (1, [.no]), (1, [.no]), (2, [.no]), (1, [.yes, .no, .yes, .no]), (1, [.fc]), (1, [.fc]), (5, [])]) (ks := [0, 1, 5, 6, 26, 7, 9, 10]) (bs := [0]) kq (ac h6 (ac h7 (ac (fq (p := ((6 : Nat) ≤ (List.length (List.drop (s5.2.1.toNat * 6) (l.flatMap Ch.cells)))))) (ac (show (List.take 6 (List.drop (s5.2.1.toNat * 6) (l.flatMap Ch.cells))) = (Ch.cells (u7 l s5.2.1.toNat)) from (z0w bq bq)) (ac (z3p ((Sa.mk s5.2.2.1 s5.2.2.2.1 s5.2.2.2.2.1 s5.2.2.2.2.2.1 s5.2.2.2.2.2.2.1 s5.2.2.2.2.2.2.2)) ((u7 l s5.2.1.toNat)) _ h8) (ac h9 (ac h10 (ac h11 (ac h12 (ac (z6y (s5.1) ((u7 l s5.2.1.toNat).lba) ((u7 l s5.2.1.toNat).n) ((0 : Int)) (s5.2.2.2.1) _ h13).any0 (ac (z2x ((wr ((1 : Int) + (Int.tmod (wr (↑(UInt8.toNat blocks) : Int)) (64 : Int))))) (s8.1.map) _ h14).any0 (ac h15 (ac h15 (ac h15 (ac (z0u (s14.1) (s13.1) _ h16).any0 (ac h15 (ac h15 (ac h17 (ac h9 (ac h9 (ac h9 (ac h9 (ac h18 (ac h18 (ac h18 (ac h9 (ac h18 (ac h9 (ac h19 an))))))))))))))))))))))))))))) kq) fun h12 h12p => tbE (fun h13 h13p => x5 fun s14 h14 => x5 fun s15 h15 => tbN (fun h16 h16p => w6) fun h16 h16p => x5 fun s17 h17 => u0 (fun h18 => w6) fun h18 => tbE (fun h19 h19p => x5 fun s20 h20 => tbN (fun h21 h21p => w6) fun h21 h21p => x5 fun s22 h22 => u0 (fun h23 => w6) fun h23 => tbN (fun h24 h24p => w6) fun h24 h24p => tbN (fun h25 h25p => w6) fun h25 h25p => by intro e; injection e with e; subst e; exact d6 z9 (k := 300) (r := []) (hs := hz [(4, [.yes]), (2, [.yes, .yes, .cells ((Ch.cells (u7 l s5.2.1.toNat)))]), (2, [.fc]), (1, [.fc]), (1, [.fc]), (1, [.fres (.tu [Sa.av (s8.1), .i (s8.2)])]), (5, [.fc]), (5, [.yes]), (5, [.no]), (2, [.no]), (2, [.no]), (2, [.yes]), (5, [.fres (.tu [ces (s14.1), .i (s14.2)])]), (9, [.fres (.tu [ces (s15.1), .i (s15.2)])]), (8, [.no]), (1, [.no]), (1, [.no]), (1, [.fres (.b (s17)), .no]), (1, [.no, .no]), (3, [.yes]), (1, [.yes]), (2, [.yes]), (1, [.yes]), (1, [.yes, .yes, .yes, .yes, .yes, .yes]), (2, [.fc]), (4, [.fres (.tu [Po.av (s20.1), .i (s20.2)])]), (5, [.fc]), (4, [.no]), (1, [.no]), (2, [.no]), (1, [.no]), (2, [.no]), (1, [.fres (.b (s22)), .no]), (1, [.no]), (1, [.no]), (1, [.no]), (2, [.no]), (1, [.no]), (2, [.no]), (1, [.no]), (1, [.no]), (1, [.no]), (2, [.no]), (1, [.no]), (2, [.no]), (1, [.no]), (1, [.no, .no]), (1, [.fc]), (1, [.fc]), (5, [])]) (ks := [0, 1, 5, 6, 26, 7, 9, 10]) (bs := [0]) kq (ac h6 (ac h7 (ac (fq (p := ((6 : Nat) ≤ (List.length (List.drop (s5.2.1.toNat * 6) (l.flatMap Ch.cells)))))) (ac (show (List.take 6 (List.drop (s5.2.1.toNat * 6) (l.flatMap Ch.cells))) = (Ch.cells (u7 l s5.2.1.toNat)) from (z0w bq bq)) (ac (z3p ((Sa.mk s5.2.2.1 s5.2.2.2.1 s5.2.2.2.2.1 s5.2.2.2.2.2.1 s5.2.2.2.2.2.2.1 s5.2.2.2.2.2.2.2)) ((u7 l s5.2.1.toNat)) _ h8) (ac h9 (ac h10 (ac h11 (ac h12 (ac h13 (ac (z2x ((wr ((1 : Int) + (Int.tmod (wr (↑(UInt8.toNat blocks) : Int)) (64 : Int))))) (s8.1.map) _ h14).any0 (ac (z2x ((wr ((1 : Int) + (Int.tmod (wr (↑(UInt8.toNat blocks) : Int)) (64 : Int))))) (s8.1.map) _ h15).any0 (ac h16 (ac h16 (ac h16 (ac (z0u (s15.1) (s14.1) _ h17).any0 (ac h16 (ac h16 (ac h18 (ac h9 (ac h9 (ac h9 (ac h9 (ac h19 (ac h19 (ac h19 (ac h9 (ac h19 (ac h9 (ac (z2p (s8.1) ((u7 l s5.2.1.toNat).id) _ h20) (ac h21 (ac h21 (ac h21 (ac h21 (ac h21 (ac (z3n (s20.1.map) (s8.1.map) _ h22).any0 (ac h21 (ac h21 (ac h23 (ac h23 (ac h23 (ac h23 (ac h23 (ac h23 (ac h24 (ac h24 (ac h24 (ac h24 (ac h24 (ac h24 (ac h24 (ac h25 an)))))))))))))))))))))))))))))))))))))))))))))))))))) kq) fun h19 h19p => x5 fun s20 h20 => tbN (fun h21 h21p => w6) fun h21 h21p => x5 fun s22 h22 => u0 (fun h23 => w6) fun h23 => tbN (fun h24 h24p => w6) fun h24 h24p => tbN (fun h25 h25p => w6) fun h25 h25p => by intro e; injection e with e; subst e; exact d6 z9 (k := 300) (r := []) (hs := hz [(4, [.yes]), (2, [.yes, .yes, .cells ((Ch.cells (u7 l s5.2.1.toNat)))]), (2, [.fc]), (1, [.fc]), (1, [.fc]), (1, [.fres (.tu [Sa.av (s8.1), .i (s8.2)])]), (5, [.fc]), (5, [.yes]), (5, [.no]), (2, [.no]), (2, [.no]), (2, [.yes]), (5, [.fres (.tu [ces (s14.1), .i (s14.2)])]), (9, [.fres (.tu [ces (s15.1), .i (s15.2)])]), (8, [.no]), (1, [.no]), (1, [.no]), (1, [.fres (.b (s17)), .no]), (1, [.no, .no]), (3, [.yes]), (1, [.yes]), (2, [.yes]), (1, [.yes]), (1, [.no]), (1, [.no]), (2, [.no]), (1, [.yes, .no, .yes, .yes]), (1, [.fc]), (4, [.fres (.tu [Po.av (s20.1), .i (s20.2)])]), (5, [.fc]), (4, [.no]), (1, [.no]), (2, [.no]), (1, [.no]), (2, [.no]), (1, [.fres (.b (s22)), .no]), (1, [.no]), (1, [.no]), (1, [.no]), (2, [.no]), (1, [.no]), (2, [.no]), (1, [.no]), (1, [.no]), (1, [.no]), (2, [.no]), (1, [.no]), (2, [.no]), (1, [.no]), (1, [.no, .no]), (1, [.fc]), (1, [.fc]), (5, [])]) (ks := [0, 1, 5, 6, 26, 7, 9, 10]) (bs := [0]) kq (ac h6 (ac h7 (ac (fq (p := ((6 : Nat) ≤ (List.length (List.drop (s5.2.1.toNat * 6) (l.flatMap Ch.cells)))))) (ac (show (List.take 6 (List.drop (s5.2.1.toNat * 6) (l.flatMap Ch.cells))) = (Ch.cells (u7 l s5.2.1.toNat)) from (z0w bq bq)) (ac (z3p ((Sa.mk s5.2.2.1 s5.2.2.2.1 s5.2.2.2.2.1 s5.2.2.2.2.2.1 s5.2.2.2.2.2.2.1 s5.2.2.2.2.2.2.2)) ((u7 l s5.2.1.toNat)) _ h8) (ac h9 (ac h10 (ac h11 (ac h12 (ac h13 (ac (z2x ((wr ((1 : Int) + (Int.tmod (wr (↑(UInt8.toNat blocks) : Int)) (64 : Int))))) (s8.1.map) _ h14).any0 (ac (z2x ((wr ((1 : Int) + (Int.tmod (wr (↑(UInt8.toNat blocks) : Int)) (64 : Int))))) (s8.1.map) _ h15).any0 (ac h16 (ac h16 (ac h16 (ac (z0u (s15.1) (s14.1) _ h17).any0 (ac h16 (ac h16 (ac h18 (ac h9 (ac h9 (ac h9 (ac h9 (ac h19 (ac h19 (ac h19 (ac h9 (ac h19 (ac h9 (ac h13 (ac (z2p (s8.1) ((u7 l s5.2.1.toNat).id) _ h20) (ac h21 (ac h21 (ac h21 (ac h21 (ac h21 (ac (z3n (s20.1.map) (s8.1.map) _ h22).any0 (ac h21 (ac h21 (ac h23 (ac h23 (ac h23 (ac h23 (ac h23 (ac h23 (ac h24 (ac h24 (ac h24 (ac h24 (ac h24 (ac h24 (ac h24 (ac h25 an))))))))))))))))))))))))))))))))))))))))))))))))))))) kq) fun h13 h13p => x5 fun s14 h14 => tbN (fun h15 h15p => w6) fun h15 h15p => x5 fun s16 h16 => u0 (fun h17 => w6) fun h17 => tbE (fun h18 h18p => x5 fun s19 h19 => tbN (fun h20 h20p => w6) fun h20 h20p => x5 fun s21 h21 => u0 (fun h22 => w6) fun h22 => tbN (fun h23 h23p => w6) fun h23 h23p => tbN (fun h24 h24p => w6) fun h24 h24p => by intro e; injection e with e; subst e; exact d6 z9 (k := 300) (r := []) (hs := hz [(4, [.yes]), (2, [.yes, .yes, .cells ((Ch.cells (u7 l s5.2.1.toNat)))]), (2, [.fc]), (1, [.fc]), (1, [.fc]), (1, [.fres (.tu [Sa.av (s8.1), .i (s8.2)])]), (5, [.fc]), (5, [.yes]), (5, [.no]), (2, [.no]), (2, [.no]), (2, [.no]), (5, [.fres (.tu [ces (s14.1), .i (s14.2)])]), (8, [.no]), (1, [.no]), (1, [.no]), (1, [.fres (.b (s16)), .no]), (1, [.no, .no]), (3, [.yes]), (1, [.yes]), (2, [.yes]), (1, [.yes]), (1, [.yes, .yes, .yes, .yes, .yes, .yes]), (2, [.fc]), (4, [.fres (.tu [Po.av (s19.1), .i (s19.2)])]), (5, [.fc]), (4, [.no]), (1, [.no]), (2, [.no]), (1, [.no]), (2, [.no]), (1, [.fres (.b (s21)), .no]), (1, [.no]), (1, [.no]), (1, [.no]), (2, [.no]), (1, [.no]), (2, [.no]), (1, [.no]), (1, [.no]), (1, [.no]), (2, [.no]), (1, [.no]), (2, [.no]), (1, [.no]), (1, [.no, .no]), (1, [.fc]), (1, [.fc]), (5, [])]) (ks := [0, 1, 5, 6, 26, 7, 9, 10]) (bs := [0]) kq (ac h6 (ac h7 (ac (fq (p := ((6 : Nat) ≤ (List.length (List.drop (s5.2.1.toNat * 6) (l.flatMap Ch.cells)))))) (ac (show (List.take 6 (List.drop (s5.2.1.toNat * 6) (l.flatMap Ch.cells))) = (Ch.cells (u7 l s5.2.1.toNat)) from (z0w bq bq)) (ac (z3p ((Sa.mk s5.2.2.1 s5.2.2.2.1 s5.2.2.2.2.1 s5.2.2.2.2.2.1 s5.2.2.2.2.2.2.1 s5.2.2.2.2.2.2.2)) ((u7 l s5.2.1.toNat)) _ h8) (ac h9 (ac h10 (ac h11 (ac h12 (ac h13 (ac (z2x ((wr ((1 : Int) + (Int.tmod (wr (↑(UInt8.toNat blocks) : Int)) (64 : Int))))) (s8.1.map) _ h14).any0 (ac h15 (ac h15 (ac h15 (ac (z0u (s14.1) (s5.1) _ h16).any0 (ac h15 (ac h15 (ac h17 (ac h9 (ac h9 (ac h9 (ac h9 (ac h18 (ac h18 (ac h18 (ac h9 (ac h18 (ac h9 (ac (z2p (s8.1) ((u7 l s5.2.1.toNat).id) _ h19) (ac h20 (ac h20 (ac h20 (ac h20 (ac h20 (ac (z3n (s19.1.map) (s8.1.map) _ h21).any0 (ac h20 (ac h20 (ac h22 (ac h22 (ac h22 (ac h22 (ac h22 (ac h22 (ac h23 (ac h23 (ac h23 (ac h23 (ac h23 (ac h23 (ac h23 (ac h24 an))))))))))))))))))))))))))))))))))))))))))))))))))) kq) fun h18 h18p => by intro e; injection e with e; subst e; exact d6 z9 (k := 300) (r := []) (hs := hz [(4, [.yes]), (2, [.yes, .yes, .cells ((Ch.cells (u7 l s5.2.1.toNat)))]), (2, [.fc]), (1, [.fc]), (1, [.fc]), (1, [.fres (.tu [Sa.av (s8.1), .i (s8.2)])]), (5, [.fc]), (5, [.yes]), (5, [.no]), (2, [.no]), (2, [.no]), (2, [.no]), (5, [.fres (.tu [ces (s14.1), .i (s14.2)])]), (8, [.no]), (1, [.no]), (1, [.no]), (1, [.fres (.b (s16)), .no]), (1, [.no, .no]), (3, [.yes]), (1, [.yes]), (2, [.yes]), (1, [.yes]), (1, [.no]), (1, [.no]), (2, [.no]), (1, [.yes, .no, .yes, .no]), (1, [.fc]), (1, [.fc]), (5, [])]) (ks := [0, 1, 5, 6, 26, 7, 9, 10]) (bs := [0]) kq (ac h6 (ac h7 (ac (fq (p := ((6 : Nat) ≤ (List.length (List.drop (s5.2.1.toNat * 6) (l.flatMap Ch.cells)))))) (ac (show (List.take 6 (List.drop (s5.2.1.toNat * 6) (l.flatMap Ch.cells))) = (Ch.cells (u7 l s5.2.1.toNat)) from (z0w bq bq)) (ac (z3p ((Sa.mk s5.2.2.1 s5.2.2.2.1 s5.2.2.2.2.1 s5.2.2.2.2.2.1 s5.2.2.2.2.2.2.1 s5.2.2.2.2.2.2.2)) ((u7 l s5.2.1.toNat)) _ h8) (ac h9 (ac h10 (ac h11 (ac h12 (ac h13 (ac (z2x ((wr ((1 : Int) + (Int.tmod (wr (↑(UInt8.toNat blocks) : Int)) (64 : Int))))) (s8.1.map) _ h14).any0 (ac h15 (ac h15 (ac h15 (ac (z0u (s14.1) (s5.1) _ h16).any0 (ac h15 (ac h15 (ac h17 (ac h9 (ac h9 (ac h9 (ac h9 (ac h18 (ac h18 (ac h18 (ac h9 (ac h18 (ac h9 (ac h13 an))))))))))))))))))))))))))))) kq) fun h9 h9p => x5 fun s10 h10 => tbN (fun h11 h11p => w6) fun h11 h11p => x5 fun s12 h12 => u0 (fun h13 => w6) fun h13 => by intro e; injection e with e; subst e; exact d6 z9 (k := 300) (r := []) (hs := hz [(4, [.yes]), (2, [.yes, .yes, .cells ((Ch.cells (u7 l s5.2.1.toNat)))]), (2, [.fc]), (1, [.fc]), (1, [.fc]), (1, [.fres (.tu [Sa.av (s8.1), .i (s8.2)])]), (5, [.fc]), (5, [.no]), (5, [.fres (.tu [ces (s10.1), .i (s10.2)])]), (8, [.no]), (1, [.no]), (1, [.no]), (1, [.fres (.b (s12)), .no]), (1, [.no, .no]), (3, [.no, .no, .no, .no, .no, .no]), (2, [.fc]), (1, [.fc]), (5, [])]) (ks := [0, 1, 5, 6, 26, 7, 9, 10]) (bs := [0]) kq (ac h6 (ac h7 (ac (fq (p := ((6 : Nat) ≤ (List.length (List.drop (s5.2.1.toNat * 6) (l.flatMap Ch.cells)))))) (ac (show (List.take 6 (List.drop (s5.2.1.toNat * 6) (l.flatMap Ch.cells))) = (Ch.cells (u7 l s5.2.1.toNat)) from (z0w bq bq)) (ac (z3p ((Sa.mk s5.2.2.1 s5.2.2.2.1 s5.2.2.2.2.1 s5.2.2.2.2.2.1 s5.2.2.2.2.2.2.1 s5.2.2.2.2.2.2.2)) ((u7 l s5.2.1.toNat)) _ h8) (ac h9 (ac (z2x ((wr ((1 : Int) + (Int.tmod (wr (↑(UInt8.toNat blocks) : Int)) (64 : Int))))) (s8.1.map) _ h10).any0 (ac h11 (ac h11 (ac h11 (ac (z0u (s10.1) (s5.1) _ h12).any0 (ac h11 (ac h11 (ac h13 (ac h9 (ac h9 (ac h9 (ac h9 (ac h9 (ac h9 an)))))))))))))))))))) kq) fun h6 h6p => w6
noncomputable def z62 (blocks : UInt8) (l : List Ch) : Option (Bool) :=
 (tc (aw11) fun s0 => (tc (changes (l)) fun s1 => (tb ((!s1)) (some (s0)) (tc (zs7 ((wr ((1 : Int) + (Int.tmod (wr (↑(UInt8.toNat blocks) : Int)) (64 : Int)))))) fun s3 => (tp ((((wr ((1 : Int) + (Int.tmod (wr (↑(UInt8.toNat blocks) : Int)) (64 : Int)))) = (wr ((1 : Int) + (Int.tmod (wr (↑(UInt8.toNat blocks) : Int)) (64 : Int))))) ∧ (((0 : Int) ≤ (wr ((1 : Int) + (Int.tmod (wr (↑(UInt8.toNat blocks) : Int)) (64 : Int))))) ∧ ((wr ((1 : Int) + (Int.tmod (wr (↑(UInt8.toNat blocks) : Int)) (64 : Int)))) ≤ (4294967296 : Int))))) (th (z06 blocks l s0 s1 s3) (((List.replicate (Int.toNat (wr ((1 : Int) + (Int.tmod (wr (↑(UInt8.toNat blocks) : Int)) (64 : Int))))) (Ce.mk 0 0 (List.replicate (32 : Nat) (UInt8.ofNat (0 : Nat))))), ((0 : Int), (s3.1.blocks, (s3.1.gen, (s3.1.map, (s3.1.points, (s3.1.last, s3.1.staged)))))))) fun s5 => (tb ((decide (s5.2.1 < (l.length : Int)))) none (some (s0)))))))))
abbrev zfo (blocks : UInt8) (l : List Ch) (r : Bool) : Prop := z08 Try.prog cf false 10 [.y (blocks), chs (l)] (.b (r))
theorem zd8 (blocks : UInt8) (l : List Ch) (r : Bool) : z62 blocks l = some r → zfo blocks l r := by
  unfold z62
  exact x5 fun s0 h0 => x5 fun s1 h1 => u0 (fun h2 => by intro e; injection e with e; subst e; exact x0 z9 (k := 300) (r := []) (hs := hz [(2, [.fres (.b (s0))]), (7, [.fres (.b (s1))]), (1, [.yes]), (2, [])]) (raw := (AV.b s0)) kq (ac (zoy  _ h0).any0 (ac (ze5 (l) _ h1).any0 (ac h2 an))) tq) fun h2 => x5 fun s3 h3 => x8 fun h4 => z12 fun s5 h5 => tbD (fun h6 h6p => w6) fun h6 h6p => by intro e; injection e with e; subst e; exact x0 z9 (k := 300) (r := []) (hs := hz [(2, [.fres (.b (s0))]), (7, [.fres (.b (s1))]), (1, [.no]), (2, [.fres (.tu [Sa.av (s3.1), .i (s3.2)])]), (5, [.fc]), (2, [.yes]), (2, [.head (z2r blocks l s0 s1 s3 s5)]), (4, [.no]), (2, [])]) (raw := (AV.b s0)) kq (ac (zoy  _ h0).any0 (ac (ze5 (l) _ h1).any0 (ac h2 (ac (zul ((wr ((1 : Int) + (Int.tmod (wr (↑(UInt8.toNat blocks) : Int)) (64 : Int))))) _ h3) (ac h4 (ac (show x6 Try.prog cf (lp Try.prog 10 0) (zaw blocks l s0 s1 s3) (z2r blocks l s0 s1 s3 s5) from (x6.of (zad blocks l s0 s1 s3) (x3 [] [1] kq (.consn kq (.eqv tq rfl) (.consn kq (.eqv tq rfl) (.consn kq (.eqv tq rfl) (.consn kq (.eqv tq rfl) (.consn kq (.eqv tq rfl) (.consn kq (.pt rfl) (.consn (x := (AV.rf 1 34 0 (Int.toNat (wr ((1 : Int) + (Int.tmod (wr (↑(UInt8.toNat blocks) : Int)) (64 : Int))))))) kq (.frzn rfl tq (zuv _ ⟨0, 0, List.replicate 32 0⟩ rfl) (by simp) (zvf _ ⟨0, 0, List.replicate 32 0⟩ rfl)) (.consn kq (.eqv tq rfl) .nil)))))))) (.cons (.old rfl rfl (.cells (.cons (.eqv tq rfl) (.cons (.eqv tq rfl) (.cons (.eqv tq rfl) (.cons (.eqv tq rfl) (.cons (.eqv tq rfl) (.cons (.eqv tq rfl) .nil)))))))) .nil)) h5)) (ac h6 an))))))) tq
end Ab
end Go.Proofs.Ytimcbhhebnikiaa
namespace Go.Proofs.Ytimcbhhebnikiaa
open Go Go.Proofs.Ytimcbhhebnikiaa.Ab
set_option linter.unusedVariables false
set_option linter.unusedSimpArgs false
namespace Ab
theorem zh0 {b : Int} {m : List Ex} (h : Mk b m) {x : Ex} (hx : z3v b x) : z00 (put m x) = z9n (z00 m) x.lba.toNat (fun i => cb (bAt x (x.lba + i))) x.len.toNat := by
  obtain ⟨p1, p2⟩ := z6w h hx.1 hx.2
  have px := z0c hx.1
  have hfit := hx.2
  have l1 := (z43 p1).2.1
  have l2 := (z43 h).2.1
  have hn : x.lba.toNat + x.len.toNat ≤ (z00 m).length := by omega
  refine List.ext_getElem? fun j => ?_
  rw [za5 _ _ _ _ hn]
  by_cases hj : (j : Int) < b
  · obtain ⟨y, hy, _, q1, q2, q3, q4⟩ := zru p1 (i := j) hj
    rw [q4]
    rcases (p2 _ _).1 q3 with ⟨g, hd⟩ | ⟨g1, g2, e⟩
    · rw [if_neg (by omega)]
      have := z9m (z6i h) hd
      rw [Int.sub_zero, Int.toNat_natCast] at this
      rw [this]
    · rw [if_pos (by omega), e]
      congr 3
      omega
  · rw [if_neg (by omega), List.getElem?_eq_none (by omega), List.getElem?_eq_none (by omega)]
theorem zei {l : List Ce} {s : Nat} {f g : Nat → Ce} {n : Nat} (hn : s + n ≤ l.length) (h : ∀ i, i < n → f i = g i) : z9n l s f n = z9n l s g n := by
  refine List.ext_getElem? fun j => ?_
  rw [za5 _ _ _ _ hn, za5 _ _ _ _ hn]
  split
  · rw [h _ (by omega)]
  · rfl
theorem zpv {b : Int} {m : List Ex} (h : Mk b m) {lba n gen : Int} {d : List UInt8} (hx : z3v b ⟨lba, n, 2, gen, d⟩) : zih (z00 m) lba gen d = (z00 (put m ⟨lba, n, 2, gen, d⟩), 0) := by
  obtain ⟨c1, c2, c3⟩ := z43 h
  have hck := hx.1
  have hd := zbu hck rfl
  have px := z0c hck
  have hfit := hx.2
  have hc := hck
  unfold Ck at hc
  simp only at hd px hfit hc
  have e1 : d.length / 32 = n.toNat := by omega
  unfold zih
  rw [if_pos c1, if_pos ⟨by unfold zq0; omega, by omega, by omega⟩, zh0 h hx, e1]
  refine congrArg (fun q => (q, (0 : Int))) (zei (by omega) fun i hi => ?_)
  simp only [wrF, cb, bAt]
  rw [zjh]
  congr 3
  omega
theorem ziy {b : Int} {m : List Ex} (h : Mk b m) {lba n kind gen : Int} (hk : 0 ≤ kind ∧ kind ≤ 1) (hx : z3v b ⟨lba, n, kind, gen, []⟩) : zok (z00 m) lba n kind gen = (z00 (put m ⟨lba, n, kind, gen, []⟩), 0) := by
  obtain ⟨c1, c2, c3⟩ := z43 h
  have hck := hx.1
  have px := z0c hck
  have hfit := hx.2
  have hc := hck
  unfold Ck at hc
  simp only at px hfit hc
  unfold zok
  rw [if_pos c1, if_pos ⟨by unfold zq0; omega, hk, by omega⟩, zh0 h hx]
  refine congrArg (fun q => (q, (0 : Int))) (zei (by omega) fun i hi => ?_)
  simp only [zmu, cb, bAt, List.drop_nil, List.take_nil, zim]
  rfl
theorem zvy {s : Sa} (h : SOk s) : ofS s.blocks s.map = (z00 s.map, 0) := by unfold ofS; rw [if_pos h.1.1]
theorem zsi {s : Sa} (h : SOk s) : Cn (z00 s.map) := (z43 h.1.1).2.2
theorem zdg {s : Sa} (h : SOk s) : (z00 s.map).length ≤ 64 := by
  have := (z43 h.1.1).2.1
  have := z6m h.1.1
  omega
theorem ziu {s : Sa} {o : List Ex} (h : (lyS s o).2 = 0) : (lyS s o).1.map = (o.map (gn s.gen)).foldl put s.map ∧ (∀ x ∈ o.map (gn s.gen), z3v s.blocks x) ∧ (lyS s o).1.gen = s.gen ∧ (lyS s o).1.points = s.points ∧ (lyS s o).1.last = s.last := by
  unfold lyS at h ⊢
  split at h
  · rename_i h0
    rw [if_pos h0]
    obtain ⟨_, _, q2, q3⟩ := zhk h0
    exact ⟨q3, q2, rfl, rfl, rfl⟩
  · rename_i h0; exact absurd h h0
theorem zrv {s : Sa} {id : Int} (h : SOk s) (h1 : ¬ id ≤ s.last) {d : List UInt8} (hok : SOk ⟨s.blocks, s.gen + 1, s.map, s.points ++ [⟨id, s.gen, s.map⟩], id, d⟩) : pnt ⟨s.blocks, s.gen + 1, s.map, s.points ++ [⟨id, s.gen, s.map⟩], id, d⟩ id = (⟨id, s.gen, s.map⟩, 0) := by
  unfold pnt
  rw [if_pos hok]
  have hn : s.points.find? (fun p => p.id == id) = none := by
    rw [List.find?_eq_none]
    refine (z7y s.points fun p => ¬ (p.id == id) = true).1 fun i hi => ?_
    have := id_ok h hi
    simp only [beq_iff_eq]
    omega
  have : fd (s.points ++ [⟨id, s.gen, s.map⟩]) id = some ⟨id, s.gen, s.map⟩ := by
    unfold fd
    rw [List.find?_append, hn]
    simp
  rw [this]
  rfl
theorem zwe {s : Sa} {c : Ch} (h : SOk s) (he : (doS s c).2 ≠ 0) : (doS s c).1 = s := by
  by_cases hc : CkH c
  case neg => rw [zkf h hc]
  rw [zjk h hc] at he ⊢
  have hl : ∀ o, (lyS s o).2 ≠ 0 → (lyS s o).1 = s := fun o g => by
    unfold lyS at g ⊢
    split
    · rename_i h0; rw [if_pos h0] at g; exact absurd rfl g
    · rfl
  have hm : ∀ id, (mkS s id).2 ≠ 0 → (mkS s id).1 = s := fun id g => by
    unfold mkS at g ⊢
    split
    · rfl
    split
    · rfl
    split
    · rfl
    · rename_i h1 h2 h3
      rw [if_neg h1, if_neg h2, if_neg h3] at g
      exact absurd rfl g
  unfold doK at he ⊢
  split
  · rename_i k; rw [if_pos k] at he; exact hl _ he
  rename_i k1; rw [if_neg k1] at he
  split
  · rename_i k; rw [if_pos k] at he; exact hl _ he
  rename_i k2; rw [if_neg k2] at he
  split
  · rename_i k; rw [if_pos k] at he; exact hl _ he
  rename_i k3; rw [if_neg k3] at he
  split
  · rename_i k; rw [if_pos k] at he; exact hm _ he
  rename_i k4; rw [if_neg k4] at he
  split
  · rename_i k
    rw [if_pos k] at he
    unfold drS at he ⊢
    split
    · rename_i q; rw [if_pos q] at he; exact absurd rfl he
    · rfl
  rename_i k5; rw [if_neg k5] at he
  split
  · rename_i k
    rw [if_pos k] at he
    unfold stS at he ⊢
    split
    · rfl
    · rename_i q; rw [if_neg q] at he; exact absurd rfl he
  rename_i k6; rw [if_neg k6] at he
  split
  · rename_i k; rw [if_pos k] at he; exact absurd rfl he
  rename_i k7; rw [if_neg k7] at he
  unfold apS at he ⊢
  split
  · rename_i q
    rw [if_pos q] at he
    split
    · rename_i q2; rw [if_pos q2] at he; exact absurd rfl he
    · rfl
  · rfl
theorem zdq {β : Type} {t : Sa} (h : SOk t) (K : Option β) : (tc (iOf t.blocks t.map) fun x => tb (x.2 != 0) none (tc (z4z x.1 (z00 t.map)) fun q => tb (!q) none K)) = K := by
  rw [zqr _ _ (by have := z6b h.1.1; omega), x9, zvy h]
  dsimp only
  rw [zgu (by have := zdg h; omega) (zsi h) (zsi h), x9, decide_eq_true rfl]
  rfl
theorem zrt {β : Type} {t : Sa} (h : SOk t) {id g : Int} (hp : pnt t id = (⟨id, g, t.map⟩, 0)) (hg : t.gen = g + 1) (hg2 : g ≤ 2147483647) (hg1 : 0 ≤ g) (K : Option β) : (tc (z3l t id) fun p => tb (p.2 != 0) none (tc (z5w p.1.map t.map) fun q => tb (!q) none (tb (p.1.gen != g) none (tb (t.gen != wr (g + 1)) none K)))) = K := by
  rw [zp6 (zsc h), x9, hp]
  dsimp only
  rw [zrm _ _ (by have := z6b h.1.1; omega), x9, decide_eq_true rfl, j9 (x := g + 1) (by omega) (by omega), hg]
  simp only [bne_self_eq_false, z9a, Bool.not_true]
abbrev tp8 (i : Int) (s : Sa) : List Ce × Int × Int × Int × List Ex × List Po × Int × List UInt8 := (z00 s.map, (i, (s.blocks, (s.gen, (s.map, (s.points, (s.last, s.staged)))))))
theorem zso (blocks : UInt8) (l : List Ch) (s0 s1 : Bool) (s3 : Sa × Int) {b : Int} (hB : wr (1 + (Int.tmod (wr (blocks.toNat : Int)) 64)) = b) {i : Nat} (hi : i < l.length) (hl : l.length ≤ 1000) {s : Sa} (hs : SOk s) (hb : s.blocks = b) (hc : Hz (u7 l i)) : z06 blocks l s0 s1 s3 (tp8 (i : Int) s) = some (tp8 ((i : Int) + 1) (doS s (u7 l i)).1) := by
  unfold z06
  simp only [tp8, w9, Int.toNat_natCast, hB]
  have hdo := zxx (zsc hs) hc
  have ht := zqs hs (u7 l i)
  have htb := zfk hs (u7 l i)
  rw [if_pos (by omega), x4 (by omega), hdo, x9, z2w, j9 (x := (i : Int) + 1) (by omega) (by omega)]
  rw [← hb, ← htb]
  have hgen := hs.2.1
  have hgen2 := hs.2.2.1
  by_cases he : (doS s (u7 l i)).2 = 0
  case neg =>
    rw [if_neg he, zwe hs he]
    exact zdq hs _
  rw [if_pos he]
  have hck : CkH (u7 l i) := Classical.byContradiction fun hn => by rw [zkf hs hn] at he; exact absurd he (by simp)
  rw [zjk hs hck] at he ht htb ⊢
  generalize u7 l i = c at *
  have kk := z9w hck
  have hw : (z00 s.map).length ≤ 4294967296 := by have := zdg hs; omega
  simp only [z2w]
  by_cases k1 : c.kind = 1
  · have hk : doK s c = lyS s [⟨c.lba, c.n, 2, 0, c.d⟩] := by unfold doK; rw [if_pos k1]
    rw [hk] at he ht htb ⊢
    obtain ⟨e1, e2, e3, e4, e5⟩ := ziu he
    have hfit : z3v s.blocks ⟨c.lba, c.n, 2, s.gen, c.d⟩ := e2 _ (by simp [gn])
    have e1' : (lyS s [⟨c.lba, c.n, 2, 0, c.d⟩]).1.map = put s.map ⟨c.lba, c.n, 2, s.gen, c.d⟩ := e1
    rw [if_pos k1, zqg _ _ _ _ hw (by have := hc.1; omega), x9, zpv hs.1.1 hfit]
    dsimp only
    rw [← e1']
    rw [zdq ht, if_neg (by omega), if_neg (by omega)]
  rw [if_neg k1]
  by_cases k2 : c.kind = 2
  · have hk : doK s c = lyS s [⟨c.lba, c.n, 1, 0, []⟩] := by unfold doK; rw [if_neg k1, if_pos k2]
    rw [hk] at he ht htb ⊢
    obtain ⟨e1, e2, e3, e4, e5⟩ := ziu he
    have hfit : z3v s.blocks ⟨c.lba, c.n, 1, s.gen, []⟩ := e2 _ (by simp [gn])
    have e1' : (lyS s [⟨c.lba, c.n, 1, 0, []⟩]).1.map = put s.map ⟨c.lba, c.n, 1, s.gen, []⟩ := e1
    rw [if_pos k2, zjr _ _ _ _ _ hw, x9, ziy hs.1.1 (by omega) hfit]
    dsimp only
    rw [← e1']
    rw [zdq ht, if_neg (by omega), if_neg (by omega)]
  rw [if_neg k2]
  by_cases k3 : c.kind = 3
  · have hk : doK s c = lyS s [⟨c.lba, c.n, 0, 0, []⟩] := by unfold doK; rw [if_neg k1, if_neg k2, if_pos k3]
    rw [hk] at he ht htb ⊢
    obtain ⟨e1, e2, e3, e4, e5⟩ := ziu he
    have hfit : z3v s.blocks ⟨c.lba, c.n, 0, s.gen, []⟩ := e2 _ (by simp [gn])
    have e1' : (lyS s [⟨c.lba, c.n, 0, 0, []⟩]).1.map = put s.map ⟨c.lba, c.n, 0, s.gen, []⟩ := e1
    rw [if_pos k3, zjr _ _ _ _ _ hw, x9, ziy hs.1.1 (by omega) hfit]
    dsimp only
    rw [← e1']
    rw [zdq ht, if_neg (by omega), if_neg (by omega)]
  rw [if_neg k3]
  by_cases k8 : c.kind = 8
  · have hk : doK s c = apS s c := by unfold doK; rw [if_neg k1, if_neg k2, if_neg k3, if_neg (by omega), if_neg (by omega), if_neg (by omega), if_neg (by omega)]
    have hid := ((zo2 k8).1 hck).2.1
    rw [hk] at he ht htb ⊢
    have hly : (lyS s c.list).2 = 0 := by
      unfold apS at he
      split at he
      · assumption
      · rename_i q; exact absurd he q
    obtain ⟨e1, e2, e3, e4, e5⟩ := ziu hly
    have hlok := zj5 hs c.list
    have hmk : (mkS (lyS s c.list).1 c.id).2 = 0 := by
      unfold apS at he
      rw [if_pos hly] at he
      split at he
      · assumption
      · rename_i q; exact absurd he q
    have hap : apS s c = (abS (mkS (lyS s c.list).1 c.id).1, 0) := by unfold apS; rw [if_pos hly, if_pos hmk]
    rw [hap] at ht htb ⊢
    generalize (lyS s c.list).1 = u at *
    have hmk3 : ¬ c.id ≤ u.last ∧ mkS u c.id = (⟨u.blocks, u.gen + 1, u.map, u.points ++ [⟨c.id, u.gen, u.map⟩], c.id, u.staged⟩, 0) := by
      unfold mkS at hmk ⊢
      by_cases q1 : c.id ≤ u.last
      · rw [if_pos q1] at hmk; exact absurd hmk (by simp)
      rw [if_neg q1] at hmk ⊢
      by_cases q2 : u.points.length = 4
      · rw [if_pos q2] at hmk; exact absurd hmk (by simp)
      rw [if_neg q2] at hmk ⊢
      by_cases q3 : u.gen = 2147483647
      · rw [if_pos q3] at hmk; exact absurd hmk (by simp)
      rw [if_neg q3]
      exact ⟨q1, rfl⟩
    obtain ⟨q1, q2⟩ := hmk3
    rw [q2] at ht htb ⊢
    have hpn := zrv hlok q1 (d := []) ht
    have hT : abS (⟨u.blocks, u.gen + 1, u.map, u.points ++ [⟨c.id, u.gen, u.map⟩], c.id, u.staged⟩ : Sa) = ⟨u.blocks, u.gen + 1, u.map, u.points ++ [⟨c.id, u.gen, u.map⟩], c.id, []⟩ := rfl
    dsimp only at ht htb ⊢
    rw [hT] at ht htb ⊢
    rw [if_pos k8, zqr _ _ (by have := z6b ht.1.1; omega), x9, zvy ht]
    dsimp only
    rw [x9]
    dsimp only
    have hcl := zdg ht
    have hcn := zsi ht
    dsimp only at hcl hcn
    rw [zgu (by omega) hcn hcn, x9, decide_eq_true rfl]
    simp only [bne_self_eq_false, z9a, Bool.not_true]
    rw [if_neg (by omega)]
    have pk := zrt (β := List Ce × Int × Int × Int × List Ex × List Po × Int × List UInt8) ht (id := c.id) (g := s.gen) (by rw [hpn, e3]) (by show u.gen + 1 = s.gen + 1; rw [e3]) hgen2 (by omega)
    dsimp only at pk
    rw [pk]
  rw [if_neg k8]
  have hmap : (doK s c).1.map = s.map := by
    unfold doK
    rw [if_neg k1, if_neg k2, if_neg k3]
    split
    · unfold mkS
      split
      · rfl
      split
      · rfl
      split <;> rfl
    split
    · unfold drS; split <;> rfl
    split
    · unfold stS; split <;> rfl
    split
    · rfl
    · omega
  have ik := zdq (β := List Ce × Int × Int × Int × List Ex × List Po × Int × List UInt8) ht
  have e0 : z00 s.map = z00 (doK s c).1.map := by rw [hmap]
  rw [e0, ik]
  by_cases k4 : c.kind = 4
  case neg => rw [if_neg k4]
  rw [if_pos k4]
  have hk : doK s c = mkS s c.id := by unfold doK; rw [if_neg k1, if_neg k2, if_neg k3, if_pos k4]
  rw [hk] at he ht ⊢
  have hmk3 : ¬ c.id ≤ s.last ∧ mkS s c.id = (⟨s.blocks, s.gen + 1, s.map, s.points ++ [⟨c.id, s.gen, s.map⟩], c.id, s.staged⟩, 0) := by
    unfold mkS at he ⊢
    by_cases q1 : c.id ≤ s.last
    · rw [if_pos q1] at he; exact absurd he (by simp)
    rw [if_neg q1] at he ⊢
    by_cases q2 : s.points.length = 4
    · rw [if_pos q2] at he; exact absurd he (by simp)
    rw [if_neg q2] at he ⊢
    by_cases q3 : s.gen = 2147483647
    · rw [if_pos q3] at he; exact absurd he (by simp)
    rw [if_neg q3]
    exact ⟨q1, rfl⟩
  obtain ⟨q1, q2⟩ := hmk3
  rw [q2] at ht ⊢
  have pk := zrt (β := List Ce × Int × Int × Int × List Ex × List Po × Int × List UInt8) ht (id := c.id) (g := s.gen) (zrv hs q1 ht) rfl hgen2 (by omega)
  exact pk _
noncomputable def stt (s : Sa) (l : List Ch) : Nat → Sa
  | 0 => s
  | i + 1 => (doS (stt s l i) (u7 l i)).1
theorem zie {s : Sa} {l : List Ch} (h : SOk s) : ∀ i, SOk (stt s l i) ∧ (stt s l i).blocks = s.blocks
  | 0 => ⟨h, rfl⟩
  | i + 1 => ⟨zqs (zie h i).1 _, (zfk (zie h i).1 _).trans (zie h i).2⟩
theorem img0 {b : Int} (h : 1 ≤ b ∧ b ≤ 64) : List.replicate b.toNat (Ce.mk 0 0 (List.replicate 32 (UInt8.ofNat 0))) = z00 (new b) := by
  have e : z00 (new b) = (List.range b.toNat).map fun k => (⟨0, 0, pad 32 ((eb ⟨0, b, 0, 0, []⟩).drop (32 * k))⟩ : Ce) := by simp [z00, new, xcs]
  rw [e]
  refine List.ext_getElem (by simp) fun i h1 h2 => ?_
  have hz : pad 32 ((eb ⟨0, b, 0, 0, []⟩).drop (32 * i)) = List.replicate 32 0 := by
    simp only [eb]
    rw [if_neg (by decide), List.drop_replicate]
    exact zcn 32 _
  simp [hz]
theorem zav (blocks : UInt8) (l : List Ch) : z62 blocks l = some true := by
  unfold z62
  have ha : aw11 = some true := rfl
  rw [ha, x9, znu, x9, z0y, w9]
  by_cases hl : zqt l
  case neg => rw [if_neg hl]
  have hlen := hl.1
  have hm : blocks.toNat < 256 := blocks.toNat_lt
  have hB0 : wr (1 + (Int.tmod (wr (blocks.toNat : Int)) 64)) = 1 + ((blocks.toNat % 64 : Nat) : Int) := by
    rw [j9 (x := (blocks.toNat : Int)) (by omega) (by omega)]
    have e : Int.tmod (blocks.toNat : Int) 64 = ((blocks.toNat % 64 : Nat) : Int) := rfl
    rw [e, j9 (by omega) (by omega)]
  obtain ⟨b, hb⟩ : ∃ b : Int, b = 1 + ((blocks.toNat % 64 : Nat) : Int) := ⟨_, rfl⟩
  rw [← hb] at hB0
  have hb2 : 1 ≤ b ∧ b ≤ 64 := by omega
  rw [if_pos hl]
  have key := fun s0 sb s3 f => z29 (α := Bool) (step := z06 blocks l s0 sb s3) (f := f) (fun i => tp8 (i : Int) (stt (s1 b) l i)) l.length (fun i hi => by
    have h1 := zie (l := l) (s1_ok hb2) i
    exact zso blocks l s0 sb s3 hB0 hi (by omega) h1.1 h1.2 ((zli l Hz).2 (zu9 hl) i hi)) (by
    unfold z06
    simp only [tp8, w9]
    rw [if_neg (by omega)])
  rw [hB0, zuw, x9, nw_eq hb2, x4 ⟨rfl, by omega, by omega⟩, img0 hb2]
  refine (key _ _ _ _).trans ?_
  simp only [tp8, w9]
  rw [if_neg (by omega)]
theorem stateImage_call (blocks : UInt8) (l : List Ch) (_ : Ln l ∧ ∀ x ∈ l, Ch.ok x) : z08 Try.prog cf false 10 [.y blocks, chs l] (.b true) := zd8 blocks l true (zav blocks l)
end Ab
end Go.Proofs.Ytimcbhhebnikiaa
