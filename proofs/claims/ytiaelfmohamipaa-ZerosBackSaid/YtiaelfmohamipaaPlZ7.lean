/- What zeros are, and back: layouts carry their bytes. -/
import Derived.Test.YtiaelfmohamipaaPlZ5
import Derived.Test.YtiaelfmohamipaaFlBack
import Derived.Test.YtiaelfmohamipaaAbsZ
namespace Go.Proofs.Ytiaelfmohamipaa
open Go Go.Proofs.Ytiaelfmohamipaa.Ab
set_option linter.unusedVariables false
set_option linter.unusedSimpArgs false
namespace Ab
theorem rn_ge1 : ∀ (zs : List Bool) (c : Bool) (n : Int), 1 ≤ n → ∀ x ∈ rn c n zs, 1 ≤ x
  | [], _, n, h, x, hx => by simp only [rn, List.mem_singleton] at hx; omega
  | z :: zs, c, n, h, x, hx => by
    unfold rn at hx
    split at hx
    · exact rn_ge1 zs c (n + 1) (by omega) x hx
    · rcases List.mem_cons.1 hx with e | e
      · omega
      · exact rn_ge1 zs z 1 (by omega) x e
theorem rn_tail1 : ∀ (zs : List Bool) (c : Bool) (n : Int), ∀ x ∈ (rn c n zs).drop 1, 1 ≤ x
  | [], _, n, x, hx => by simp [rn] at hx
  | z :: zs, c, n, x, hx => by
    unfold rn at hx
    split at hx
    · exact rn_tail1 zs c (n + 1) x hx
    · rw [List.drop_one, List.tail_cons] at hx
      exact rn_ge1 zs z 1 (by omega) x hx
def tot : List Int → Int
  | [] => 0
  | x :: l => x + tot l
theorem tot_app : ∀ (a b : List Int), tot (a ++ b) = tot a + tot b
  | [], b => by simp [tot]
  | x :: a, b => by simp only [List.cons_append, tot, tot_app a b]; omega
theorem tot_sm : ∀ (l : List Int), tot l = (sm l).1 + (sm l).2
  | [] => rfl
  | x :: l => by simp only [tot, sm, tot_sm l]; omega
theorem tot_pos : ∀ (l : List Int), (∀ x ∈ l, 0 ≤ x) → 0 ≤ tot l
  | [], _ => by simp [tot]
  | x :: l, h => by
    have h1 := tot_pos l fun y hy => h y (by simp [hy])
    have h2 := h x (by simp)
    simp only [tot]; omega
theorem tot_take_le (l : List Int) (h : ∀ x ∈ l, 0 ≤ x) (i : Nat) : 0 ≤ tot (l.take i) ∧ tot (l.take i) ≤ tot l := by
  have e : tot l = tot (l.take i) + tot (l.drop i) := by rw [← tot_app, List.take_append_drop]
  have h1 := tot_pos (l.take i) fun x hx => h x (List.mem_of_mem_take hx)
  have h2 := tot_pos (l.drop i) fun x hx => h x (List.mem_of_mem_drop hx)
  omega
theorem tot_succ (l : List Int) (i : Nat) (hi : i < l.length) : tot (l.take (i + 1)) = tot (l.take i) + l.getD i 0 := by
  have h2 : l.take (i + 1) = l.take i ++ [l.getD i 0] := take_at _ l i hi
  rw [h2, tot_app]; simp [tot]
theorem tot_runs (zs : List Bool) : tot (Ab.runs zs) = zs.length := by
  rw [tot_sm, sm_runs]; exact cnt_both zs
theorem runs_pos7 (zs : List Bool) : ∀ x ∈ Ab.runs zs, 0 ≤ x := by
  unfold Ab.runs
  split
  · simp
  · exact rn_pos zs false 0 (by omega)
theorem runs_at1 (zs : List Bool) (i : Nat) (h0 : 0 < i) (hi : i < (Ab.runs zs).length) : 1 ≤ (Ab.runs zs).getD i 0 := by
  have hm : (Ab.runs zs).getD i 0 ∈ (Ab.runs zs).drop 1 := by
    rw [List.getD_eq_getElem?_getD, List.getElem?_eq_getElem hi, Option.getD_some]
    have h2 : (Ab.runs zs)[i] = ((Ab.runs zs).drop 1)[i - 1]'(by rw [List.length_drop]; omega) := by
      rw [List.getElem_drop]; congr 1; omega
    rw [h2]
    exact List.getElem_mem _
  revert hm
  generalize (Ab.runs zs).getD i 0 = y
  unfold Ab.runs
  split
  · simp
  · exact rn_tail1 zs false 0 y
theorem runs_lend (zs : List Bool) : (Ab.runs zs).length ≤ zs.length + 1 := by
  unfold Ab.runs
  split
  · simp
  · exact rn_lenb zs false 0
/-- The bytes of an extent. -/
def eb (x : Ex) : List UInt8 := if x.kind = 2 then x.d else List.replicate (32 * x.len).toNat 0
theorem eb_len {x : Ex} (h : Ck x) : ((eb x).length : Int) = 32 * x.len := by
  unfold eb
  unfold Ck at h
  split
  · rename_i hk; exact h.2.2.2.2.2.2.2.2.1 hk
  · rw [List.length_replicate]; omega
theorem eBytes_eq {x : Ex} (h : Ck x) : eBytes x = some (eb x) := by
  unfold eBytes eb
  have hc := h
  unfold Ck at hc
  have w1 : wr (x.len * 32) = 32 * x.len := by rw [wr_id (by omega) (by omega)]; omega
  rw [eCheck_eq, tc_some, ck_t h, w1]
  simp only [Bool.not_true, tb_f]
  rw [tp_pos (by first | exact ⟨rfl, by omega, by omega⟩ | exact ⟨trivial, by omega, by omega⟩)]
  by_cases hk : x.kind = 2
  · have hl := hc.2.2.2.2.2.2.2.2.1 hk
    rw [if_pos hk, List.take_zero, List.nil_append, Nat.mul_one, show min x.d.length (32 * x.len).toNat = x.d.length by omega, List.take_length, List.take_of_length_le (by simp), List.length_map, List.drop_of_length_le (by rw [List.length_replicate]; omega), List.append_nil]
  · have hl := hc.2.2.2.2.2.2.2.2.2 hk
    rw [if_neg hk, hl]
    simp
/-- Extents one behind the other, their kinds in turn, that carry these bytes. -/
def WL : Int → Int → List Ex → List UInt8 → Prop
  | _, _, [], b => b = []
  | lba, k, x :: l, b => Ck x ∧ x.lba = lba ∧ x.kind ≠ k ∧ ∃ b', b = eb x ++ b' ∧ WL (lba + x.len) x.kind l b'
def kd (c : Bool) : Int := if c = true then 1 else 2
theorem ck_mkx (lba : Int) (b : List UInt8) (c : Bool) (n : Nat) (h1 : 0 ≤ lba) (h2 : 1 ≤ n) (h3 : lba + n ≤ 64) (hb : 32 * n ≤ b.length) : Ck (mkx lba b c n) := by
  unfold mkx Ck
  cases c with
  | true => refine ⟨h1, by simp; omega, by simp; omega, by simp; omega, by simp, by simp, by simp, by simp, by simp, by simp⟩
  | false => refine ⟨h1, by simp; omega, by simp; omega, by simp; omega, by simp, by simp, by simp, by simp, fun _ => ?_, by simp⟩
             simp only [Bool.false_eq_true, if_false, List.length_take]; omega
theorem mkx_lba (lba : Int) (b : List UInt8) (c : Bool) (n : Int) : (mkx lba b c n).lba = lba := by unfold mkx; split <;> rfl
theorem mkx_len (lba : Int) (b : List UInt8) (c : Bool) (n : Int) : (mkx lba b c n).len = n := by unfold mkx; split <;> rfl
theorem mkx_kind (lba : Int) (b : List UInt8) (c : Bool) (n : Int) : (mkx lba b c n).kind = kd c := by unfold mkx kd; split <;> rfl
theorem eb_mkx (lba : Int) (b : List UInt8) (c : Bool) (n : Nat) (hz : c = true → b.take (32 * n) = List.replicate (32 * n) 0) : eb (mkx lba b c n) = b.take (32 * n) := by
  unfold eb mkx
  have e : (32 * (n : Int)).toNat = 32 * n := by omega
  cases c with
  | true => simp only [if_true]; rw [hz rfl]; simp [e]
  | false => simp [e]
theorem ly_wl : ∀ (zs : List Bool) (lba : Int) (b : List UInt8) (c : Bool) (m : Nat) (k : Int), 0 ≤ lba → 1 ≤ m → b.length = 32 * (m + zs.length) → lba + m + zs.length ≤ 64 → flags (b.drop (32 * m)) = zs → (c = true → b.take (32 * m) = List.replicate (32 * m) 0) → kd c ≠ k → WL lba k (ly lba b c m zs) b
  | [], lba, b, c, m, k, h1, h2, h3, h4, h5, h6, h7 => by
    simp only [List.length_nil, Nat.add_zero] at h3 h4
    unfold ly
    rw [if_neg (by omega)]
    refine ⟨ck_mkx _ _ _ _ h1 h2 (by omega) (by omega), mkx_lba _ _ _ _, by rw [mkx_kind]; exact h7, [], ?_, rfl⟩
    rw [eb_mkx _ _ _ _ h6, List.append_nil, List.take_of_length_le (by omega)]
  | z :: zs, lba, b, c, m, k, h1, h2, h3, h4, h5, h6, h7 => by
    simp only [List.length_cons] at h3 h4
    have hf := flags_cons (b := b.drop (32 * m)) (by rw [List.length_drop]; omega)
    rw [h5] at hf
    injection hf with hz hzs
    have hd : (b.drop (32 * m)).drop 32 = b.drop (32 * (m + 1)) := by rw [List.drop_drop]; congr 1
    rw [hd] at hzs
    unfold ly
    split
    · rename_i hc
      have := ly_wl zs lba b c (m + 1) k h1 (by omega) (by omega) (by omega) hzs.symm (fun ht => ?_) h7
      · rw [show ((m + 1 : Nat) : Int) = (m : Int) + 1 by omega] at this; exact this
      · have h8 : (b.drop (32 * m)).take 32 = List.replicate 32 0 := by
          have : zb ((b.drop (32 * m)).take 32) = true := by rw [← hz, hc, ht]
          exact eq_of_beq this
        rw [show 32 * (m + 1) = 32 * m + 32 by omega, List.take_add, h8, h6 ht, List.replicate_append_replicate]
    · rename_i hc
      rw [if_neg (by omega)]
      have e : (32 * (m : Int)).toNat = 32 * m := by omega
      refine ⟨ck_mkx _ _ _ _ h1 h2 (by omega) (by omega), mkx_lba _ _ _ _, by rw [mkx_kind]; exact h7, b.drop (32 * m), ?_, ?_⟩
      · rw [eb_mkx _ _ _ _ h6, List.take_append_drop]
      · rw [mkx_len, mkx_kind, e]
        refine ly_wl zs (lba + m) (b.drop (32 * m)) z 1 (kd c) (by omega) (by omega) (by rw [List.length_drop]; omega) (by omega) (by rw [Nat.mul_one, hd]; exact hzs.symm) (fun ht => ?_) ?_
        · have : zb ((b.drop (32 * m)).take 32) = true := by rw [← hz, ht]
          exact eq_of_beq this
        · unfold kd; cases z <;> cases c <;> simp_all
theorem lay_wl {lba : Int} {b : List UInt8} (h : Lo lba b) : WL lba 0 (ly lba b false 0 (flags b)) b := by
  unfold Lo at h
  by_cases hb : b.length < 32
  · have : b = [] := List.eq_nil_of_length_eq_zero (by omega)
    subst this
    rw [flags_nil (by simp)]; simp [ly, WL]
  have hf := flags_cons (b := b) (by omega)
  have hl : (flags (b.drop 32)).length = (b.length - 32) / 32 := by rw [show (flags (b.drop 32)).length = (b.drop 32).length / 32 from fl_length _ _, List.length_drop]
  rw [hf]
  have key : ly lba b false 0 (zb (b.take 32) :: flags (b.drop 32)) = ly lba b (zb (b.take 32)) ((1 : Nat) : Int) (flags (b.drop 32)) := by
    conv => lhs; unfold ly
    split
    · rename_i hz; rw [hz]; rfl
    · rfl
  rw [key]
  refine ly_wl _ _ _ _ 1 0 h.2.1 (by omega) (by omega) (by omega) rfl (fun ht => eq_of_beq ht) (by unfold kd; split <;> omega)
def lens (l : List Ex) : Int := tot (l.map Ex.len)
theorem lens_cons (x : Ex) (l : List Ex) : lens (x :: l) = x.len + lens l := rfl
theorem wl_at : ∀ (l : List Ex) (lba k : Int) (b : List UInt8), WL lba k l b → ∀ i, i < l.length → Ck (exAt l i) ∧ (exAt l i).lba = lba + lens (l.take i) ∧ (0 < i → (exAt l i).kind ≠ (exAt l (i - 1)).kind)
  | [], _, _, _, _, i, hi => by simp at hi
  | x :: l, lba, k, b, h, 0, hi => by
    obtain ⟨h1, h2, h3, _⟩ := h
    exact ⟨h1, by simp only [List.take_zero]; exact h2.trans (by simp [lens, tot]), fun h => by omega⟩
  | x :: l, lba, k, b, h, i + 1, hi => by
    obtain ⟨h1, h2, h3, b', _, h4⟩ := h
    simp only [List.length_cons] at hi
    obtain ⟨g1, g2, g3⟩ := wl_at l _ _ _ h4 i (by omega)
    refine ⟨g1, ?_, fun _ => ?_⟩
    · show (exAt l i).lba = _
      rw [g2, List.take_succ_cons, lens_cons]; omega
    · cases i with
      | zero =>
        cases l with
        | nil => simp at hi
        | cons y l => exact h4.2.2.1
      | succ j => exact g3 (by omega)
theorem wl_bytes : ∀ (l : List Ex) (lba k : Int) (b : List UInt8), WL lba k l b → l.flatMap eb = b
  | [], _, _, b, h => by rw [show b = [] from h]; rfl
  | x :: l, lba, k, b, h => by
    obtain ⟨_, _, _, b', e, h4⟩ := h
    rw [List.flatMap_cons, wl_bytes l _ _ _ h4, e]
theorem flatb_take (l : List Ex) (i : Nat) (hi : i < l.length) : (l.take (i + 1)).flatMap eb = (l.take i).flatMap eb ++ eb (exAt l i) := by
  have h2 : l.take (i + 1) = l.take i ++ [exAt l i] := by unfold exAt; exact take_at _ l i hi
  rw [h2, List.flatMap_append]; simp
theorem lens_take (l : List Ex) (i : Nat) (hi : i < l.length) : lens (l.take (i + 1)) = lens (l.take i) + (exAt l i).len := by
  have h2 : l.take (i + 1) = l.take i ++ [exAt l i] := by unfold exAt; exact take_at _ l i hi
  unfold lens
  rw [h2, List.map_append, tot_app]; simp [tot]
theorem lZerosBack_L0_eq {α : Type} (b : List UInt8) (lba : Int) (s0 : Bool) (e : Int) (s3 : List Ex × Int) (hb : b.length ≤ 5000) (f : Int × Int → Option α) :
    th (lZerosBack_L0_step b lba s0 (Ab.runs (flags b), e) s3) (0, 0) f = f (((flags b).length : Int), ((Ab.runs (flags b)).length : Int)) := by
  have hp := runs_pos7 (flags b)
  have hn := runs_lend (flags b)
  have hfl : (flags b).length = b.length / 32 := fl_length _ _
  have ht := tot_runs (flags b)
  have := th_run (f := f) (step := lZerosBack_L0_step b lba s0 (Ab.runs (flags b), e) s3) (fun i => (tot ((Ab.runs (flags b)).take i), (i : Int))) (Ab.runs (flags b)).length (fun i hi => ?_) ?_
  · refine this.trans ?_
    simp only [List.take_length, ht]
  · unfold lZerosBack_L0_step
    simp only [tb_dec, Int.toNat_natCast, Nat.mul_one]
    have h1 := tot_take_le _ hp i
    have h2 := tot_take_le _ hp (i + 1)
    rw [tot_succ _ _ hi] at h2 ⊢
    have hg : 0 ≤ (Ab.runs (flags b)).getD i 0 := by
      rw [List.getD_eq_getElem?_getD, List.getElem?_eq_getElem hi, Option.getD_some]; exact hp _ (List.getElem_mem _)
    rw [if_pos (by omega), tp_pos (by omega), wr_id (x := (i : Int) + 1) (by omega) (by omega), wr_id (by omega) (by omega)]
    by_cases h0 : i = 0
    · subst h0
      simp
    · have := runs_at1 (flags b) i (by omega) hi
      rw [if_neg (by omega)]
      simp
  · unfold lZerosBack_L0_step
    simp only [tb_dec]
    rw [if_neg (by omega)]
theorem lZerosBack_L1_eq {α : Type} (b : List UInt8) (lba : Int) (s0 : Bool) (s2 : List Int × Int) (l : List Ex) (e : Int) (s5 : Int × Int) (k : Int) (hw : WL lba k l b) (hl : l.length ≤ 200) (h0 : 0 ≤ lba) (h1 : lba ≤ 64) (hb : b.length ≤ 5000) (f : List UInt8 × Int × Int → Option α) :
    th (lZerosBack_L1_step b lba s0 s2 (l, e) s5) ([], lba, 0) f = f (b, lba + lens l, (l.length : Int)) := by
  have hbs := wl_bytes _ _ _ _ hw
  have := th_run (f := f) (step := lZerosBack_L1_step b lba s0 s2 (l, e) s5) (fun i => ((l.take i).flatMap eb, lba + lens (l.take i), (i : Int))) l.length (fun i hi => ?_) ?_
  · refine Eq.trans ?_ (this.trans ?_)
    · congr 1
      simp [lens, tot]
    · simp only [List.take_length, hbs]
  · obtain ⟨g1, g2, g3⟩ := wl_at _ _ _ _ hw i hi
    have g4 := eb_len g1
    have hc := g1
    unfold Ck at hc
    have hlen : ((l.take i).flatMap eb).length + (eb (exAt l i)).length ≤ 5000 := by
      have e1 : l.flatMap eb = (l.take (i + 1)).flatMap eb ++ (l.drop (i + 1)).flatMap eb := by rw [← List.flatMap_append, List.take_append_drop]
      have e2 := congrArg List.length e1
      rw [hbs, flatb_take _ _ hi, List.length_append, List.length_append] at e2
      omega
    unfold lZerosBack_L1_step
    simp only [tb_dec, tb_not, tb_bne, tb_beq, eCheck_eq, tc_some, Int.toNat_natCast]
    rw [if_pos (by omega), tp_pos (by omega), ck_t g1, tb_t, if_pos g2, eBytes_eq g1, tc_some, flatb_take _ _ hi, lens_take _ _ hi]
    rw [wr_id (x := (i : Int) + 1) (by omega) (by omega), wr_id (x := lba + lens (l.take i) + (exAt l i).len) (by omega) (by omega)]
    by_cases hi0 : i = 0
    · subst hi0
      rw [if_neg (by omega), tp_pos ⟨by simp, by omega⟩]
      simp [Int.add_assoc]
    · have hw : wr ((i : Int) - 1) = ((i - 1 : Nat) : Int) := by rw [wr_id (by omega) (by omega)]; omega
      rw [if_pos (by omega), hw, tp_pos (by omega), Int.toNat_natCast, if_neg (g3 (by omega)), tp_pos ⟨by simp, by omega⟩]
      simp [Int.add_assoc]
  · unfold lZerosBack_L1_step
    simp only [tb_dec]
    rw [if_neg (by omega)]
theorem lZerosBack_true (b : List UInt8) (lba : Int) : lZerosBack b lba = some true := by
  unfold lZerosBack aw15
  rw [tc_some, tb_dec]
  by_cases hb : (b.length : Int) > 5000
  · rw [if_pos hb]
  rw [if_neg hb, pSplit_eq _ (by omega), pLay_eq _ _ (by omega)]
  simp only [tc_some, tb_t, tb_bne]
  by_cases hm : b.length % 32 = 0
  case neg =>
    have hlay : lay lba b = ([], 150) := if_neg fun h => hm h.1
    have htm : Int.tmod (b.length : Int) 32 ≠ 0 := by
      rw [Int.tmod_eq_emod_of_nonneg (by omega)]; omega
    rw [if_neg hm, hlay]
    simp only [tb_beq]
    rw [if_neg (by omega), if_neg htm, if_pos (by simp)]; rfl
  rw [if_pos hm]
  have hfl : (flags b).length = b.length / 32 := fl_length _ _
  have hw : wr (Int.tdiv (b.length : Int) 32) = ((flags b).length : Int) := by
    rw [tdiv32, wr_id (by omega) (by omega)]; omega
  rw [if_pos rfl, lZerosBack_L0_eq _ _ _ _ _ (by omega)]
  simp only [tb_dec, tb_beq, hw]
  rw [if_neg (by omega)]
  by_cases hl : Lo lba b
  case neg =>
    have hlay : lay lba b = ([], 150) := if_neg hl
    rw [hlay]
    simp
  have hlay : lay lba b = (ly lba b false 0 (flags b), 0) := if_pos hl
  have hn := ly_len (flags b) lba b false 0
  rw [hlay, if_pos rfl, lZerosBack_L1_eq _ _ _ _ _ _ _ 0 (lay_wl hl) (by omega) hl.2.1 hl.2.2.1 (by omega)]
  simp
theorem zerosBack_call (b : List UInt8) (lba : Int) (_ : True) (_ : I64 lba) : EvFr Try.prog cf false 5 [.sl b.length (b.map AV.y), .i lba] (.b true) := lZerosBack_ok b lba true (lZerosBack_true b lba)
end Ab
end Go.Proofs.Ytiaelfmohamipaa
