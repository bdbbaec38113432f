/- The law 'SendLays': it returns true, and nothing that was there changes. No condition. (Part 11 of 12.) -/
import Derived.Test.YtpflcogplhigcaaSl10
namespace Go.Proofs.Ytpflcogplhigcaa
open Go Go.Proofs.Ytpflcogplhigcaa.Ab
set_option linter.unusedVariables false
set_option linter.unusedSimpArgs false
namespace Ab
theorem aw18_yes : aw18 = some true := by kernel_rfl
theorem alike_ok {b : Int} {a c : List Ex} (ha : Mk b a) (hc : Mk b c) (h : ∀ k : Nat, (k : Int) < b → ∃ u v, Den a k u ∧ Den c k v ∧ pad 32 u.2.2 = pad 32 v.2.2 ∧ (u.1 = 0 ↔ v.1 = 0)) : alike18 b a c = some true := by
  have la := (cellsM_mk ha).2.1
  have lc := (cellsM_mk hc).2.1
  have hb := mk_blocks ha
  unfold alike18
  rw [iOf_eq _ _ (by have := mk_len ha; omega), tc_some, iOf_eq _ _ (by have := mk_len hc; omega), tc_some]
  have e1 : ofS b a = (cellsM a, 0) := by unfold ofS; rw [if_pos ha]
  have e2 : ofS b c = (cellsM c, 0) := by unfold ofS; rw [if_pos hc]
  rw [e1, e2]
  dsimp only
  rw [tb_bne, if_pos rfl, tb_bne, if_pos rfl, tb_bne, if_pos (by omega)]
  have key := fun s0 s1 f => th_all (α := Bool) (step := alike18_L0_step b a c (cellsM a, s0) (cellsM c, s1)) (f := f) (some false) (some true) (cellsM a).length (fun _ => True) True ⟨fun _ => trivial, fun _ _ _ => trivial⟩ (fun i hi _ => by
    obtain ⟨u, v, hu, hv, q1, q2⟩ := h i (by omega)
    have cu' := cellsM_den (mk_ch ha) hu
    have cv' := cellsM_den (mk_ch hc) hv
    rw [Int.sub_zero, Int.toNat_natCast] at cu' cv'
    have c1 := (ce_get cu').2
    have c2 := (ce_get cv').2
    unfold alike18_L0_step
    simp only [tb_dec, Int.toNat_natCast]
    rw [if_pos (by omega), tp_pos (by omega), tp_pos (by omega), c1, c2]
    have d1 : (pad 32 (cb u).d == pad 32 (cb v).d) = true := by
      rw [beq_iff_eq]
      show pad 32 (pad 32 u.2.2) = pad 32 (pad 32 v.2.2)
      rw [q1]
    have d2 : (((cb u).kind == 0) == ((cb v).kind == 0)) = true := by
      rw [beq_iff_eq]
      show (u.1 == 0) = (v.1 == 0)
      rw [Bool.eq_iff_iff, beq_iff_eq, beq_iff_eq]; exact q2
    rw [d1, d2]
    simp only [Bool.not_true, tb_f]
    rw [wr_id (by omega) (by omega)]) (fun i hi hn => absurd trivial hn)
  rw [key]
  · rw [if_pos trivial]
  · refine ⟨?_, ?_⟩
    · unfold alike18_L0_step
      simp only [tb_dec]
      rw [if_neg (by omega)]
    · simp only [tb_dec]
      rw [if_neg (by omega)]
theorem told_kind {x : Ex} {k : Int} {c : Int × Int × List UInt8} (hx : Ck x) (hd : Den (told x) k c) : c.1 = 0 ↔ x.kind = 0 := by
  obtain ⟨y, hy, _, _, e⟩ := hd
  have hc : c.1 = y.kind := by rw [e]; rfl
  rw [hc]
  unfold told at hy
  split at hy
  · rename_i h2
    obtain ⟨z, hz, rfl⟩ := List.mem_map.1 hy
    have hw := lay_wl (ck_lo hx h2)
    obtain ⟨i, hi, ez⟩ := List.getElem_of_mem hz
    have hk : ∀ (zs : List Bool) (lba : Int) (b : List UInt8) (q : Bool) (n : Int), ∀ z ∈ ly lba b q n zs, z.kind ≠ 0 := by
      intro zs
      induction zs with
      | nil =>
        intro lba b q n z hz
        simp only [ly] at hz
        split at hz
        · simp at hz
        · rw [List.mem_singleton] at hz; subst hz; rw [mkx_kind]; unfold kd; split <;> simp
      | cons w zs ih =>
        intro lba b q n z hz
        simp only [ly] at hz
        split at hz
        · exact ih _ _ _ _ z hz
        split at hz
        · exact ih _ _ _ _ z hz
        · rcases List.mem_cons.1 hz with e | e
          · rw [e, mkx_kind]; unfold kd; split <;> simp
          · exact ih _ _ _ _ z e
    have := hk _ _ _ _ _ z hz
    exact ⟨fun h => absurd h this, fun h => by omega⟩
  · rw [List.mem_singleton] at hy; subst hy; exact Iff.rfl
theorem den_gn {g : Int} {l : List Ex} {k : Int} {c : Int × Int × List UInt8} (h : Den l k c) : Den (l.map (gn g)) k (c.1, g, c.2.2) := by
  obtain ⟨x, hx, a, b, rfl⟩ := h
  exact ⟨gn g x, List.mem_map.2 ⟨x, hx, rfl⟩, a, b, rfl⟩
theorem gn_den {g : Int} {l : List Ex} {y : Ex} (hy : y ∈ l.map (gn g)) {k : Int} (h1 : y.lba ≤ k) (h2 : k < y.lba + y.len) : ∃ c, Den l k c := by
  obtain ⟨x, hx, rfl⟩ := List.mem_map.1 hy
  exact ⟨_, x, hx, h1, h2, rfl⟩
theorem pk_den {l : List Ex} (h : Ls l) {k : Int} {c : Int × Int × List UInt8} : Den (pk l).1 k c ↔ ∃ x ∈ l, Den (told x) k c := by
  rw [(pk_spec h).2.2.2.2, den_adds, den_flat]
  exact ⟨fun q => q.elim (fun q => absurd q den_nil) id, .inr⟩
theorem sent_alike {b g : Int} {q base : List Ex} (hq : Mk b q) (hb : Mk b base) (p : Ex → Bool) (hg : 0 ≤ g ∧ g ≤ 2147483647)
    (hu : ∀ x ∈ q, p x = false → ∀ k, x.lba ≤ k → k < x.lba + x.len → ∃ c, Den base k c ∧ pad 32 c.2.2 = pad 32 (bAt x k).2.2 ∧ (c.1 = 0 ↔ x.kind = 0)) :
    alike18 b (((pk (ofL_ p 0 q)).1.map (gn g)).foldl put base) q = some true := by
  obtain ⟨o1, o2, o3⟩ := of_so hq p (g := 0) (by omega)
  have hb64 := (mk_blocks hq).2
  have og : ∀ x ∈ ofL_ p 0 q, x.gen = 0 := fun x hx => by
    obtain ⟨y, _, rfl⟩ := List.mem_map.1 hx; rfl
  have hls := so_lsx o1 o3
  obtain ⟨_, s1, _, _, s2, _⟩ := pk_all o1 o2 hb64 og
  obtain ⟨w1, w2⟩ := so_gn hg s1
  have hf := so_fit8 w1 (by rw [w2]; exact s2)
  have hmeet : ∀ x ∈ (pk (ofL_ p 0 q)).1.map (gn g), ∀ y ∈ (pk (ofL_ p 0 q)).1.map (gn g), ∀ k, x.lba ≤ k → k < x.lba + x.len → y.lba ≤ k → k < y.lba + y.len → bAt x k = bAt y k := fun x hx y hy k a1 a2 b1 b2 => by rw [so_one w1 x hx y hy k a1 a2 b1 b2]
  have hden := den_lay _ base hb hf hmeet
  obtain ⟨sq, _⟩ := ch_so (mk_ch hq)
  refine alike_ok (puts_mk _ _ hb hf) hq fun k hk => ?_
  obtain ⟨x, hx, x1, x2⟩ := ch_cov (mk_ch hq) (k := (k : Int)) (by omega) (by have := hq.2.2; omega)
  have hck := (so_ck sq x hx).1
  by_cases hp : p x = true
  · have hL : gn 0 x ∈ ofL_ p 0 q := List.mem_map.2 ⟨x, List.mem_filter.2 ⟨hx, hp⟩, rfl⟩
    have hck0 := ck_gn hck (g := 0) (by omega)
    obtain ⟨c0, hc0, hpd⟩ := told_den hck0 (k := (k : Int)) x1 x2
    have hk0 := told_kind hck0 hc0
    exact ⟨(c0.1, g, c0.2.2), bAt x k, (hden _ _).2 (.inl (den_gn ((pk_den hls).2 ⟨_, hL, hc0⟩))), ⟨x, hx, x1, x2, rfl⟩, hpd, hk0⟩
  · have hp' : p x = false := by simpa using hp
    obtain ⟨c, hc1, hc2, hc3⟩ := hu x hx hp' k x1 x2
    refine ⟨c, bAt x k, (hden _ _).2 (.inr ⟨fun y hy => ?_, hc1⟩), ⟨x, hx, x1, x2, rfl⟩, hc2, hc3⟩
    refine Classical.byContradiction fun hn => ?_
    obtain ⟨c', hc'⟩ := gn_den hy (k := (k : Int)) (by omega) (by omega)
    obtain ⟨z, hz, hz2⟩ := (pk_den hls).1 hc'
    obtain ⟨z', hz', rfl⟩ := List.mem_map.1 hz
    have hm := List.mem_filter.1 hz'
    have hin := told_in (ck_gn (so_ck sq z' hm.1).1 (g := 0) (by omega)) hz2
    have e := so_one sq z' hm.1 x hx k hin.1 hin.2 x1 x2
    rw [← e, hm.2] at hp'
    cases hp'
theorem kp_ij {s : Sa} (h : SOk s) {i : Nat} : ∀ j, i < j → j < s.points.length → Kp (poAt s.points i).map (poAt s.points j).map (poAt s.points i).gen ∧ (poAt s.points i).gen < (poAt s.points j).gen
  | 0, hij, _ => by omega
  | j + 1, hij, hj => by
    have hp := h.2.2.2.2.2.2.2.1 (j + 1) hj
    have hk := hp.2.2.2.2.2
    have hg := hp.2.2.2.1
    rw [pv_succ] at hk hg
    rcases Nat.lt_or_ge i j with g | g
    · obtain ⟨a, b⟩ := kp_ij h j g (by omega)
      exact ⟨kp_trans (h.2.2.2.2.2.2.2.1 j (by omega)).1.1 hp.1.1 (by omega) a hk, by omega⟩
    · have : i = j := by omega
      subst this; exact ⟨hk, hg⟩
theorem lSendLays_true (s : Sa) (i k : UInt8) (hb : Bg s) : lSendLays s i k = some true := by
  unfold lSendLays
  rw [aw18_yes, tc_some, sIds_eqB hb, tc_some, few11_eq, tc_some, tb_not, tb_dec]
  by_cases hf : FewS s
  case neg => rw [if_neg hf]
  have hz := fews_sz hf
  rw [if_pos hf, tb_beq]
  by_cases hs : SOk s
  case neg => rw [cpy_f hs]; rfl
  rw [cpy_t hs, List.length_map]
  by_cases h0 : (s.points.length : Int) = 0
  · rw [if_pos h0]
  have hp4 := hs.2.2.2.1
  have hw : k.toNat < 256 := k.toNat_lt
  have hw2 : i.toNat < 256 := i.toNat_lt
  rw [if_neg h0, tp_pos (by rw [beq_eq_false_iff_ne]; exact h0), wr_id (x := ((k.toNat : Nat) : Int)) (by omega) (by omega), wr_id (x := ((i.toNat : Nat) : Int)) (by omega) (by omega)]
  have ht : Int.tmod ((k.toNat : Nat) : Int) (s.points.length : Int) = ((k.toNat % s.points.length : Nat) : Int) := rfl
  have ht2 : Int.tmod ((i.toNat : Nat) : Int) (s.points.length : Int) = ((i.toNat % s.points.length : Nat) : Int) := rfl
  have hlt : k.toNat % s.points.length < s.points.length := Nat.mod_lt _ (by omega)
  have hlt2 : i.toNat % s.points.length < s.points.length := Nat.mod_lt _ (by omega)
  rw [ht, ht2]
  generalize k.toNat % s.points.length = j at hlt
  generalize i.toNat % s.points.length = n at hlt2
  have hat : ∀ j, j < s.points.length → (s.points.map Po.id).getD j 0 = (poAt s.points j).id := fun j hj => by simp [poAt, hj]
  rw [tp_pos (by omega), Int.toNat_natCast, Int.toNat_natCast, Nat.mul_one, Nat.mul_one, hat j hlt, hat n hlt2]
  have hid := id_ok hs hlt
  have hid2 := id_ok hs hlt2
  have hpn := fd_at hs hlt
  have hpn2 := fd_at hs hlt2
  have hup := (hs.2.2.2.2.2.2.2.1 j hlt).1
  have hup2 := (hs.2.2.2.2.2.2.2.1 n hlt2).1
  have hlast := hs.2.2.2.2.2.1
  have hblk := mk_blocks hs.1.1
  rw [sPoint_eq hz, tc_some, hpn, mNew_eq, tc_some, if_pos hblk, vMake_eq hz, tc_some]
  have hmk : makV s 0 (poAt s.points j).id = mkV s 0 (poAt s.points j).id (ofL_ (fun x => x.kind != 0) 0 (poAt s.points j).map) := by
    unfold makV
    rw [hpn]
    dsimp only
    rw [if_neg (by simp), if_neg (by simp), if_neg (by omega)]
  rw [hmk]
  obtain ⟨v1, v2, v3, v4, v5⟩ := mkV_ok (s := s) (a := 0) (c := (poAt s.points j).id) hup.1 (fun x => x.kind != 0) (by omega) (by omega)
  rw [v1]
  dsimp only
  have hnew : Mk s.blocks [⟨0, s.blocks, 0, 0, []⟩] := mk_new hblk
  obtain ⟨d1, d2⟩ := den_ok (gen := 3) hnew v5 v3 v4 (by omega) v2
  rw [d1, tc_some]
  dsimp only
  have al := sent_alike (g := 3) hup.1 hnew (fun x => x.kind != 0) (by omega) fun x hx hp q q1 q2 => by
    have hk0 : x.kind = 0 := by simpa using hp
    obtain ⟨sq, se⟩ := ch_so (mk_ch hup.1)
    have hck := (so_ck sq x hx)
    have hend := so_le sq x hx
    have hsl := hup.1.2.2
    refine ⟨_, ⟨⟨0, s.blocks, 0, 0, []⟩, by simp, by show (0 : Int) ≤ q; omega, by show q < 0 + s.blocks; omega, rfl⟩, ?_, ?_⟩
    · have hd0 := ck_d0 hck.1 (by omega)
      simp [bAt, hd0]
    · simp [bAt, hk0]
  rw [al, tc_some]
  simp only [bne_self_eq_false, tb_f, Bool.not_true]
  rw [tp_pos (by omega), tb_dec]
  by_cases hge : (poAt s.points n).id ≥ (poAt s.points j).id
  · rw [if_pos hge]
  rw [if_neg hge]
  have hnj : n < j := by
    rcases Nat.lt_or_ge n j with g | g
    · exact g
    · rcases Nat.eq_or_lt_of_le g with e | e
      · subst e; omega
      · have := ids_lt hs n e hlt2; omega
  obtain ⟨hkp, hgl⟩ := kp_ij hs j hnj hlt
  rw [sPoint_eq hz, tc_some, hpn2, vMake_eq hz, tc_some]
  have hmk2 : makV s (poAt s.points n).id (poAt s.points j).id = mkV s (poAt s.points n).id (poAt s.points j).id (ofL_ (fun x => decide (x.gen > (poAt s.points n).gen)) 0 (poAt s.points j).map) := by
    unfold makV
    rw [hpn, hpn2]
    dsimp only
    rw [if_neg (by simp), if_pos (by omega), if_neg (by simp), if_neg (by omega)]
  rw [hmk2]
  obtain ⟨u1, u2, u3, u4, u5⟩ := mkV_ok (s := s) (a := (poAt s.points n).id) (c := (poAt s.points j).id) hup.1 (fun x => decide (x.gen > (poAt s.points n).gen)) (by omega) (by omega)
  rw [u1]
  dsimp only
  obtain ⟨d3, d4⟩ := den_ok (gen := 2147483647) hup2.1 u5 u3 u4 (by omega) u2
  rw [d3, tc_some]
  dsimp only
  have al2 := sent_alike (g := 2147483647) hup.1 hup2.1 (fun x => decide (x.gen > (poAt s.points n).gen)) (by omega) fun x hx hp q q1 q2 => by
    have hg0 : x.gen ≤ (poAt s.points n).gen := by simpa using hp
    obtain ⟨sq, se⟩ := ch_so (mk_ch hup.1)
    have hck := (so_ck sq x hx)
    have hend := so_le sq x hx
    have hsl := hup.1.2.2
    have px := ck_pos hck.1
    obtain ⟨y, hy, y1, y2⟩ := ch_cov (mk_ch hup2.1) (k := q) (by omega) (by have := hup2.1.2.2; omega)
    have e := hkp x hx hg0 y hy q q1 q2 y1 y2
    refine ⟨bAt y q, ⟨y, hy, y1, y2, rfl⟩, by rw [e], ?_⟩
    have : x.kind = y.kind := congrArg (fun c : Int × Int × List UInt8 => c.1) e
    show y.kind = 0 ↔ _
    rw [this]
  rw [al2, tc_some]
  simp only [tb_t, beq_self_eq_true]
theorem sendLays_call (s : Sa) (i k : UInt8) (h : Sa.ok s) : EvFr Try.prog cf false 4 [s.av, .y i, .y k] (.b true) := lSendLays_ok s i k true (lSendLays_true s i k ⟨h.2.2.1.1, h.2.2.2.1.1, fun p hp => (h.2.2.2.1.2 p hp).2.2.1⟩)
end Ab
end Go.Proofs.Ytpflcogplhigcaa
