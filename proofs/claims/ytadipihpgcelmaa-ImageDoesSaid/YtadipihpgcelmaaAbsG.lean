/- Each operation of the interpreter is one of the machine's: places, parts, slices cut and made, lengths. -/
import Derived.Test.YtadipihpgcelmaaAbsF
import Derived.Laws.BytesString
import Derived.Laws.Strings
import Derived.MapKept
namespace Go.Proofs.Ytadipihpgcelmaa.Ab
open Go
set_option linter.unusedVariables false
set_option linter.unusedSimpArgs false

section
variable {P : Program} {C : Ctx} {K : Nat → Option AObj} {w : World} {h : AH}

theorem mapM_get {α β : Type} {f : α → Option β} : ∀ {l : List α} {r : List β} {i : Nat} {y : β}, l.mapM f = some r → r[i]? = some y → ∃ x, l[i]? = some x ∧ f x = some y
  | [], r, i, y, h, e => by
    simp at h; subst h; simp at e
  | a :: l, r, i, y, h, e => by
    rw [List.mapM_cons] at h
    cases ha : f a with
    | none => rw [ha] at h; simp at h
    | some b =>
      rw [ha] at h
      cases hl : l.mapM f with
      | none => rw [hl] at h; simp at h
      | some r' =>
        rw [hl] at h
        simp at h; subst h
        cases i with
        | zero => simp at e; subst e; exact ⟨a, rfl, ha⟩
        | succ i =>
          simp at e
          obtain ⟨x, h1, h2⟩ := mapM_get hl e
          exact ⟨x, by simpa using h1, h2⟩

theorem field_spec {s : TypeId} {ti : TI} (hT : TSpec P s ti) {fs : List (Nat × Nat × Bool)} (hk : ti.k = .struct fs) {f off sz : Nat} {ag : Bool} (hf : fs[f]? = some (off, sz, ag)) :
    ∃ (gs : Array Field) (g : Field) (fi : TypeInfo) (fd : TypeDesc), hT.d = .struct gs ∧ gs[f]? = some g ∧ P.info? g.type = some fi ∧ P.underlying g.type = some fd ∧ g.offset = off ∧ fi.size = sz ∧ isAggD fd = ag := by
  obtain ⟨gs, hd, hm⟩ := kindOf_struct (hk ▸ hT.kind)
  obtain ⟨g, hg, hfi⟩ := mapM_get hm hf
  unfold fieldI at hfi
  split at hfi
  · rename_i fi fd h1 h2
    simp only [Option.some.injEq, Prod.mk.injEq] at hfi
    exact ⟨gs, g, fi, fd, hd, by simpa using hg, h1, h2, hfi.1, hfi.2.1, hfi.2.2⟩
  · cases hfi

theorem add_none (b o n : Nat) : (⟨b, o, none⟩ : Addr).add n = ⟨b, o + n, none⟩ := by
  unfold Addr.add
  split
  · rename_i h0; simp [h0]
  · rfl
theorem add_spot {a : Addr} (h : a.spot = none) (n : Nat) : a.add n = ⟨a.block, a.off + n, none⟩ := by
  cases a with
  | mk b o s => simp only at h; subst h; exact add_none b o n

theorem run_und' {t : TypeId} {d : TypeDesc} (e : P.underlying t = some d) : (underlying t).run P w = .ok d w := by simp [underlying, e]
theorem run_size' {t : TypeId} {i : TypeInfo} (e : P.info? t = some i) : (sizeOf t).run P w = .ok i.size w := by simp [sizeOf, typeInfo, e]

/-- A pointer moved on. -/
def padd (x : AV) (n : Nat) : AV := match x with | .pt b o => .pt b (o + n) | .ip cs => .ip (cs.drop n) | _ => .top
theorem ptr_add {x : AV} {v : Value} {n : Nat} {r : AV} (hv : VRel C w x v) (hr : r = padd x n) (hx : (∃ b o, x = .pt b o) ∨ ∃ cs, x = .ip cs) :
    ∃ ad : Addr, v = .pointer (some ad) ∧ VRel C w r (.pointer (some (ad.add n))) := by
  rcases hx with ⟨b, o, rfl⟩ | ⟨cs, rfl⟩
  · simp only [VRel] at hv
    obtain ⟨rb, h1, rfl⟩ := hv
    refine ⟨_, rfl, ?_⟩
    rw [hr, add_none]; simp only [padd, VRel]
    exact ⟨rb, h1, rfl⟩
  · simp only [VRel] at hv
    obtain ⟨ad, vs, rfl, h1, h2, h3, h4⟩ := hv
    refine ⟨_, rfl, ?_⟩
    rw [hr, add_spot h1]; simp only [padd, VRel]
    exact ⟨_, vs.drop n, rfl, rfl, h2, h3.drop n, h4.drop n⟩

theorem gives_fieldAddr {s : TypeId} {ti : TI} (hT : TSpec P s ti) {fs : List (Nat × Nat × Bool)} (hk : ti.k = .struct fs) {f off sz : Nat} {ag : Bool} (hf : fs[f]? = some (off, sz, ag)) (hsz : sz ≠ 0)
    {x r : AV} {v : Value} (hS : Sim C K w) (hv : VRel C w x v) (hr : r = padd x off) (hx : (∃ b o, x = .pt b o) ∨ ∃ cs, x = .ip cs) {n : Nat} {rd : List Nat} :
    Gives P C K w n ⟨r, h, rd, []⟩ (Instr.fieldAt s v f) := by
  obtain ⟨gs, g, fi, fd, hd, hg, h1, h2, h3, h4, h5⟩ := field_spec hT hk hf
  obtain ⟨ad, rfl, hrel⟩ := ptr_add hv hr hx
  refine gives_quiet hS ?_ hrel
  have hu : (underlying s).run P w = .ok (.struct gs) w := by rw [hT.run_und, hd]
  simp [Instr.fieldAt, hu, hg, Instr.sureAddr, fieldPlace, run_size' h1, h4, hsz, h3]

theorem isI_rel {x : AV} {v : Value} {i : Int} (hi : isI x = some i) (hv : VRel C w x v) : ∃ k, v = .int k i := by
  cases x with
  | i n => simp only [isI, Option.some.injEq] at hi; subst hi; exact ⟨.i64, by simpa only [VRel] using hv⟩
  | y b => simp only [isI, Option.some.injEq] at hi; subst hi; exact ⟨.u8, by simpa only [VRel] using hv⟩
  | sc u =>
    cases u with
    | int k n => simp only [isI, Option.some.injEq] at hi; subst hi; exact ⟨k, by simpa only [VRel] using hv⟩
    | _ => simp [isI] at hi
  | _ => simp [isI] at hi

theorem idxAddr_rel {t : TypeId} {x ix : AV} {vx vi : Value} {r : OR} (hS : Sim C K w) (hr : idxAddr P h t x ix = some r) (hvx : VRel C w x vx) (hvi : VRel C w ix vi) {n : Nat} : Gives P C K w n r (Instr.indexAt t vx vi) := by
  unfold idxAddr at hr
  split at hr
  · rename_i ti i ht hi
    obtain ⟨hT⟩ := tinfo_spec ht
    obtain ⟨ki, rfl⟩ := isI_rel hi hvi
    split at hr
    · rename_i m e hk
      have hd := kindOf_array (hk ▸ hT.kind)
      have hu : (underlying t).run P w = .ok (.array m e) w := by rw [hT.run_und, hd]
      split at hr
      · rename_i ei he
        obtain ⟨hE⟩ := tinfo_spec he
        split at hr
        · rename_i hb
          have hx : (∃ b o, x = .pt b o) ∨ ∃ cs, x = .ip cs := by
            split at hr
            · exact .inl ⟨_, _, rfl⟩
            · exact .inr ⟨_, rfl⟩
            · cases hr
          have hr' : r = ⟨padd x (i.toNat * ei.size), h, [], []⟩ := by
            rcases hx with ⟨b, o, rfl⟩ | ⟨cs, rfl⟩ <;> (simp only [quiet, Option.some.injEq] at hr; exact hr.symm)
          obtain ⟨ad, rfl, hrel⟩ := ptr_add (n := i.toNat * ei.size) hvx rfl hx
          rw [hr']
          refine gives_quiet hS ?_ hrel
          simp [Instr.indexAt, asIntOf, hu, Instr.sureAddr, hb.1, hb.2, hE.run_size]
        · cases hr
      · cases hr
    · rename_i e hk
      have hd := kindOf_slice (hk ▸ hT.kind)
      have hu : (underlying t).run P w = .ok (.slice e) w := by rw [hT.run_und, hd]
      split at hr
      · rename_i ei he
        obtain ⟨hE⟩ := tinfo_spec he
        split at hr
        · rename_i b z off m
          split at hr
          · rename_i hb
            obtain ⟨h0, h1, rfl⟩ := hb
            simp only [quiet, Option.some.injEq] at hr; subst hr
            simp only [VRel] at hvx
            obtain ⟨a, c, rfl, hc, h2 | ⟨rb, h2, rfl, h4⟩⟩ := hvx
            · omega
            · refine gives_quiet (v := .pointer (some ⟨rb, off + i.toNat * ei.size, none⟩)) hS ?_ (by simp only [VRel]; exact ⟨rb, h2, rfl⟩)
              simp [Instr.indexAt, asIntOf, hu, h0, h1, hE.run_size, add_none]
          · cases hr
        · rename_i m cs
          split at hr
          · rename_i hb
            simp only [quiet, Option.some.injEq] at hr; subst hr
            simp only [VRel] at hvx
            obtain ⟨a, c, rfl, hc, h2 | ⟨ad, vs, rfl, h3, h4, h5, h6⟩⟩ := hvx
            · omega
            · refine gives_quiet (v := .pointer (some ⟨ad.block, ad.off + i.toNat * ei.size, none⟩)) hS ?_ ?_
              · simp [Instr.indexAt, asIntOf, hu, hb.1, hb.2, hE.run_size, add_spot h3]
              · simp only [VRel]
                exact ⟨_, _, rfl, rfl, h4, h5.drop _, h6.drop _⟩
          · cases hr
        · cases hr
      · cases hr
    · cases hr
  · cases hr

/-- A part of a struct or an array. -/
theorem part_rel {t : TypeId} {cs : List AV} {vs : List Value} {off sz : Nat} {ag : Bool} {x : AV} (hag : (isAgg t).run P w = .ok ag w) (hsz : (sizeOf t).run P w = .ok sz w) (hl : LRel C w true cs vs)
    (hle : off + sz ≤ cs.length) (hx : partOf ag ((cs.drop off).take sz) = some x) : ∃ v, (part t vs.toArray off).run P w = .ok v w ∧ VRel C w x v := by
  unfold partOf at hx
  cases ag with
  | true =>
    simp only [if_true, Option.some.injEq] at hx; subst hx
    refine ⟨.agg ((vs.drop off).take sz).toArray, ?_, by simp only [VRel]; exact ⟨_, rfl, (hl.drop off).take sz⟩⟩
    simp only [part, Sem.run_bind, hag, Result.andThen_ok, if_true, hsz, Sem.run_pure]
    congr 2
    apply Array.ext'
    rw [Array.toList_extract]
    simp [List.extract]
  | false =>
    simp only [Bool.false_eq_true, if_false] at hx
    split at hx
    · rename_i c hc
      injection hx with hx; subst hx
      have h1 : cs[off]? = some c := by
        have := congrArg (fun l => l[0]?) hc
        simp only [List.getElem?_cons_zero, List.getElem?_take, List.getElem?_drop, Nat.add_zero] at this
        split at this
        · exact this
        · cases this
      obtain ⟨v, hv, hr, _⟩ := hl.get h1
      refine ⟨v, ?_, hr⟩
      simp [part, hag, hv]
    · cases hx

theorem bnd_none (d : Nat) : bnd none d = some d := rfl
/-- A bound of a slice expression, told. -/
theorem bnd_some {x : AV} {v : Value} {d n : Nat} (hb : bnd (some x) d = some n) (hv : VRel C w x v) {y : Nat} (hy : n ≤ y) (code : BoundsCode) : (Instr.sliceBound v y code).run P w = .ok n w := by
  cases x with
  | i m =>
    simp only [bnd] at hb
    split at hb
    · rename_i h0
      injection hb with hb; subst hb
      have e : v = .int .i64 m := by simpa only [VRel] using hv
      subst e
      have : m ≤ (y : Int) := by omega
      simp [Instr.sliceBound, asIntOf, h0, this]
    · cases hb
  | _ => simp [bnd] at hb

/-- An operand that may be left out. -/
def OV (C : Ctx) (w : World) : Option AV → Option Value → Prop
  | none, none => True
  | some x, some v => VRel C w x v
  | _, _ => False
theorem sliceBounds_rel {isS : Bool} {lo hi mx : Option AV} {vlo vhi vmx : Option Value} {len cap n l h' m : Nat} (hlo : OV C w lo vlo) (hhi : OV C w hi vhi) (hmx : OV C w mx vmx)
    (b1 : bnd lo 0 = some l) (b2 : bnd hi len = some h') (b3 : mx.isSome → bnd mx n = some m) (b4 : mx = none → m = cap) (i1 : l ≤ h') (i2 : h' ≤ m) (i3 : m ≤ cap) (i4 : mx.isSome = true → hi.isSome = true) :
    (Instr.sliceBounds isS len cap vlo vhi vmx).run P w = .ok (l, h', m) w := by
  have c1 : (mx = none ∧ vmx = none ∧ m = cap) ∨ ∃ x v, mx = some x ∧ vmx = some v ∧ ∀ code, (Instr.sliceBound v cap code).run P w = .ok m w := by
    cases mx with
    | none => cases vmx with
      | none => exact .inl ⟨rfl, rfl, b4 rfl⟩
      | some _ => exact hmx.elim
    | some x => cases vmx with
      | none => exact hmx.elim
      | some v => exact .inr ⟨x, v, rfl, rfl, fun code => bnd_some (b3 rfl) hmx i3 code⟩
  have c2 : (hi = none ∧ vhi = none ∧ h' = len) ∨ ∃ x v, hi = some x ∧ vhi = some v ∧ ∀ code, (Instr.sliceBound v m code).run P w = .ok h' w := by
    cases hi with
    | none => cases vhi with
      | none => exact .inl ⟨rfl, rfl, by simpa [bnd] using b2.symm⟩
      | some _ => exact hhi.elim
    | some x => cases vhi with
      | none => exact hhi.elim
      | some v => exact .inr ⟨x, v, rfl, rfl, fun code => bnd_some b2 hhi i2 code⟩
  have c3 : (vlo = none ∧ l = 0) ∨ ∃ v, vlo = some v ∧ ∀ code, (Instr.sliceBound v h' code).run P w = .ok l w := by
    cases lo with
    | none => cases vlo with
      | none => exact .inl ⟨rfl, by simpa [bnd] using b1.symm⟩
      | some _ => exact hlo.elim
    | some x => cases vlo with
      | none => exact hlo.elim
      | some v => exact .inr ⟨v, rfl, fun code => bnd_some b1 hlo i1 code⟩
  rcases c1 with ⟨e1, e2, e3⟩ | ⟨x1, v1, e1, e2, e3⟩
  · subst e1 e2 e3
    rcases c2 with ⟨f1, f2, f3⟩ | ⟨x2, v2, f1, f2, f3⟩
    · subst f1 f2 f3
      rcases c3 with ⟨g1, g2⟩ | ⟨v3, g1, g2⟩
      · subst g1 g2; simp [Instr.sliceBounds]
      · subst g1; simp [Instr.sliceBounds, g2]
    · subst f1 f2
      rcases c3 with ⟨g1, g2⟩ | ⟨v3, g1, g2⟩
      · subst g1 g2; simp [Instr.sliceBounds, f3]
      · subst g1; simp [Instr.sliceBounds, f3, g2]
  · subst e1 e2
    rcases c2 with ⟨f1, f2, f3⟩ | ⟨x2, v2, f1, f2, f3⟩
    · subst f1; simp at i4
    · subst f1 f2
      rcases c3 with ⟨g1, g2⟩ | ⟨v3, g1, g2⟩
      · subst g1 g2; simp [Instr.sliceBounds, e3, f3]
      · subst g1; simp [Instr.sliceBounds, e3, f3, g2]

theorem cut_rel {lo hi mx : Option AV} {vlo vhi vmx : Option Value} {n c l h' : Nat} {z : Bool} (hlo : OV C w lo vlo) (hhi : OV C w hi vhi) (hmx : OV C w mx vmx) (hq : cutA lo hi mx n = some (l, h', z)) (hc : n ≤ c) :
    ∃ m, (Instr.sliceBounds true n c vlo vhi vmx).run P w = .ok (l, h', m) w ∧ l ≤ h' ∧ h' ≤ n ∧ h' ≤ m ∧ m ≤ c ∧ (z = true → m = l) := by
  unfold cutA at hq
  split at hq
  · rename_i l0 h0 m b1 b2 b3
    split at hq
    · rename_i hb
      obtain ⟨i1, i2, i3, i4⟩ := hb
      simp only [Option.some.injEq, Prod.mk.injEq] at hq
      obtain ⟨rfl, rfl, rfl⟩ := hq
      cases mx with
      | none =>
        refine ⟨c, sliceBounds_rel (n := n) hlo hhi hmx b1 b2 (fun hx => by cases hx) (fun _ => rfl) i1 (by omega) (Nat.le_refl _) (fun hx => by cases hx), i1, by omega, by omega, Nat.le_refl _, fun hz => by simp at hz⟩
      | some x =>
        refine ⟨m, sliceBounds_rel (n := n) hlo hhi hmx b1 b2 (fun _ => b3) (fun hx => by cases hx) i1 i2 (by omega) i4, i1, by omega, i2, by omega, fun hz => by simpa using hz⟩
    · cases hq
  · cases hq

theorem reach_of {b n : Nat} {cs : List AV} {rb : Nat} (hS : Sim C K w) (hk : K b = some (.cells cs) ∨ K b = some (.ro cs)) (hφ : C.φ b = some rb) (hn : n ≤ cs.length) (h0 : 0 < n) : Reach w rb n := by
  obtain ⟨vs, h1, h2⟩ := block_at hS hk hφ
  have hl := h2.length
  obtain ⟨v, hv⟩ : ∃ v, vs[n - 1]? = some v := ⟨vs[n - 1]'(by omega), by simp⟩
  have := h1 _ _ hv
  unfold World.cell? at this
  split at this
  · rename_i c T f hc
    simp at this
    have hlt : 0 + (n - 1) < c.size := by
      rcases Nat.lt_or_ge (0 + (n - 1)) c.size with g | g
      · exact g
      · rw [Nat.zero_add] at g; simp [Array.getElem?_eq_none g] at this
    exact ⟨c, T, f, hc, by omega⟩
  · cases this

theorem sliceA_rel {t : TypeId} {x : AV} {vx : Value} {lo hi mx : Option AV} {vlo vhi vmx : Option Value} {r : OR} (hS : Sim C K w) (hr : sliceA P h t x lo hi mx = some r) (hK : ∀ b ∈ r.rd, K b = h.get b) (hvx : VRel C w x vx)
    (hlo : OV C w lo vlo) (hhi : OV C w hi vhi) (hmx : OV C w mx vmx) {n0 : Nat} : Gives P C K w n0 r (Instr.sliceAt t vx vlo vhi vmx) := by
  unfold sliceA at hr
  split at hr
  · cases hr
  · rename_i ti ht
    obtain ⟨hT⟩ := tinfo_spec ht
    split at hr
    · -- of an array
      rename_i n e hk
      have hd := kindOf_array (hk ▸ hT.kind)
      have hu : (underlying t).run P w = .ok (.array n e) w := by rw [hT.run_und, hd]
      split at hr
      · rename_i ei l h' he b1 b2
        obtain ⟨hE⟩ := tinfo_spec he
        split at hr
        · rename_i hb
          obtain ⟨i1, i2, i3⟩ := hb
          have hm0 : mx = none := by cases mx with | none => rfl | some _ => simp at i3
          have hbs := sliceBounds_rel (P := P) (isS := false) (cap := n) (n := n) (m := n) hlo hhi hmx b1 b2 (fun hx => by rw [hm0] at hx; cases hx) (fun _ => rfl) i1 i2 (Nat.le_refl _) (fun hx => by rw [hm0] at hx; cases hx)
          split at hr
          · rename_i b off
            split at hr
            · rename_i cs hcs
              split at hr
              · rename_i hle
                injection hr with hr; subst hr
                simp only [VRel] at hvx
                obtain ⟨rb, hφ, rfl⟩ := hvx
                have hk : K b = some (.cells cs) ∨ K b = some (.ro cs) := by rw [hK b (by simp)]; exact cells_spec hcs
                by_cases e : n = l
                · subst e
                  refine gives_quiet (v := .slice (some ⟨rb, off, none⟩) (h' - n) (n - n)) hS ?_ ?_
                  · simp [Instr.sliceAt, hu, Instr.sureAddr, hbs, hE.run_size]
                  · simp only [VRel]; exact ⟨_, _, rfl, by omega, .inl (by omega)⟩
                · refine gives_quiet (v := .slice (some ⟨rb, off + l * ei.size, none⟩) (h' - l) (n - l)) hS ?_ ?_
                  · simp [Instr.sliceAt, hu, Instr.sureAddr, hbs, hE.run_size, e, add_none]
                  · simp only [VRel]
                    refine ⟨_, _, rfl, by omega, .inr ⟨rb, hφ, rfl, ?_⟩⟩
                    have := reach_of hS hk hφ hle.1 (by omega)
                    have e2 : off + l * ei.size + (n - l) * ei.size = off + n * ei.size := by
                      rw [Nat.add_assoc, ← Nat.add_mul]; congr 2; omega
                    rwa [e2]
              · cases hr
            · cases hr
          · rename_i cs
            split at hr
            · rename_i hle
              simp only [quiet, Option.some.injEq] at hr; subst hr
              simp only [VRel] at hvx
              obtain ⟨ad, vs, rfl, h1, h2, h3, h4⟩ := hvx
              by_cases e : n = l
              · subst e
                refine gives_quiet (v := .slice (some ad) (h' - n) (n - n)) hS ?_ ?_
                · simp [Instr.sliceAt, hu, Instr.sureAddr, hbs, hE.run_size]
                · simp only [VRel]; exact ⟨_, _, rfl, by omega, .inl (by omega)⟩
              · refine gives_quiet (v := .slice (some ⟨ad.block, ad.off + l * ei.size, none⟩) (h' - l) (n - l)) hS ?_ ?_
                · simp [Instr.sliceAt, hu, Instr.sureAddr, hbs, hE.run_size, e, add_spot h1]
                · simp only [VRel]
                  exact ⟨_, _, rfl, by omega, .inr ⟨_, _, rfl, rfl, h2, (h3.drop _).take _, (h4.drop _).take _⟩⟩
            · cases hr
          · cases hr
        · cases hr
      · cases hr
    · -- of a slice
      rename_i e hk
      have hd := kindOf_slice (hk ▸ hT.kind)
      have hu : (underlying t).run P w = .ok (.slice e) w := by rw [hT.run_und, hd]
      split at hr
      · cases hr
      · rename_i ei he
        obtain ⟨hE⟩ := tinfo_spec he
        have hund : P.underlying t = some (.slice e) := by rw [hT.und, hd]
        split at hr
        · split at hr
          · rename_i q hq
            obtain ⟨l, h', z⟩ := q
            simp only [quiet, Option.some.injEq] at hr; subst hr
            simp only [VRel] at hvx
            obtain ⟨a, rfl⟩ := hvx
            obtain ⟨m, g1, g2, g3, g4, g5, g6⟩ := cut_rel (P := P) hlo hhi hmx hq (Nat.le_refl 0)
            refine gives_quiet (v := .slice a 0 0) hS ?_ (by simp only [VRel]; exact ⟨_, rfl⟩)
            have e1 : l = 0 := by omega
            have e2 : h' = 0 := by omega
            have e3 : m = 0 := by omega
            subst e1 e2 e3
            simp [Instr.sliceAt, Instr.slice, hu, g1, hE.run_size]
          · cases hr
        · rename_i n cs
          split at hr
          · rename_i l h' z hq
            split at hr
            · rename_i hlen
              simp only [quiet, Option.some.injEq] at hr; subst hr
              simp only [VRel] at hvx
              obtain ⟨a, c, rfl, hc, hcase⟩ := hvx
              obtain ⟨m, g1, g2, g3, g4, g5, g6⟩ := cut_rel (P := P) hlo hhi hmx hq hc
              by_cases em : m = l
              · subst em
                have : h' = m := by omega
                subst this
                refine gives_quiet (v := .slice a (h' - h') (h' - h')) hS (by simp [Instr.sliceAt, Instr.slice, hu, g1, hE.run_size]) ?_
                cases z with
                | true => simp only [cond_true, VRel]; exact ⟨a, by simp⟩
                | false => simp only [cond_false, VRel]; exact ⟨a, _, rfl, by omega, .inl (by omega)⟩
              · have hz : z = false := by cases z with | false => rfl | true => exact absurd (g6 rfl) em
                subst hz
                refine gives_quiet (v := .slice (a.map (·.add (l * ei.size))) (h' - l) (m - l)) hS (by simp [Instr.sliceAt, Instr.slice, hu, g1, hE.run_size, em]) ?_
                simp only [cond_false, VRel]
                refine ⟨_, _, rfl, by omega, ?_⟩
                rcases hcase with h0 | ⟨ad, vs, rfl, k1, k2, k3, k4⟩
                · exact .inl (by omega)
                · exact .inr ⟨⟨ad.block, ad.off + l * ei.size, none⟩, _, by simp [add_spot k1], rfl, k2, (k3.drop _).take _, (k4.drop _).take _⟩
            · cases hr
          · cases hr
        · rename_i b z' off n
          split at hr
          · rename_i l h' z hq
            split at hr
            · rename_i hz'
              subst hz'
              simp only [quiet, Option.some.injEq] at hr; subst hr
              simp only [VRel] at hvx
              obtain ⟨a, c, rfl, hc, hcase⟩ := hvx
              obtain ⟨m, g1, g2, g3, g4, g5, g6⟩ := cut_rel (P := P) hlo hhi hmx hq hc
              by_cases em : m = l
              · subst em
                have : h' = m := by omega
                subst this
                refine gives_quiet (v := .slice a (h' - h') (h' - h')) hS (by simp [Instr.sliceAt, Instr.slice, hu, g1, hE.run_size]) ?_
                cases z with
                | true => simp only [cond_true, VRel]; exact ⟨a, by simp⟩
                | false => simp only [cond_false, VRel]; exact ⟨a, _, rfl, by omega, .inl (by omega)⟩
              · have hz : z = false := by cases z with | false => rfl | true => exact absurd (g6 rfl) em
                subst hz
                refine gives_quiet (v := .slice (a.map (·.add (l * ei.size))) (h' - l) (m - l)) hS (by simp [Instr.sliceAt, Instr.slice, hu, g1, hE.run_size, em]) ?_
                simp only [cond_false, VRel]
                refine ⟨_, _, rfl, by omega, ?_⟩
                rcases hcase with h0 | ⟨rb, hφ, rfl, hR⟩
                · exact .inl (by omega)
                · refine .inr ⟨rb, hφ, by simp [add_none], ?_⟩
                  obtain ⟨c0, T, f, k1, k2⟩ := hR
                  refine ⟨c0, T, f, k1, ?_⟩
                  have e2 : off + l * ei.size + (m - l) * ei.size = off + m * ei.size := by
                    rw [Nat.add_assoc, ← Nat.add_mul]; congr 2; omega
                  rw [e2]
                  have := Nat.mul_le_mul_right ei.size g5
                  omega
            · cases hr
          · cases hr
        · cases hr
    · cases hr
end
end Go.Proofs.Ytadipihpgcelmaa.Ab
