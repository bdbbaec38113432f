/- Each operation of the interpreter is one of the machine's: structs and arrays told alike, maps; all of them. -/
import Derived.Test.YtadipihpgcelmaaAbsI
import Derived.ChangeKeysEq
import Derived.Laws.StructEq
namespace Go.Proofs.Ytadipihpgcelmaa.Ab
open Go
set_option linter.unusedVariables false
set_option linter.unusedSimpArgs false

section
variable {P : Program} {C : Ctx} {K : Nat → Option AObj} {w : World} {h : AH}

def valOf (P : Program) (t : TypeId) (us : List Value) : Value := if ((P.underlying t).map isAggD) = some true then .agg us.toArray else us.headD undef
theorem eqCells_append : ∀ {a c : List AV} {b d : List AV} {r : Bool}, a.length = c.length → eqCells (a ++ b) (c ++ d) = some r → ∃ r1 r2, eqCells a c = some r1 ∧ eqCells b d = some r2 ∧ r = (r1 && r2)
  | [], [], b, d, r, _, h => ⟨true, r, rfl, h, by simp⟩
  | x :: a, y :: c, b, d, r, hl, h => by
    simp only [List.cons_append, eqCells] at h
    split at h
    · rename_i r1 r2 h1 h2
      injection h with h; subst h
      obtain ⟨q1, q2, g1, g2, rfl⟩ := eqCells_append (by simpa using hl) h2
      exact ⟨r1 && q1, q2, by simp [eqCells, h1, g1], g2, by cases r1 <;> simp⟩
    · cases h
  | [], y :: c, b, d, r, hl, h => by simp at hl
  | x :: a, [], b, d, r, hl, h => by simp at hl

theorem run_part {t : TypeId} {i : TypeInfo} {d : TypeDesc} (hi : P.info? t = some i) (hd : P.underlying t = some d) {us : List Value} {off : Nat} (hle : off + i.size ≤ us.length) (h1 : isAggD d = false → i.size = 1) :
    (part t us.toArray off).run P w = .ok (valOf P t ((us.drop off).take i.size)) w := by
  have hag : (isAgg t).run P w = .ok (isAggD d) w := by
    simp only [isAgg, Sem.run_bind, run_und' hd, Result.andThen_ok]
    cases d <;> rfl
  unfold valOf
  rw [hd]
  cases hx : isAggD d with
  | true =>
    simp only [part, Sem.run_bind, hag, hx, Result.andThen_ok, if_true, run_size' hi, Sem.run_pure, Option.map_some]
    congr 2
    apply Array.ext'
    rw [Array.toList_extract]
    simp [List.extract]
  | false =>
    have hs := h1 hx
    rw [hs] at hle ⊢
    have hlt : off < us.length := by omega
    simp only [part, Sem.run_bind, hag, hx, Result.andThen_ok, Bool.false_eq_true, if_false, Option.map_some, Option.some.injEq]
    have : us.toArray[off]? = some us[off] := by simp [hlt]
    rw [this]
    simp only [Sem.run_pure]
    congr 1
    rw [List.drop_eq_getElem_cons hlt]
    rfl

theorem flat_one {k : Nat} {t : TypeId} {s : Nat} (hf : flatEq P k t = some s) : ∃ i d, P.info? t = some i ∧ P.underlying t = some d ∧ i.size = s ∧ (isAggD d = false → i.size = 1) := by
  cases k with
  | zero => simp [flatEq] at hf
  | succ k =>
    simp only [flatEq] at hf
    split at hf
    · rename_i i kk h1 h2; split at hf
      · rename_i h3; injection hf with hf; exact ⟨i, _, h1, h2, by omega, fun _ => h3⟩
      · cases hf
    · rename_i i n e h1 h2
      split at hf
      · split at hf
        · injection hf with hf; exact ⟨i, _, h1, h2, hf, fun hx => by cases hx⟩
        · cases hf
      · cases hf
    · rename_i i fs h1 h2
      split at hf
      · injection hf with hf; exact ⟨i, _, h1, h2, hf, fun hx => by cases hx⟩
      · cases hf
    · cases hf

theorem eq_flat : ∀ (k : Nat) (t : TypeId) (s : Nat), flatEq P k t = some s → ∀ (D : Nat), k ≤ D → ∀ (cs ds : List AV) (us vs : List Value) (r : Bool), LRel C w true cs us → LRel C w true ds vs → cs.length = s → ds.length = s →
    eqCells cs ds = some r → (Op.equalIn D t (valOf P t us) (valOf P t vs)).run P w = .ok r w := by
  intro k
  induction k with
  | zero => intro t s hf; simp [flatEq] at hf
  | succ k ih =>
    intro t s hf D hD cs ds us vs r hu hv hcs hds he
    obtain ⟨D, rfl⟩ : ∃ m, D = m + 1 := ⟨D - 1, by omega⟩
    simp only [flatEq] at hf
    split at hf
    · rename_i i q h1 h2
      split at hf
      · injection hf with hf
        subst hf
        obtain ⟨c, rfl⟩ : ∃ c, cs = [c] := by cases cs with | nil => simp at hcs | cons c l => cases l with | nil => exact ⟨c, rfl⟩ | cons _ _ => simp at hcs
        obtain ⟨d, rfl⟩ : ∃ d, ds = [d] := by cases ds with | nil => simp at hds | cons c l => cases l with | nil => exact ⟨c, rfl⟩ | cons _ _ => simp at hds
        obtain ⟨u, rfl, hu1, _⟩ := hu.one1
        obtain ⟨v, rfl, hv1, _⟩ := hv.one1
        simp only [eqCells] at he
        split at he
        · rename_i x y hx hy
          injection he with he
          injection hy with hy
          subst hy he
          have hva : valOf P t [u] = u ∧ valOf P t [v] = v := by simp [valOf, h2, isAggD]
          rw [hva.1, hva.2, Bool.and_true]
          obtain ⟨kk, a, b, rfl, rfl, rfl⟩ := eqCell_rel hx hu1 hv1
          exact run_equalIn_int w D t kk q a b h2
        · cases he
      · cases hf
    · rename_i i n e h1 h2
      split at hf
      · rename_i s0 ie h3 h4
        split at hf
        · rename_i h5
          injection hf with hf
          subst hf
          obtain ⟨rfl, h6⟩ := h5
          have hva : ∀ us : List Value, valOf P t us = .agg us.toArray := by intro us; simp [valOf, h2, isAggD]
          rw [hva, hva, run_equalIn_array w D _ _ h2 h4]
          obtain ⟨ie', de, q1, q2, q3, q4⟩ := flat_one h3
          have hie : ie' = ie := by rw [h4] at q1; injection q1 with q1; exact q1.symm
          subst hie
          have hco : P.cellsOf e = ie'.size := by simp [Program.cellsOf, h4]
          have hul := hu.length
          have hvl := hv.length
          have key : ∀ (m j : Nat) (r : Bool), j + m = n → eqCells (cs.drop (j * ie'.size)) (ds.drop (j * ie'.size)) = some r →
              (Op.eqItems D e (P.cellsOf e) us.toArray vs.toArray (List.range' j m)).run P w = .ok r w := by
            intro m
            induction m with
            | zero =>
              intro j r hj hr
              have e1 : cs.drop (j * ie'.size) = [] := by rw [List.drop_eq_nil_iff]; rw [hcs, h6]; have : j = n := by omega
                                                          subst this; exact Nat.le_refl _
              have e2 : ds.drop (j * ie'.size) = [] := by rw [List.drop_eq_nil_iff]; rw [hds, h6]; have : j = n := by omega
                                                          subst this; exact Nat.le_refl _
              rw [e1, e2] at hr
              simp only [eqCells, Option.some.injEq] at hr
              subst hr
              simp [Op.eqItems]
            | succ m ihm =>
              intro j r hj hr
              have hle : j * ie'.size + ie'.size ≤ i.size := by
                rw [h6, ← Nat.succ_mul]; exact Nat.mul_le_mul_right _ (by omega)
              have sp : ∀ l : List AV, l.drop (j * ie'.size) = (l.drop (j * ie'.size)).take ie'.size ++ l.drop ((j + 1) * ie'.size) := by
                intro l
                rw [Nat.succ_mul, ← List.drop_drop, List.take_append_drop]
              rw [sp cs, sp ds] at hr
              have t1 : ((cs.drop (j * ie'.size)).take ie'.size).length = ie'.size := by simp; omega
              have t2 : ((ds.drop (j * ie'.size)).take ie'.size).length = ie'.size := by simp; omega
              obtain ⟨r1, r2, g1, g2, rfl⟩ := eqCells_append (by rw [t1, t2]) hr
              have p1 := run_part (P := P) (w := w) q1 q2 (us := us) (off := j * ie'.size) (by omega) q4
              have p2 := run_part (P := P) (w := w) q1 q2 (us := vs) (off := j * ie'.size) (by omega) q4
              have e3 := ih e ie'.size h3 D (by omega) _ _ _ _ r1 ((hu.drop _).take _) ((hv.drop _).take _) t1 t2 g1
              have e4 := ihm (j + 1) r2 (by omega) g2
              simp only [List.range'_succ, Op.eqItems, Sem.run_bind, hco, p1, p2, Result.andThen_ok, e3]
              rw [hco] at e4
              cases r1 <;> simp [e4]
          rw [List.range_eq_range']
          exact key n 0 r (by omega) (by simpa using he)
        · cases hf
      · cases hf
    · rename_i i fs h1 h2
      split at hf
      · rename_i h3
        injection hf with hf
        subst hf
        have hva : ∀ us : List Value, valOf P t us = .agg us.toArray := by intro us; simp [valOf, h2, isAggD]
        have hfo : P.fieldsOf t = fs := by simp [Program.fieldsOf, h2]
        rw [hva, hva, run_equalIn_struct w D t _ _ (by rw [hfo]; exact h2) h3.2, hfo]
        have hul := hu.length
        have hvl := hv.length
        have key : ∀ (gs : List Field) (off : Nat) (r : Bool), flatFs (flatEq P k) gs off = some i.size → eqCells (cs.drop off) (ds.drop off) = some r →
            off ≤ i.size ∧ (Op.eqFields D us.toArray vs.toArray gs).run P w = .ok r w := by
          intro gs
          induction gs with
          | nil =>
            intro off r hg hr
            simp only [flatFs, Option.some.injEq] at hg
            subst hg
            have e1 : cs.drop i.size = [] := by rw [List.drop_eq_nil_iff, hcs]; exact Nat.le_refl _
            have e2 : ds.drop i.size = [] := by rw [List.drop_eq_nil_iff, hds]; exact Nat.le_refl _
            rw [e1, e2] at hr
            simp only [eqCells, Option.some.injEq] at hr
            subst hr
            exact ⟨Nat.le_refl _, by simp [Op.eqFields]⟩
          | cons g gs ihg =>
            intro off r hg hr
            simp only [flatFs] at hg
            split at hg
            · rename_i s0 hs0
              split at hg
              · rename_i hgo
                obtain ⟨rfl, hname⟩ := hgo
                obtain ⟨ig, dg, q1, q2, rfl, q4⟩ := flat_one hs0
                have sp : ∀ l : List AV, l.drop g.offset = (l.drop g.offset).take ig.size ++ l.drop (g.offset + ig.size) := by
                  intro l
                  rw [← List.drop_drop, List.take_append_drop]
                have hmono : ∀ (gs : List Field) (off : Nat), flatFs (flatEq P k) gs off = some i.size → off ≤ i.size := by
                  intro gs
                  induction gs with
                  | nil => intro off hg; simp only [flatFs, Option.some.injEq] at hg; omega
                  | cons g' gs' ih' =>
                    intro off hg
                    simp only [flatFs] at hg
                    split at hg
                    · split at hg
                      · have := ih' _ hg; omega
                      · cases hg
                    · cases hg
                have hle := hmono gs _ hg
                rw [sp cs, sp ds] at hr
                have t1 : ((cs.drop g.offset).take ig.size).length = ig.size := by simp; omega
                have t2 : ((ds.drop g.offset).take ig.size).length = ig.size := by simp; omega
                obtain ⟨r1, r2, g1, g2, rfl⟩ := eqCells_append (by rw [t1, t2]) hr
                have p1 := run_part (P := P) (w := w) q1 q2 (us := us) (off := g.offset) (by omega) q4
                have p2 := run_part (P := P) (w := w) q1 q2 (us := vs) (off := g.offset) (by omega) q4
                have e3 := ih g.type ig.size hs0 D (by omega) _ _ _ _ r1 ((hu.drop _).take _) ((hv.drop _).take _) t1 t2 g1
                obtain ⟨_, e4⟩ := ihg (g.offset + ig.size) r2 hg g2
                refine ⟨by omega, ?_⟩
                simp only [Op.eqFields, hname, ne_eq, not_false_eq_true, if_true, Sem.run_bind, p1, p2, Result.andThen_ok, e3]
                cases r1 <;> simp [e4]
              · cases hg
            · cases hg
        exact (key fs.toList 0 r h3.1 (by simpa using he)).2
      · cases hf
    · cases hf

theorem bin_rel {op : BinOp} {t : TypeId} {x y r : AV} {u v : Value} {xo yo : Operand} (hr : bin P op t x y = some r) (hx : VRel C w x u) (hy : VRel C w y v) :
    ∃ z, (do eqGuard op t xo yo u v; binOp op t u v : Sem Value).run P w = .ok z w ∧ VRel C w r z := by
  unfold bin at hr
  split at hr
  · rename_i a b
    have e1 : u = .int .i64 a := by simpa only [VRel] using hx
    have e2 : v = .int .i64 b := by simpa only [VRel] using hy
    subst e1 e2
    obtain ⟨z, h1, h2⟩ := binI_rel (P := P) (C := C) (w := w) hr t
    refine ⟨z, ?_, h2⟩
    have : (eqGuard op t xo yo (.int .i64 a) (.int .i64 b)).run P w = .ok () w := by unfold eqGuard; cases op <;> rfl
    simp [this, h1]
  · rename_i a b
    have e1 : u = .int .u8 a.toNat := by simpa only [VRel] using hx
    have e2 : v = .int .u8 b.toNat := by simpa only [VRel] using hy
    subst e1 e2
    obtain ⟨z, h1, h2⟩ := binI_rel (P := P) (C := C) (w := w) hr t
    refine ⟨z, ?_, h2⟩
    have : (eqGuard op t xo yo (.int .u8 a.toNat) (.int .u8 b.toNat)).run P w = .ok () w := by unfold eqGuard; cases op <;> rfl
    simp [this, h1]
  · rename_i k a k' b
    split at hr
    · rename_i hk; subst hk
      have e1 : u = .int k a := by simpa only [VRel] using hx
      have e2 : v = .int k b := by simpa only [VRel] using hy
      subst e1 e2
      obtain ⟨z, h1, h2⟩ := binI_rel (P := P) (C := C) (w := w) hr t
      refine ⟨z, ?_, h2⟩
      have : (eqGuard op t xo yo (.int k a) (.int k b)).run P w = .ok () w := by unfold eqGuard; cases op <;> rfl
      simp [this, h1]
    · cases hr
  · rename_i a b
    have e1 : u = .bool a := by simpa only [VRel] using hx
    have e2 : v = .bool b := by simpa only [VRel] using hy
    subst e1 e2
    split at hr
    · rename_i ti ht
      obtain ⟨hT⟩ := tinfo_spec ht
      split at hr
      · rename_i hk
        injection hr with hr; subst hr
        have hd : hT.d = .bool := by
          have := hT.kind
          rw [hk] at this
          cases hdd : hT.d <;> rw [hdd] at this <;> simp [kindOf] at this
        have hu : P.underlying t = some .bool := by rw [hT.und, hd]
        have := run_equalIn_bool (P := P) w 9999 t a b hu
        refine ⟨.bool (a == b), ?_, by simp only [VRel]⟩
        have hg : (eqGuard .eql t xo yo (.bool a) (.bool b)).run P w = .ok () w := by unfold eqGuard; rfl
        simp [hg, binOp, Op.equal, Op.maxDepth, this]
      · rename_i hk
        injection hr with hr; subst hr
        have hd : hT.d = .bool := by
          have := hT.kind
          rw [hk] at this
          cases hdd : hT.d <;> rw [hdd] at this <;> simp [kindOf] at this
        have hu : P.underlying t = some .bool := by rw [hT.und, hd]
        have := run_equalIn_bool (P := P) w 9999 t a b hu
        refine ⟨.bool (!(a == b)), ?_, by simp only [VRel]⟩
        have hg : (eqGuard .neq t xo yo (.bool a) (.bool b)).run P w = .ok () w := by unfold eqGuard; rfl
        simp [hg, binOp, Op.equal, Op.maxDepth, this]
      · cases hr
    · cases hr
  · rename_i a b
    have e1 : u = .string ⟨a.toArray⟩ := by simpa only [VRel] using hx
    have e2 : v = .string ⟨b.toArray⟩ := by simpa only [VRel] using hy
    subst e1 e2
    split at hr
    · injection hr with hr; subst hr
      refine ⟨.bool (a == b), ?_, by simp only [VRel]⟩
      have hg : (eqGuard .eql t xo yo (.string ⟨a.toArray⟩) (.string ⟨b.toArray⟩)).run P w = .ok () w := by unfold eqGuard; rfl
      simp [hg, binOp, Op.stringOp]
    · injection hr with hr; subst hr
      refine ⟨.bool (!(a == b)), ?_, by simp only [VRel]⟩
      have hg : (eqGuard .neq t xo yo (.string ⟨a.toArray⟩) (.string ⟨b.toArray⟩)).run P w = .ok () w := by unfold eqGuard; rfl
      simp [hg, binOp, Op.stringOp]
    · cases hr
  · rename_i a b
    simp only [VRel] at hx hy
    obtain ⟨us, rfl, hu⟩ := hx
    obtain ⟨vs, rfl, hv⟩ := hy
    split at hr
    · rename_i s hs
      split at hr
      · rename_i hb
        obtain ⟨ha, hb, hgt, hagg⟩ := hb
        obtain ⟨i, d, q1, q2, q3, q4⟩ := flat_one hs
        split at hr
        · rename_i q hq
          injection hr with hr; subst hr
          have := eq_flat 8 t s hs 10000 (by omega) a b us vs q hu hv ha hb hq
          have hag : isAggD d = true := by rw [q2] at hagg; simpa using hagg
          have hva : ∀ us : List Value, valOf P t us = .agg us.toArray := by intro us; simp [valOf, q2, hag]
          rw [hva, hva] at this
          refine ⟨.bool q, ?_, by simp only [VRel]⟩
          rw [Sem.run_bind, run_eqGuard_agg w .eql t xo yo _ _ hgt, Result.andThen_ok, run_eql_struct, this]
          rfl
        · rename_i q hq
          injection hr with hr; subst hr
          have := eq_flat 8 t s hs 10000 (by omega) a b us vs q hu hv ha hb hq
          have hag : isAggD d = true := by rw [q2] at hagg; simpa using hagg
          have hva : ∀ us : List Value, valOf P t us = .agg us.toArray := by intro us; simp [valOf, q2, hag]
          rw [hva, hva] at this
          refine ⟨.bool (!q), ?_, by simp only [VRel]⟩
          rw [Sem.run_bind, run_eqGuard_agg w .neq t xo yo _ _ hgt, Result.andThen_ok, run_neq_struct, this]
          rfl
        · cases hr
      · cases hr
    · cases hr
  · cases hr
end
end Go.Proofs.Ytadipihpgcelmaa.Ab
