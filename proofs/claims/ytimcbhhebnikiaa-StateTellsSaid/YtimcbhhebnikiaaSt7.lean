/- The law 'StateTells': it returns true, and nothing that was there changes. No condition. (Part 7 of 12.) -/
import Derived.Test.YtimcbhhebnikiaaSt6
import Derived.OpenShut
import Derived.ChangeOld
import Derived.WideShapes
import Derived.ReadAgain
import Derived.Below
namespace Go.Proofs.Ytimcbhhebnikiaa.Ab
open Go
set_option linter.unusedVariables false
set_option linter.unusedSimpArgs false
def Opn (P : Program) (t : TypeId) {α : Type} (c : α → List AV) (ok : α → Prop) : Prop :=
  ∀ (H : Type) (enc : TypeId × Value → H) (W : World) (fuel : Nat) (cs : List Value) (x : DataW H × List MemPlace), DataW.trod enc P W 0 (fun _ => true) true fuel t cs = some x → ∃ a, ok a ∧ LRel (C0 W) W true (c a) cs
def I64 (n : Int) : Prop := -9223372036854775808 ≤ n ∧ n ≤ 9223372036854775807
section
variable {P : Program} {α β : Type}
theorem opn_int {t : TypeId} (h : P.underlying t = some (.int .i64)) : Opn P t (fun n : Int => [.i n]) I64 := by
  intro H enc W fuel cs x hx
  obtain ⟨n, rfl, _, hw⟩ := DataW.trod_int h hx
  exact ⟨n, bounds_i64 hw, LRel.cons (fun _ => rfl) (by simp only [VRel]) LRel.nil⟩
theorem opn_u8 {t : TypeId} (h : P.underlying t = some (.int .u8)) : Opn P t (fun n : UInt8 => [.y n]) (fun _ => True) := by
  intro H enc W fuel cs x hx
  obtain ⟨n, rfl, _, hw⟩ := DataW.trod_int h hx
  have hb := bounds_u8 hw
  refine ⟨UInt8.ofNat n.toNat, trivial, LRel.cons (fun _ => rfl) ?_ LRel.nil⟩
  simp only [VRel, UInt8.toNat_ofNat']
  congr 1
  omega
theorem Opn.map {t : TypeId} {c : α → List AV} {ok : α → Prop} (h : Opn P t c ok) (f : α → β) (c' : β → List AV) (ok' : β → Prop) (hc : ∀ a, c' (f a) = c a) (ho : ∀ a, ok a → ok' (f a)) : Opn P t c' ok' := by
  intro H enc W fuel cs x hx
  obtain ⟨a, h1, h2⟩ := h H enc W fuel cs x hx
  exact ⟨f a, ho a h1, by rw [hc]; exact h2⟩
theorem opn_slice {t e z : TypeId} {c : α → List AV} {ok : α → Prop} (ht : P.underlying t = some (.slice e)) (hz : P.cellsOf e = z) (hpos : 0 < z) (he : Opn P e c ok) :
    Opn P t (fun l : List α => [.sl l.length (l.flatMap c)]) (fun l => ∀ a ∈ l, ok a) := by
  intro H enc W fuel cs x hx
  rcases DataW.trod_slice ht hx with ⟨rfl, _⟩ | ⟨a, len, cap, elems, rest, n, _, rfl, _, hb, hl, hm, hlen, hel, _, _⟩
  · refine ⟨[], by simp, LRel.cons (fun _ => rfl) ?_ LRel.nil⟩
    simp only [VRel]
    exact ⟨none, 0, rfl, Nat.le_refl _, .inl rfl⟩
  · have key : ∀ k, k ≤ len → ∃ (l : List α) (vs : List Value), l.length = k ∧ (∀ a ∈ l, ok a) ∧ LRel (C0 W) W true (l.flatMap c) vs ∧ vs.length = k * z ∧ (0 < k → a.spot = none ∧ a.block < W.heap.size) ∧ ∀ j, j < k * z → W.cell? (a.add j) = vs[j]? := by
      intro k
      induction k with
      | zero => exact fun _ => ⟨[], [], rfl, by simp, by simpa using LRel.nil, by simp, fun h => by omega, fun j hj => by simp at hj⟩
      | succ k ih =>
        intro hk
        obtain ⟨l, vs, h1, h2, h3, h4, h5, h6⟩ := ih (by omega)
        have hkl : k < elems.length := by omega
        have hy := hel k (by omega)
        rw [List.getElem?_eq_getElem hkl, hz, Option.bind_eq_some_iff] at hy
        obtain ⟨cs', hcs, hy⟩ := hy
        obtain ⟨b, hb1, hb2⟩ := he H enc W _ _ _ hy
        obtain ⟨_, hc1, hc2⟩ := World.cells?_some hcs
        have hblk := World.cells?_block hcs hpos
        obtain ⟨v0, hv0⟩ : ∃ v0, cs'[0]? = some v0 := ⟨cs'[0]'(by rw [hc1]; exact hpos), List.getElem?_eq_getElem _⟩
        have hspot := World.cell?_spot ((hc2 0 hpos).trans hv0)
        have hsp : a.spot = none := by
          rcases Nat.eq_zero_or_pos k with hk0 | hk0
          · subst hk0; simpa [Addr.add] using hspot
          · exact (h5 hk0).1
        obtain ⟨b1, b2, b3⟩ := a
        simp only at hsp
        subst hsp
        simp only [Go.WideShapes.add_plain] at hblk hc2 h6 ⊢
        refine ⟨l ++ [b], vs ++ cs', by simp [h1], ?_, ?_, by rw [List.length_append, h4, hc1, Nat.add_mul, Nat.one_mul], fun _ => ⟨trivial, hblk⟩, fun j hj => ?_⟩
        · intro u hu
          rcases List.mem_append.1 hu with hu | hu
          · exact h2 u hu
          · simp only [List.mem_singleton] at hu; subst hu; exact hb1
        · simp only [List.flatMap_append, List.flatMap_cons, List.flatMap_nil, List.append_nil]
          exact h3.append hb2
        · by_cases hj' : j < k * z
          · rw [List.getElem?_append_left (by omega)]; exact h6 j hj'
          · rw [List.getElem?_append_right (by omega), h4]
            have hj2 : j < k * z + z := by rw [Nat.add_mul, Nat.one_mul] at hj; exact hj
            have := hc2 (j - k * z) (by omega)
            rw [show b2 + k * z + (j - k * z) = b2 + j by omega] at this
            exact this
    obtain ⟨l, vs, h1, h2, h3, h4, h5, h6⟩ := key len (Nat.le_refl _)
    refine ⟨l, h2, LRel.cons (fun _ => rfl) ?_ LRel.nil⟩
    simp only [VRel]
    refine ⟨some a, cap, by rw [h1], by omega, ?_⟩
    by_cases hl0 : l.length = 0
    · exact .inl hl0
    · obtain ⟨g1, g2⟩ := h5 (by omega)
      refine .inr ⟨a, vs, rfl, g1, g2, ?_, ?_⟩
      · have : (C0 W).pure = C0 W := rfl
        rw [this]; exact h3
      · intro i v hv
        have hi : i < vs.length := by
          rcases Nat.lt_or_ge i vs.length with g | g
          · exact g
          · rw [List.getElem?_eq_none g] at hv; cases hv
        obtain ⟨b1, b2, b3⟩ := a
        simp only at g1
        subst g1
        simp only [Go.WideShapes.add_plain] at h6
        rw [h6 i (by omega)]; exact hv
/-- Fields, one behind the other. -/
def OpnF (P : Program) (fs : List Field) (off n : Nat) {α : Type} (c : α → List AV) (ok : α → Prop) : Prop :=
  ∀ (H : Type) (enc : TypeId × Value → H) (W : World) (fuel : Nat) (cs : List Value), cs.length = n → (∀ f ∈ fs, ∃ y, DataW.trod enc P W 0 (fun _ => true) true fuel f.type ((cs.drop f.offset).take (P.cellsOf f.type)) = some y) → ∃ a, ok a ∧ LRel (C0 W) W true (c a) (cs.drop off)
theorem opnF_nil {n : Nat} : OpnF P [] n n (fun _ : Unit => []) (fun _ => True) := by
  intro H enc W fuel cs hn _
  refine ⟨(), trivial, ?_⟩
  rw [List.drop_eq_nil_of_le (by omega)]
  exact LRel.nil
theorem opnF_cons {f : Field} {fs : List Field} {off z n : Nat} {c1 : α → List AV} {ok1 : α → Prop} {c2 : β → List AV} {ok2 : β → Prop} (ho : f.offset = off) (hz : P.cellsOf f.type = z) (h1 : Opn P f.type c1 ok1) (h2 : OpnF P fs (off + z) n c2 ok2) :
    OpnF P (f :: fs) off n (fun a : α × β => c1 a.1 ++ c2 a.2) (fun a => ok1 a.1 ∧ ok2 a.2) := by
  intro H enc W fuel cs hn hf
  obtain ⟨y, hy⟩ := hf f (by simp)
  obtain ⟨a, ha1, ha2⟩ := h1 H enc W fuel _ _ hy
  obtain ⟨b, hb1, hb2⟩ := h2 H enc W fuel cs hn fun g hg => hf g (by simp [hg])
  refine ⟨(a, b), ⟨ha1, hb1⟩, ?_⟩
  have : cs.drop off = (cs.drop off).take z ++ cs.drop (off + z) := by rw [← List.drop_drop, List.take_append_drop]
  rw [this]
  rw [ho, hz] at ha2
  exact ha2.append hb2
theorem opn_struct {t : TypeId} {fs : Array Field} {n : Nat} {c : α → List AV} {ok : α → Prop} (ht : P.underlying t = some (.struct fs)) (hn : P.cellsOf t = n) (h : OpnF P fs.toList 0 n c ok) : Opn P t c ok := by
  intro H enc W fuel cs x hx
  obtain ⟨xs, m, rfl, _, hl, hxs, hf⟩ := DataW.trod_struct ht hx
  obtain ⟨a, h1, h2⟩ := h H enc W m cs (by rw [hl, hn]) fun f hfm => by
    obtain ⟨i, hi⟩ := List.getElem?_of_mem hfm
    have hi' : fs[i]? = some f := by simpa using hi
    have hlt : i < xs.length := by
      rw [hxs]
      exact (Array.getElem?_eq_some_iff.1 hi').1
    exact ⟨xs[i], by rw [hf i f hi', List.getElem?_eq_getElem hlt]⟩
  exact ⟨a, h1, by simpa using h2⟩
/-! ### A parameter -/
section
variable {H : Type} {enc : TypeId × Value → H} {W : World} {r : _root_.Go.Reach} {b0 : Nat} {t : TypeId} {v : Value} {d : DataW H} {p : List MemPlace}
theorem arg_int (ht : P.underlying t = some (.int .i64)) (hval : Value.okWide P W r b0 t v) (hd : DataW.Trod enc P W 0 (fun _ => true) true t v d p) : ∃ n, I64 n ∧ VRel (C0 W) W (.i n) v := by
  obtain ⟨n, rfl⟩ := WideShapes.okWide_int ht hval
  obtain ⟨fuel, hd⟩ := hd
  obtain ⟨m, hm, h2⟩ := opn_int ht H enc W fuel _ _ hd
  exact ⟨m, hm, (LRel.one1 (by simpa [Value.cells] using h2)).elim fun v h => by obtain ⟨e, h, _⟩ := h; simp only [List.cons.injEq, and_true] at e; rw [e]; exact h⟩
theorem arg_struct {fs : Array Field} {c : α → List AV} {ok : α → Prop} (ht : P.underlying t = some (.struct fs)) (ho : Opn P t c ok) (hval : Value.okWide P W r b0 t v) (hd : DataW.Trod enc P W 0 (fun _ => true) true t v d p) : ∃ a, ok a ∧ VRel (C0 W) W (.ag (c a)) v := by
  obtain ⟨cs, rfl, _⟩ := WideShapes.okWide_struct ht hval
  obtain ⟨fuel, hd⟩ := hd
  obtain ⟨m, hm, h2⟩ := ho H enc W fuel _ _ hd
  refine ⟨m, hm, ?_⟩
  simp only [VRel]
  exact ⟨cs.toList, by simp, by simpa [Value.cells] using h2⟩
end
/-- Behind a call that wrote nothing of what was there: the arguments read as they did. -/
theorem again_of {H : Type} {enc : TypeId × Value → H} {W W' : World} (hl : ((List.range P.types.size).all fun t => match P.underlying t with | some (.slice e) => decide (0 < P.cellsOf e) | _ => true) = true) (hlo : laidOutB P = true) (hmr : mapsRowed P = true)
    {ts : List TypeId} {vs : List Value} {ds : List (DataW H)} {ps : List MemPlace} (hts : (ts.all fun t => decide (t < P.types.size)) = true) (h : DataW.TrodAll enc P W 0 (fun _ => true) true ts vs ds ps) (hb : RowKit.Below W.heap.size W W') :
    DataW.TrodAll enc P W' 0 (fun b => decide (b < W.heap.size)) true ts vs ds ps := by
  have hlt := h.lt
  have h2 := DataW.TrodAll.respare (spare' := fun b => decide (b < W.heap.size)) (kids_rows hlo hmr) (slices_full_of P hl) (fun t ht => of_decide_eq_true (List.all_eq_true.1 hts t ht)) h fun p hp => by simpa using hlt p hp
  have carry : ∀ (ts : List TypeId) (vs : List Value) (ds : List (DataW H)) (ps : List MemPlace), (∀ p ∈ ps, p.block < W.heap.size) → DataW.TrodAll enc P W 0 (fun b => decide (b < W.heap.size)) true ts vs ds ps → DataW.TrodAll enc P W' 0 (fun b => decide (b < W.heap.size)) true ts vs ds ps := by
    intro ts
    induction ts with
    | nil => intro vs ds ps _ h; cases vs <;> cases ds <;> simp [DataW.TrodAll] at h ⊢ <;> exact h
    | cons t ts ih =>
      intro vs ds ps hp h
      cases vs <;> cases ds <;> simp only [DataW.TrodAll] at h ⊢
      obtain ⟨p, q, ⟨n, h1⟩, h2, rfl⟩ := h
      refine ⟨p, q, ⟨n, DataW.trod_carry n _ _ _ h1 fun x hx => hb.same (hp x (List.mem_append_left _ hx))⟩, ih _ _ _ (fun x hx => hp x (List.mem_append_right _ hx)) h2, rfl⟩
  exact carry ts vs ds ps hlt h2
/-! ### Kinds -/
theorem flat_y (l : List UInt8) : l.flatMap (fun b => [AV.y b]) = l.map .y := by
  induction l with
  | nil => rfl
  | cons b l ih => simp [ih]
theorem opn_bys {t e : TypeId} (ht : P.underlying t = some (.slice e)) (he : P.underlying e = some (.int .u8)) (hz : P.cellsOf e = 1) : Opn P t (fun l : List UInt8 => [bys l]) (fun _ => True) :=
  (opn_slice ht hz Nat.one_pos (opn_u8 he)).map id _ _ (fun l => by simp [flat_y]) (fun _ _ => trivial)
def Zo.ok (z : Zo) : Prop := I64 z.st ∧ I64 z.rs ∧ I64 z.la
def Ex.ok (x : Ex) : Prop := I64 x.lba ∧ I64 x.len ∧ I64 x.kind ∧ I64 x.gen
theorem opn_ex {t : TypeId} {f1 f2 f3 f4 f5 : Field} (ht : P.underlying t = some (.struct #[f1, f2, f3, f4, f5])) (hn : P.cellsOf t = 5) (o1 : f1.offset = 0) (o2 : f2.offset = 1) (o3 : f3.offset = 2) (o4 : f4.offset = 3) (o5 : f5.offset = 4)
    (z1 : P.cellsOf f1.type = 1) (z2 : P.cellsOf f2.type = 1) (z3 : P.cellsOf f3.type = 1) (z4 : P.cellsOf f4.type = 1) (z5 : P.cellsOf f5.type = 1) (h1 : P.underlying f1.type = some (.int .i64)) (h2 : P.underlying f2.type = some (.int .i64)) (h3 : P.underlying f3.type = some (.int .i64)) (h4 : P.underlying f4.type = some (.int .i64)) (h5 : Opn P f5.type (fun l : List UInt8 => [bys l]) (fun _ => True)) :
    Opn P t Ex.cells Ex.ok :=
  (opn_struct ht hn (opnF_cons o1 z1 (opn_int h1) (opnF_cons o2 z2 (opn_int h2) (opnF_cons o3 z3 (opn_int h3) (opnF_cons o4 z4 (opn_int h4) (opnF_cons o5 z5 h5 opnF_nil)))))).map (fun a => (⟨a.1, a.2.1, a.2.2.1, a.2.2.2.1, a.2.2.2.2.1⟩ : Ex)) _ _ (fun a => rfl) (fun a h => ⟨h.1, h.2.1, h.2.2.1, h.2.2.2.1⟩)
def Ce.ok (x : Ce) : Prop := I64 x.kind ∧ I64 x.gen ∧ x.d.length = 32
def Sp.ok (x : Sp) : Prop := I64 x.k ∧ I64 x.n
/-! Checkpoints, states, changes. -/
def Po.ok (x : Po) : Prop := I64 x.id ∧ I64 x.gen ∧ (∀ a ∈ x.map, Ex.ok a)
theorem opn_po {t : TypeId} {f1 f2 f3 : Field} (ht : P.underlying t = some (.struct #[f1, f2, f3])) (hn : P.cellsOf t = 3) (o1 : f1.offset = 0) (o2 : f2.offset = 1) (o3 : f3.offset = 2) (z1 : P.cellsOf f1.type = 1) (z2 : P.cellsOf f2.type = 1) (z3 : P.cellsOf f3.type = 1) (h1 : P.underlying f1.type = some (.int .i64)) (h2 : P.underlying f2.type = some (.int .i64)) (h3 : Opn P f3.type (fun l : List Ex => [exs l]) (fun l => ∀ a ∈ l, Ex.ok a)) :
    Opn P t Po.cells Po.ok :=
  (opn_struct ht hn (opnF_cons o1 z1 (opn_int h1) (opnF_cons o2 z2 (opn_int h2) (opnF_cons o3 z3 h3 opnF_nil)))).map (fun a => (⟨a.1, a.2.1, a.2.2.1⟩ : Po)) _ _ (fun a => rfl) (fun a h => ⟨h.1, h.2.1, h.2.2.1⟩)
def Sa.ok (x : Sa) : Prop := I64 x.blocks ∧ I64 x.gen ∧ (∀ a ∈ x.map, Ex.ok a) ∧ (∀ a ∈ x.points, Po.ok a) ∧ I64 x.last
theorem opn_sa {t : TypeId} {f1 f2 f3 f4 f5 f6 : Field} (ht : P.underlying t = some (.struct #[f1, f2, f3, f4, f5, f6])) (hn : P.cellsOf t = 6) (o1 : f1.offset = 0) (o2 : f2.offset = 1) (o3 : f3.offset = 2) (o4 : f4.offset = 3) (o5 : f5.offset = 4) (o6 : f6.offset = 5) (z1 : P.cellsOf f1.type = 1) (z2 : P.cellsOf f2.type = 1) (z3 : P.cellsOf f3.type = 1) (z4 : P.cellsOf f4.type = 1) (z5 : P.cellsOf f5.type = 1) (z6 : P.cellsOf f6.type = 1) (h1 : P.underlying f1.type = some (.int .i64)) (h2 : P.underlying f2.type = some (.int .i64)) (h3 : Opn P f3.type (fun l : List Ex => [exs l]) (fun l => ∀ a ∈ l, Ex.ok a)) (h4 : Opn P f4.type (fun l : List Po => [pos l]) (fun l => ∀ a ∈ l, Po.ok a)) (h5 : P.underlying f5.type = some (.int .i64)) (h6 : Opn P f6.type (fun l : List UInt8 => [bys l]) (fun _ => True)) :
    Opn P t Sa.cells Sa.ok :=
  (opn_struct ht hn (opnF_cons o1 z1 (opn_int h1) (opnF_cons o2 z2 (opn_int h2) (opnF_cons o3 z3 h3 (opnF_cons o4 z4 h4 (opnF_cons o5 z5 (opn_int h5) (opnF_cons o6 z6 h6 opnF_nil))))))).map (fun a => (⟨a.1, a.2.1, a.2.2.1, a.2.2.2.1, a.2.2.2.2.1, a.2.2.2.2.2.1⟩ : Sa)) _ _ (fun a => rfl) (fun a h => ⟨h.1, h.2.1, h.2.2.1, h.2.2.2.1, h.2.2.2.2.1⟩)
def Ch.ok (x : Ch) : Prop := I64 x.kind ∧ I64 x.lba ∧ I64 x.n ∧ I64 x.id ∧ (∀ a ∈ x.list, Ex.ok a)
end
end Go.Proofs.Ytimcbhhebnikiaa.Ab
