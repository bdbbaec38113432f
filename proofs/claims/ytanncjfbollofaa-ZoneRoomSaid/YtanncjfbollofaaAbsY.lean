/- Plain data as the interpreter's values; functions told as trees of decisions. -/
import Derived.Test.YtanncjfbollofaaAbsX
import Derived.KernelRfl
namespace Go.Proofs.Ytanncjfbollofaa.Ab
open Go
set_option linter.unusedVariables false
set_option linter.unusedSimpArgs false

/-- A zone; bytes. -/
structure Zo where
  st : Int
  rs : Int
  d : List UInt8
  la : Int
  deriving DecidableEq
/-- An extent. -/
structure Ex where
  lba : Int
  len : Int
  kind : Int
  gen : Int
  d : List UInt8
  deriving DecidableEq
def bys (l : List UInt8) : AV := .sl l.length (l.map .y)
def ints (l : List Int) : AV := .sl l.length (l.map .i)
def Zo.av (z : Zo) : AV := .ag [.i z.st, .i z.rs, bys z.d, .i z.la]
def Ex.cells (x : Ex) : List AV := [.i x.lba, .i x.len, .i x.kind, .i x.gen, bys x.d]
def Ex.av (x : Ex) : AV := .ag x.cells
def exs (l : List Ex) : AV := .sl l.length (l.flatMap Ex.cells)
attribute [simp] bys ints Zo.av Ex.av exs
/-- The smaller of two numbers, the greater one, as the machine tells them. -/
def imin (a b : Int) : Int := if b < a then b else a
def imax (a b : Int) : Int := if b > a then b else a
theorem imin_eq (a b : Int) : imin a b = min a b := by unfold imin; omega
theorem imax_eq (a b : Int) : imax a b = max a b := by unfold imax; omega
def au (n : Nat) : List Hint := List.replicate n .auto
def hz : List (Nat × List Hint) → List Hint
  | [] => []
  | (n, l) :: r => au n ++ (l ++ hz r)

@[simp] theorem bytesOf_map : ∀ l : List UInt8, bytesOf (l.map .y) = some l
  | [] => rfl
  | b :: l => by simp [bytesOf, bytesOf_map l]
@[simp] theorem bytesOf_nil : bytesOf [] = some [] := rfl
@[simp] theorem bytesOf_cons (b : UInt8) (l : List AV) : bytesOf (.y b :: l) = (bytesOf l).map (b :: ·) := rfl
@[simp] theorem bytesOf_append : ∀ a b : List AV, bytesOf (a ++ b) = (bytesOf a).bind fun x => (bytesOf b).map (x ++ ·)
  | [], b => by cases h : bytesOf b <;> simp [h]
  | v :: a, b => by
    cases v <;> simp only [List.cons_append, bytesOf, Option.bind_none]
    rw [bytesOf_append a b]
    cases bytesOf a <;> cases bytesOf b <;> simp
@[simp] theorem bytesOf_rep (n : Nat) (b : UInt8) : bytesOf (List.replicate n (.y b)) = some (List.replicate n b) := by
  have := bytesOf_map (List.replicate n b)
  rwa [List.map_replicate] at this
theorem map_y_rep (n : Nat) (b : UInt8) : (repl n [AV.y b]) = (List.replicate n b).map .y := by
  simp [repl]
theorem mapP_id {f : AV → Option (AV × List Nat)} : ∀ {l : List AV}, (∀ v ∈ l, f v = some (v, [])) → mapP f l = some (l, [])
  | [], _ => rfl
  | v :: l, h => by
    simp only [mapP, h v (by simp), mapP_id (l := l) fun u hu => h u (by simp [hu]), List.append_nil]
@[simp] theorem purV_y (h : AH) (fr : Bool) (k : Nat) (b : UInt8) : purV h fr (k + 1) (.y b) = some (.y b, []) := rfl
@[simp] theorem purV_i (h : AH) (fr : Bool) (k : Nat) (b : Int) : purV h fr (k + 1) (.i b) = some (.i b, []) := rfl
@[simp] theorem mapP_append {f : AV → Option (AV × List Nat)} {l m : List AV} (h1 : mapP f l = some (l, [])) (h2 : mapP f m = some (m, [])) : mapP f (l ++ m) = some (l ++ m, []) := by
  induction l with
  | nil => simpa using h2
  | cons v l ih =>
    simp only [mapP] at h1
    cases hv : f v with
    | none => rw [hv] at h1; cases h1
    | some q =>
      obtain ⟨q1, q2⟩ := q
      rw [hv] at h1
      cases hl : mapP f l with
      | none => rw [hl] at h1; cases h1
      | some p =>
        obtain ⟨p1, p2⟩ := p
        rw [hl] at h1
        simp only [Option.some.injEq, Prod.mk.injEq, List.cons.injEq, List.append_eq_nil_iff] at h1
        obtain ⟨⟨rfl, rfl⟩, rfl, rfl⟩ := h1
        simp only [List.cons_append, mapP, hv, ih hl, List.append_nil]
/-- Cells that hold no block of one's own; 'fr': nor anything of an elder slice. -/
def plain (fr : Bool) : AV → Bool
  | .i _ | .y _ | .b _ | .st _ | .sc _ => true
  | .sl _ _ => !fr
  | _ => false
def Pl (fr : Bool) (l : List AV) : Prop := ∀ v ∈ l, plain fr v = true
theorem purV_plain {h : AH} {fr : Bool} {k : Nat} {v : AV} (hv : plain fr v = true) : purV h fr (k + 1) v = some (v, []) := by
  cases v <;> first | rfl | cases hv | skip
  cases fr with
  | true => cases hv
  | false => simp [purV]
@[simp] theorem pur_plain (h : AH) (fr : Bool) (k : Nat) (l : List AV) (hl : Pl fr l) : mapP (purV h fr (k + 1)) l = some (l, []) :=
  mapP_id fun v hv => purV_plain (hl v hv)
@[simp] theorem Pl_nil (fr : Bool) : Pl fr [] := fun _ h => by cases h
@[simp] theorem Pl_cons (fr : Bool) (v : AV) (l : List AV) : Pl fr (v :: l) ↔ plain fr v = true ∧ Pl fr l := by simp [Pl]
@[simp] theorem Pl_append (fr : Bool) (a b : List AV) : Pl fr (a ++ b) ↔ Pl fr a ∧ Pl fr b := by
  simp only [Pl, List.mem_append]
  exact ⟨fun h => ⟨fun v hv => h v (.inl hv), fun v hv => h v (.inr hv)⟩, fun h v hv => hv.elim (h.1 v) (h.2 v)⟩
@[simp] theorem Pl_y (fr : Bool) (l : List UInt8) : Pl fr (l.map .y) := by
  intro v hv
  obtain ⟨b, _, rfl⟩ := List.mem_map.1 hv
  rfl
@[simp] theorem Pl_i (fr : Bool) (l : List Int) : Pl fr (l.map .i) := by
  intro v hv
  obtain ⟨b, _, rfl⟩ := List.mem_map.1 hv
  rfl
@[simp] theorem Pl_take (fr : Bool) (l : List AV) (n : Nat) (h : Pl fr l) : Pl fr (l.take n) := fun v hv => h v (List.mem_of_mem_take hv)
@[simp] theorem Pl_drop (fr : Bool) (l : List AV) (n : Nat) (h : Pl fr l) : Pl fr (l.drop n) := fun v hv => h v (List.mem_of_mem_drop hv)
@[simp] theorem Pl_rep (fr : Bool) (v : AV) (n : Nat) (h : plain fr v = true) : Pl fr (List.replicate n v) := fun u hu => by rw [List.eq_of_mem_replicate hu]; exact h
@[simp] theorem Pl_exs (l : List Ex) : Pl false (l.flatMap Ex.cells) := by
  intro v hv
  obtain ⟨x, _, hx⟩ := List.mem_flatMap.1 hv
  simp only [Ex.cells, bys, List.mem_cons, List.not_mem_nil, or_false] at hx
  rcases hx with rfl | rfl | rfl | rfl | rfl <;> rfl
@[simp] theorem Pl_rep_y (fr : Bool) (b : UInt8) (n : Nat) : Pl fr (List.replicate n (.y b)) := Pl_rep _ _ _ rfl
@[simp] theorem Pl_rep_i (fr : Bool) (b : Int) (n : Nat) : Pl fr (List.replicate n (.i b)) := Pl_rep _ _ _ rfl
@[simp] theorem plain_y1 (fr : Bool) (b : UInt8) : plain fr (.y b) = true := rfl
@[simp] theorem plain_i1 (fr : Bool) (b : Int) : plain fr (.i b) = true := rfl
@[simp] theorem plain_b1 (fr : Bool) (b : Bool) : plain fr (.b b) = true := rfl
@[simp] theorem plain_sl (n : Nat) (cs : List AV) : plain false (.sl n cs) = true := rfl
@[simp] theorem repl_y (n : Nat) (b : UInt8) : repl n [AV.y b] = List.replicate n (AV.y b) := by simp [repl]
@[simp] theorem flat_rep_y (n : Nat) (b : UInt8) : (List.replicate n [AV.y b]).flatten = List.replicate n (AV.y b) := by simp
theorem one_drop (l : List UInt8) (i : Nat) (h : i < l.length) : ((l.map AV.y).drop i).take 1 = [AV.y (l.getD i 0)] := by
  rw [← List.map_drop, ← List.map_take]
  have : (l.drop i).take 1 = [l.getD i 0] := by
    rw [List.drop_eq_getElem_cons h, List.take_succ_cons, List.take_zero]; simp [h]
  rw [this]; rfl

theorem purV_weak {h : AH} : ∀ (k : Nat) (v : AV) (r : AV × List Nat), purV h true k v = some r → purV h false k v = some r
  | 0, v, r, e => by cases e
  | k + 1, v, r, e => by
    have hm : ∀ (l : List AV) (q : List AV × List Nat), mapP (purV h true k) l = some q → mapP (purV h false k) l = some q := by
      intro l
      induction l with
      | nil => exact fun q e => e
      | cons v l ih =>
        intro q e
        simp only [mapP] at e ⊢
        cases hv : purV h true k v with
        | none => rw [hv] at e; cases e
        | some a =>
          rw [hv] at e
          rw [purV_weak k v a hv]
          cases hl : mapP (purV h true k) l with
          | none => rw [hl] at e; cases e
          | some b => rw [hl] at e; rw [ih b hl]; exact e
    cases v with
    | sl n cs =>
      simp only [purV] at e ⊢
      split at e
      · cases e
      · simpa using e
    | rf b z off n =>
      simp only [purV] at e ⊢
      split at e
      · rename_i cs hcs
        split at e
        · rename_i hle
          rw [if_pos hle]
          cases hl : mapP (purV h true k) ((cs.drop off).take (n * z)) with
          | none => rw [hl] at e; cases e
          | some b => rw [hl] at e; rw [hm _ _ hl]; exact e
        · cases e
      · cases e
    | ag xs =>
      simp only [purV] at e ⊢
      cases hl : mapP (purV h true k) xs with
      | none => rw [hl] at e; cases e
      | some b => rw [hl] at e; rw [hm _ _ hl]; exact e
    | tu xs =>
      simp only [purV] at e ⊢
      cases hl : mapP (purV h true k) xs with
      | none => rw [hl] at e; cases e
      | some b => rw [hl] at e; rw [hm _ _ hl]; exact e
    | ip cs => simp [purV] at e
    | _ => exact e
section
variable {P : Program} {cf : Cfg}
theorem EvFr.any {fr : Bool} {f : FuncId} {args : List AV} {v : AV} (h : EvFr P cf true f args v) : EvFr P cf fr f args v := by
  obtain ⟨v1, h1, bs, e1, e2⟩ := h
  refine ⟨v1, h1, bs, e1, ?_⟩
  cases fr with
  | true => exact e2
  | false => exact purV_weak _ _ _ e2
theorem EvFr.cast {fr : Bool} {f : FuncId} {args args' : List AV} {v : AV} (h : EvFr P cf fr f args v) (e : args = args') : EvFr P cf fr f args' v := e ▸ h
theorem leafR {k : Nat} {fr : Bool} {f : FuncId} {args : List AV} {hs : List Hint} {raw v : AV} {ps : List Prop} {r : List Hint} (h : exec P cf (funR P cf k fr f args) hs = some (raw, ps, r)) (hp : All ps) (hv : raw = v) : EvFr P cf fr f args v :=
  hv ▸ pathR h hp
/-- A whole call by evaluation. -/
theorem EvFr.of_aCall {k : Nat} {f : FuncId} {args : List AV} {v : AV} (h : aCall P cf k f args = some v) : EvFr P cf false f args v := by
  unfold aCall at h
  split at h
  · rename_i v1 h1 he
    cases hp : purV h1 false depthA v1 with
    | none => rw [hp] at h; cases h
    | some q =>
      obtain ⟨q1, q2⟩ := q
      rw [hp] at h
      simp only [Option.map_some, Option.some.injEq] at h
      subst h
      exact ⟨v1, h1, q2, fun g => ⟨aCode P cf k, aCode_sound g.mixed g.clones k, he⟩, hp⟩
  · cases h
theorem purV_bool {h : AH} {fr : Bool} {k : Nat} {v : AV} {b : Bool} {bs : List Nat} (e : purV h fr (k + 1) v = some (.b b, bs)) : v = .b b ∧ bs = [] := by
  cases v with
  | b c => simp only [purV, Option.some.injEq, Prod.mk.injEq, AV.b.injEq] at e; obtain ⟨rfl, rfl⟩ := e; exact ⟨rfl, rfl⟩
  | rf bb z off n =>
    simp only [purV] at e
    split at e
    · split at e
      · split at e <;> simp at e
      · cases e
    · cases e
  | ag xs => simp only [purV] at e; cases hm : mapP (purV h fr k) xs <;> rw [hm] at e <;> simp at e
  | tu xs => simp only [purV] at e; cases hm : mapP (purV h fr k) xs <;> rw [hm] at e <;> simp at e
  | fn f cap => cases cap <;> simp [purV] at e
  | sl n cs => simp only [purV] at e; split at e <;> simp at e
  | ip cs => simp only [purV] at e; split at e <;> simp at e
  | _ => simp [purV] at e
theorem EvFr.of_bool {fr : Bool} {k : Nat} {f : FuncId} {args : List AV} {b : Bool} (h : aCall P cf k f args = some (.b b)) : EvFr P cf fr f args (.b b) := by
  obtain ⟨v1, h1, bs, e1, e2⟩ := EvFr.of_aCall h
  obtain ⟨rfl, rfl⟩ := purV_bool (k := 11) e2
  exact ⟨_, h1, [], e1, rfl⟩
/-- A law's call. -/
theorem fr_calls (g : Good P cf) {f : FuncId} {args : List AV} {r : AV} (h : EvFr P cf false f args r) {C : Ctx} {w : World} {vs : List Value} {R : Ending → World → Prop}
    (hS : Sim C AH.empty.get w) (hφ : ∀ b, C.φ b = none) (hl : LRel C w false args vs) (hR : ∀ C' w' x, Step C w C' w' → (∀ b, C'.φ b = none) → VRel C' w' r x → R (.returned x) w') : Calls P f vs.toArray w R := by
  obtain ⟨v, h1, bs, he, hp⟩ := h
  obtain ⟨rec, hrec, he⟩ := he g
  obtain ⟨_, hfn, hE⟩ := enterA_rel hrec he
  refine callsIn_wide.1 (hE C w vs 0 R hS (fun b _ => hφ b) hl fun C' w' x g1 g2 g3 g4 => ?_)
  have hv := purV_rel g2 false depthA v r bs x hp (fun _ _ => rfl) g4
  refine hR (PC C' false bs) w' x ⟨fun b rb e => ?_, fun b rb e => (by cases e), fun b e => .inl ⟨rfl, g1.imm b e⟩, fun b e => ?_, g1.size, g1.keep, g1.immkeep, g1.sizes, g1.env⟩ (fun _ => rfl) hv
  · rw [hφ] at e; cases e
  · rcases e with ⟨_, e⟩ | ⟨i, _, e⟩
    · rcases g1.immnew b e with g | g | ⟨i, g⟩
      · exact .inl g
      · exact .inr (.inl g)
      · exact .inr (.inr ⟨i, g⟩)
    · rcases g1.φnew i b e with g | g | ⟨j, g⟩
      · exact .inr (.inr ⟨i, g⟩)
      · exact .inr (.inl g)
      · exact .inr (.inr ⟨j, g⟩)
theorem true_below' (hm : P.follows .mixedOrders = true) (hcl : CloneOk P cf.clone) {f : FuncId} {args : List AV} (h : EvFr P cf false f args (.b true)) {w : World} {vs : List Value} (hl : LRel (C0 w) w false args vs) :
    Calls P f vs.toArray w fun e w' => e = .returned (.bool true) ∧ RowKit.Below w.heap.size w w' := by
  refine fr_calls ⟨hm, hcl⟩ h (sim_C0 w) (fun _ => rfl) hl fun C' w' x hs _ hv => ?_
  simp only [VRel] at hv
  subst hv
  have he := hs.env
  simp only [envOf, Prod.mk.injEq] at he
  exact ⟨rfl, he.1, he.2.1, he.2.2, hs.size, fun b hb => hs.keep b hb fun i e => by cases e⟩
end

/-! ### Trees -/
section
variable {α β : Type}
def tb (c : Bool) (x y : Option α) : Option α := bif c then x else y
def tp (p : Prop) [Decidable p] (x : Option α) : Option α := if p then x else none
def tc (m : Option β) (f : β → Option α) : Option α := m.bind f
theorem tb_ok {c : Bool} {x y : Option α} {r : α} {G : Prop} (h1 : c = true → x = some r → G) (h2 : c = false → y = some r → G) (h : tb c x y = some r) : G := by
  cases c with
  | true => exact h1 rfl h
  | false => exact h2 rfl h
theorem tp_ok {p : Prop} [Decidable p] {x : Option α} {r : α} {G : Prop} (h1 : p → x = some r → G) (h : tp p x = some r) : G := by
  unfold tp at h
  split at h
  · rename_i hp; exact h1 hp h
  · cases h
theorem tc_ok {m : Option β} {f : β → Option α} {r : α} {G : Prop} (h1 : ∀ s, m = some s → f s = some r → G) (h : tc m f = some r) : G := by
  unfold tc at h
  cases hm : m with
  | none => rw [hm] at h; cases h
  | some s => rw [hm] at h; exact h1 s hm h
theorem tl_ok {v r : α} {G : α → Prop} (h : G v) (e : some v = some r) : G r := by
  injection e with e; exact e ▸ h
end
end Go.Proofs.Ytanncjfbollofaa.Ab
