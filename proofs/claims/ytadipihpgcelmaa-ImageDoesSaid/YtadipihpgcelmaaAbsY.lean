/- Plain data as the interpreter's values; functions told as trees of decisions. -/
import Derived.Test.YtadipihpgcelmaaAbsX
import Derived.KernelRfl
namespace Go.Proofs.Ytadipihpgcelmaa.Ab
open Go
set_option linter.unusedVariables false
set_option linter.unusedSimpArgs false

def bys (l : List UInt8) : AV := .sl l.length (l.map .y)
def ints (l : List Int) : AV := .sl l.length (l.map .i)
def bools (l : List Bool) : AV := .sl l.length (l.map .b)
/-- Just as many bytes: cut, or filled up. -/
def pad (n : Nat) (l : List UInt8) : List UInt8 := (l ++ List.replicate n 0).take n
@[simp] theorem pad_len (n : Nat) (l : List UInt8) : (pad n l).length = n := by simp [pad]
@[simp] theorem pad_pad (n : Nat) (l : List UInt8) : pad n (pad n l) = pad n l := by
  rw [pad, List.take_append_of_le_length (by simp), List.take_of_length_le (by simp)]
@[simp] theorem pad_set (n : Nat) (l : List UInt8) (i : Nat) (b : UInt8) : pad n ((pad n l).set i b) = (pad n l).set i b := by
  rw [pad, List.take_append_of_le_length (by simp), List.take_of_length_le (by simp)]
theorem pad_takeC {n : Nat} {x : List UInt8} {cs : List AV} (e : cs = (x.take n).map .y) (h : n ≤ x.length) : cs = (pad n x).map .y := by
  rw [e, pad, List.take_append_of_le_length h]
theorem pad_of {n : Nat} {l : List UInt8} (h : l.length = n) : pad n l = l := by subst h; simp [pad]
attribute [simp] bys ints bools
/-! KINDS A -/
/-- A zone. -/
structure Zo where
  st : Int
  rs : Int
  d : List UInt8
  la : Int
  deriving DecidableEq
def Zo.cells (x : Zo) : List AV := [.i x.st, .i x.rs, bys x.d, .i x.la]
def Zo.av (x : Zo) : AV := .ag x.cells
def zos (l : List Zo) : AV := .sl l.length (l.flatMap Zo.cells)
def zoAt (l : List Zo) (i : Nat) : Zo := l.getD i ⟨0, 0, [], 0⟩
/-- An extent. -/
structure Ex where
  lba : Int
  len : Int
  kind : Int
  gen : Int
  d : List UInt8
  deriving DecidableEq
def Ex.cells (x : Ex) : List AV := [.i x.lba, .i x.len, .i x.kind, .i x.gen, bys x.d]
def Ex.av (x : Ex) : AV := .ag x.cells
def exs (l : List Ex) : AV := .sl l.length (l.flatMap Ex.cells)
def exAt (l : List Ex) (i : Nat) : Ex := l.getD i ⟨0, 0, 0, 0, []⟩
/-- A step of a zone's law. -/
structure Sp where
  k : Int
  d : List UInt8
  n : Int
  deriving DecidableEq
def Sp.cells (x : Sp) : List AV := [.i x.k, bys x.d, .i x.n]
def Sp.av (x : Sp) : AV := .ag x.cells
def sps (l : List Sp) : AV := .sl l.length (l.flatMap Sp.cells)
def spAt (l : List Sp) (i : Nat) : Sp := l.getD i ⟨0, [], 0⟩
/-- A block. -/
structure Ce where
  kind : Int
  gen : Int
  d : List UInt8
  deriving DecidableEq
def Ce.cells (x : Ce) : List AV := .i x.kind :: .i x.gen :: (pad 32 x.d).map .y
def Ce.av (x : Ce) : AV := .ag x.cells
def ces (l : List Ce) : AV := .sl l.length (l.flatMap Ce.cells)
def ceAt (l : List Ce) (i : Nat) : Ce := l.getD i ⟨0, 0, []⟩
/-- A checkpoint. -/
structure Po where
  id : Int
  gen : Int
  map : List Ex
  deriving DecidableEq
def Po.cells (x : Po) : List AV := [.i x.id, .i x.gen, exs x.map]
def Po.av (x : Po) : AV := .ag x.cells
def pos (l : List Po) : AV := .sl l.length (l.flatMap Po.cells)
def poAt (l : List Po) (i : Nat) : Po := l.getD i ⟨0, 0, []⟩
/-- A state. -/
structure Sa where
  blocks : Int
  gen : Int
  map : List Ex
  points : List Po
  last : Int
  staged : List UInt8
  deriving DecidableEq
def Sa.cells (x : Sa) : List AV := [.i x.blocks, .i x.gen, exs x.map, pos x.points, .i x.last, bys x.staged]
def Sa.av (x : Sa) : AV := .ag x.cells
def sas (l : List Sa) : AV := .sl l.length (l.flatMap Sa.cells)
def saAt (l : List Sa) (i : Nat) : Sa := l.getD i ⟨0, 0, [], [], 0, []⟩
/-- A change. -/
structure Ch where
  kind : Int
  lba : Int
  n : Int
  id : Int
  d : List UInt8
  list : List Ex
  deriving DecidableEq
def Ch.cells (x : Ch) : List AV := [.i x.kind, .i x.lba, .i x.n, .i x.id, bys x.d, exs x.list]
def Ch.av (x : Ch) : AV := .ag x.cells
def chs (l : List Ch) : AV := .sl l.length (l.flatMap Ch.cells)
def chAt (l : List Ch) (i : Nat) : Ch := l.getD i ⟨0, 0, 0, 0, [], []⟩
/-- A stream. -/
structure Sm where
  blocks : Int
  parent : Int
  target : Int
  list : List Ex
  deriving DecidableEq
def Sm.cells (x : Sm) : List AV := [.i x.blocks, .i x.parent, .i x.target, exs x.list]
def Sm.av (x : Sm) : AV := .ag x.cells
def sms (l : List Sm) : AV := .sl l.length (l.flatMap Sm.cells)
def smAt (l : List Sm) (i : Nat) : Sm := l.getD i ⟨0, 0, 0, []⟩
attribute [simp] Zo.av zos Ex.av exs Sp.av sps Ce.av ces Po.av pos Sa.av sas Ch.av chs Sm.av sms
/-! KINDS A END -/
/-- The smaller of two numbers, the greater one, as the machine tells them. -/
abbrev wr (n : Int) : Int := IntKind.i64.wrap n
def imin (a b : Int) : Int := if b < a then b else a
def imax (a b : Int) : Int := if b > a then b else a
theorem imin_eq (a b : Int) : imin a b = min a b := by unfold imin; omega
theorem imax_eq (a b : Int) : imax a b = max a b := by unfold imax; omega
def au (n : Nat) : List Hint := List.replicate n .auto
def hz : List (Nat × List Hint) → List Hint
  | [] => []
  | (n, l) :: r => au n ++ (l ++ hz r)

@[simp] theorem bytesOf_map : ∀ l : List UInt8, bytesOf (l.map .y) = some l
  | [] => rfl
  | b :: l => by simp [bytesOf, bytesOf_map l]
@[simp] theorem bytesOf_take_y (n : Nat) (l : List UInt8) : bytesOf (List.take n (List.map AV.y l)) = some (List.take n l) := by rw [← List.map_take]; exact bytesOf_map _
@[simp] theorem bytesOf_drop_y (n : Nat) (l : List UInt8) : bytesOf (List.drop n (List.map AV.y l)) = some (List.drop n l) := by rw [← List.map_drop]; exact bytesOf_map _
@[simp] theorem bytesOf_take_drop_y (n k : Nat) (l : List UInt8) : bytesOf (List.take n (List.drop k (List.map AV.y l))) = some (List.take n (List.drop k l)) := by rw [← List.map_drop, ← List.map_take]; exact bytesOf_map _
@[simp] theorem bytesOf_nil : bytesOf [] = some [] := rfl
@[simp] theorem bytesOf_cons (b : UInt8) (l : List AV) : bytesOf (.y b :: l) = (bytesOf l).map (b :: ·) := rfl
@[simp] theorem bytesOf_append : ∀ a b : List AV, bytesOf (a ++ b) = (bytesOf a).bind fun x => (bytesOf b).map (x ++ ·)
  | [], b => by cases h : bytesOf b <;> simp [h]
  | v :: a, b => by
    cases v <;> simp only [List.cons_append, bytesOf, Option.bind_none]
    rw [bytesOf_append a b]
    cases bytesOf a <;> cases bytesOf b <;> simp
@[simp] theorem bytesOf_rep (n : Nat) (b : UInt8) : bytesOf (List.replicate n (.y b)) = some (List.replicate n b) := by
  have := bytesOf_map (List.replicate n b)
  rwa [List.map_replicate] at this
theorem eqCells_y : ∀ (a b : List UInt8), a.length = b.length → eqCells (a.map .y) (b.map .y) = some (a == b)
  | [], [], _ => rfl
  | [], _ :: _, h => by cases h
  | _ :: _, [], h => by cases h
  | x :: a, y :: b, h => by
    simp only [List.map_cons, eqCells, eqCell, eqCells_y a b (by simpa using h)]
    rfl
theorem eqCells_of {a b : List UInt8} {xs ys : List AV} (e1 : xs = a.map .y) (e2 : ys = b.map .y) (h : a.length = b.length) : eqCells xs ys = some (a == b) := by
  subst e1; subst e2; exact eqCells_y a b h
theorem eqCells_ci {x y : Int} {as bs : List AV} {r : Bool} (h : eqCells as bs = some r) : eqCells (.i x :: as) (.i y :: bs) = some (x == y && r) := by
  simp only [eqCells, eqCell, h]
@[simp] theorem take_map_len {α : Type} (f : α → AV) (l : List α) : List.take l.length (l.map f) = l.map f := List.take_of_length_le (by simp)
theorem map_y_rep (n : Nat) (b : UInt8) : (repl n [AV.y b]) = (List.replicate n b).map .y := by
  simp [repl]
@[simp] theorem purV_y (h : AH) (fr : Bool) (k : Nat) (b : UInt8) : purV h fr (k + 1) (.y b) = some (.y b, []) := rfl
@[simp] theorem purV_i (h : AH) (fr : Bool) (k : Nat) (b : Int) : purV h fr (k + 1) (.i b) = some (.i b, []) := rfl
@[simp] theorem mapP_append {f : AV → Option (AV × List Nat)} {l m : List AV} (h1 : mapP f l = some (l, [])) (h2 : mapP f m = some (m, [])) : mapP f (l ++ m) = some (l ++ m, []) := by
  induction l with
  | nil => simpa using h2
  | cons v l ih =>
    simp only [mapP] at h1
    cases hv : f v with
    | none => rw [hv] at h1; cases h1
    | some q =>
      obtain ⟨q1, q2⟩ := q
      rw [hv] at h1
      cases hl : mapP f l with
      | none => rw [hl] at h1; cases h1
      | some p =>
        obtain ⟨p1, p2⟩ := p
        rw [hl] at h1
        simp only [Option.some.injEq, Prod.mk.injEq, List.cons.injEq, List.append_eq_nil_iff] at h1
        obtain ⟨⟨rfl, rfl⟩, rfl, rfl⟩ := h1
        simp only [List.cons_append, mapP, hv, ih hl, List.append_nil]
@[simp] theorem Pl_nil (fr : Bool) : Pl fr [] := fun _ h => by cases h
@[simp] theorem Pl_cons (fr : Bool) (v : AV) (l : List AV) : Pl fr (v :: l) ↔ plain fr v = true ∧ Pl fr l := by simp [Pl]
@[simp] theorem Pl_append (fr : Bool) (a b : List AV) : Pl fr (a ++ b) ↔ Pl fr a ∧ Pl fr b := by
  simp only [Pl, List.mem_append]
  exact ⟨fun h => ⟨fun v hv => h v (.inl hv), fun v hv => h v (.inr hv)⟩, fun h v hv => hv.elim (h.1 v) (h.2 v)⟩
@[simp] theorem Pl_y (fr : Bool) (l : List UInt8) : Pl fr (l.map .y) := by
  intro v hv
  obtain ⟨b, _, rfl⟩ := List.mem_map.1 hv
  rfl
@[simp] theorem Pl_i (fr : Bool) (l : List Int) : Pl fr (l.map .i) := by
  intro v hv
  obtain ⟨b, _, rfl⟩ := List.mem_map.1 hv
  rfl
@[simp] theorem Pl_take (fr : Bool) (l : List AV) (n : Nat) (h : Pl fr l) : Pl fr (l.take n) := fun v hv => h v (List.mem_of_mem_take hv)
@[simp] theorem Pl_drop (fr : Bool) (l : List AV) (n : Nat) (h : Pl fr l) : Pl fr (l.drop n) := fun v hv => h v (List.mem_of_mem_drop hv)
@[simp] theorem Pl_rep (fr : Bool) (v : AV) (n : Nat) (h : plain fr v = true) : Pl fr (List.replicate n v) := fun u hu => by rw [List.eq_of_mem_replicate hu]; exact h
@[simp] theorem Pl_rep_y (fr : Bool) (b : UInt8) (n : Nat) : Pl fr (List.replicate n (.y b)) := Pl_rep _ _ _ rfl
@[simp] theorem Pl_rep_i (fr : Bool) (b : Int) (n : Nat) : Pl fr (List.replicate n (.i b)) := Pl_rep _ _ _ rfl
@[simp] theorem plain_y1 (fr : Bool) (b : UInt8) : plain fr (.y b) = true := rfl
@[simp] theorem plain_i1 (fr : Bool) (b : Int) : plain fr (.i b) = true := rfl
@[simp] theorem plain_b1 (fr : Bool) (b : Bool) : plain fr (.b b) = true := rfl
@[simp] theorem plain_sl (n : Nat) (cs : List AV) : plain false (.sl n cs) = true := rfl
@[simp] theorem repl_y (n : Nat) (b : UInt8) : repl n [AV.y b] = List.replicate n (AV.y b) := by simp [repl]
@[simp] theorem flat_rep_y (n : Nat) (b : UInt8) : (List.replicate n [AV.y b]).flatten = List.replicate n (AV.y b) := by simp
theorem one_drop (l : List UInt8) (i : Nat) (h : i < l.length) : ((l.map AV.y).drop i).take 1 = [AV.y (l.getD i 0)] := by
  rw [← List.map_drop, ← List.map_take]
  have : (l.drop i).take 1 = [l.getD i 0] := by
    rw [List.drop_eq_getElem_cons h, List.take_succ_cons, List.take_zero]; simp [h]
  rw [this]; rfl

theorem purV_weak {h : AH} : ∀ (k : Nat) (v : AV) (r : AV × List Nat), purV h true k v = some r → purV h false k v = some r
  | 0, v, r, e => by cases e
  | k + 1, v, r, e => by
    have hm : ∀ (l : List AV) (q : List AV × List Nat), mapP (purV h true k) l = some q → mapP (purV h false k) l = some q := by
      intro l
      induction l with
      | nil => exact fun q e => e
      | cons v l ih =>
        intro q e
        simp only [mapP] at e ⊢
        cases hv : purV h true k v with
        | none => rw [hv] at e; cases e
        | some a =>
          rw [hv] at e
          rw [purV_weak k v a hv]
          cases hl : mapP (purV h true k) l with
          | none => rw [hl] at e; cases e
          | some b => rw [hl] at e; rw [ih b hl]; exact e
    cases v with
    | sl n cs =>
      simp only [purV] at e ⊢
      split at e
      · cases e
      · simpa using e
    | rf b z off n =>
      simp only [purV] at e ⊢
      split at e
      · rename_i cs hcs
        split at e
        · rename_i hle
          rw [if_pos hle]
          cases hl : mapP (purV h true k) ((cs.drop off).take (n * z)) with
          | none => rw [hl] at e; cases e
          | some b => rw [hl] at e; rw [hm _ _ hl]; exact e
        · cases e
      · cases e
    | ag xs =>
      simp only [purV] at e ⊢
      cases hl : mapP (purV h true k) xs with
      | none => rw [hl] at e; cases e
      | some b => rw [hl] at e; rw [hm _ _ hl]; exact e
    | tu xs =>
      simp only [purV] at e ⊢
      cases hl : mapP (purV h true k) xs with
      | none => rw [hl] at e; cases e
      | some b => rw [hl] at e; rw [hm _ _ hl]; exact e
    | ip cs => simp [purV] at e
    | _ => exact e
section
variable {P : Program} {cf : Cfg}
theorem EvFr.any {fr : Bool} {f : FuncId} {args : List AV} {v : AV} (h : EvFr P cf true f args v) : EvFr P cf fr f args v := by
  obtain ⟨v1, h1, bs, e1, e2⟩ := h
  refine ⟨v1, h1, bs, e1, ?_⟩
  cases fr with
  | true => exact e2
  | false => exact purV_weak _ _ _ e2
theorem EvFr.cast {fr : Bool} {f : FuncId} {args args' : List AV} {v : AV} (h : EvFr P cf fr f args v) (e : args = args') : EvFr P cf fr f args' v := e ▸ h
theorem leafR {V : View} (hV : V = View.of P) {k : Nat} {fr : Bool} {f : FuncId} {args : List AV} {hs : List Hint} {raw v : AV} {ps : List Prop} {r : List Hint} (h : exec P cf (funR V cf k fr f args) hs = some (raw, ps, r)) (hp : All ps) (hv : raw = v) : EvFr P cf fr f args v := by
  subst hV
  exact hv ▸ pathR h hp
theorem mapP_weak {h : AH} (k : Nat) : ∀ (l : List AV) (q : List AV × List Nat), mapP (purV h true k) l = some q → mapP (purV h false k) l = some q
  | [], q, e => e
  | v :: l, q, e => by
    simp only [mapP] at e ⊢
    cases hv : purV h true k v with
    | none => rw [hv] at e; cases e
    | some a =>
      rw [hv] at e
      rw [purV_weak k v a hv]
      cases hl : mapP (purV h true k) l with
      | none => rw [hl] at e; cases e
      | some b => rw [hl] at e; rw [mapP_weak k l b hl]; exact e
theorem purEs_weak {h : AH} : ∀ (l q : List (AV × AV)), purEs h true l = some q → purEs h false l = some q
  | [], q, e => e
  | (k, v) :: l, q, e => by
    cases k <;> simp only [purEs] at e ⊢ <;> first | (cases e; done) | skip
    cases hv : purV h true depthA v with
    | none => rw [hv] at e; simp at e
    | some a =>
      cases hl : purEs h true l with
      | none => rw [hv, hl] at e; simp at e
      | some b => rw [hv, hl] at e; rw [purV_weak _ v a hv, purEs_weak l b hl]; exact e
theorem thaw1_weak {z : Nat} {h0 h1 h : AH} {v : AV} {x : AV × AH} (e : thaw1 z h0 h1 true h v = some x) : thaw1 z h0 h1 false h v = some x := by
  cases v with
  | nl => exact e
  | rf b z off n =>
    simp only [thaw1] at e ⊢
    cases hc : h0.cells b with
    | none => rw [hc] at e; cases e
    | some cs =>
      simp only [hc] at e ⊢
      split at e
      · rename_i hp
        rw [if_pos hp]
        cases hm : mapP (purV h1 true depthA) cs with
        | none => rw [hm] at e; cases e
        | some q => rw [hm] at e; rw [mapP_weak _ _ q hm]; exact e
      · cases e
  | mp b =>
    simp only [thaw1] at e ⊢
    split at e
    · rename_i es hes
      cases hm : purEs h1 true es with
      | none => rw [hm] at e; cases e
      | some q => rw [hm] at e; simp only [purEs_weak _ q hm]; exact e
    · cases e
  | _ =>
    simp only [thaw1] at e ⊢
    split at e
    · rename_i hv
      rw [purV_weak _ _ _ hv]
      exact e
    · cases e
theorem thawL_weak {h0 h1 : AH} : ∀ {zs : List Nat} {h : AH} {l : List AV} {x : List AV × AH}, thawL h0 h1 true zs h l = some x → thawL h0 h1 false zs h l = some x
  | _, h, [], x, e => e
  | zs, h, v :: l, x, e => by
    simp only [thawL] at e ⊢
    cases hv : thaw1 (zs.headD 0) h0 h1 true h v with
    | none => rw [hv] at e; cases e
    | some a =>
      obtain ⟨a1, a2⟩ := a
      rw [hv] at e
      rw [thaw1_weak hv]
      simp only at e ⊢
      cases hl : thawL h0 h1 true zs.tail a2 l with
      | none => rw [hl] at e; cases e
      | some b => rw [hl] at e; rw [thawL_weak hl]; exact e
theorem thawA_weak {zs : List Nat} {h0 h1 h : AH} {v : AV} {x : AV × AH} (e : thawA zs h0 h1 true h v = some x) : thawA zs h0 h1 false h v = some x := by
  cases v
  case ag xs =>
    simp only [thawA] at e ⊢
    cases hl : thawL h0 h1 true zs h xs with
    | none => rw [hl] at e; cases e
    | some b => rw [hl] at e; rw [thawL_weak hl]; exact e
  all_goals (simp only [thawA] at e ⊢; exact thaw1_weak e)
theorem thawT_weak {h0 h1 : AH} : ∀ {zss : List (List Nat)} {h : AH} {l : List AV} {x : List AV × AH}, thawT h0 h1 true zss h l = some x → thawT h0 h1 false zss h l = some x
  | _, h, [], x, e => e
  | zss, h, v :: l, x, e => by
    simp only [thawT] at e ⊢
    cases hv : thawA (zss.headD []) h0 h1 true h v with
    | none => rw [hv] at e; cases e
    | some a =>
      obtain ⟨a1, a2⟩ := a
      rw [hv] at e
      rw [thawA_weak hv]
      simp only at e ⊢
      cases hl : thawT h0 h1 true zss.tail a2 l with
      | none => rw [hl] at e; cases e
      | some b => rw [hl] at e; rw [thawT_weak hl]; exact e
theorem thaw_weak {zss : List (List Nat)} {h0 h1 h : AH} {v : AV} {x : AV × AH} (e : thaw zss h0 h1 true h v = some x) : thaw zss h0 h1 false h v = some x := by
  cases v
  case tu xs =>
    simp only [thaw] at e ⊢
    cases hl : thawT h0 h1 true zss h xs with
    | none => rw [hl] at e; cases e
    | some b => rw [hl] at e; rw [thawT_weak hl]; exact e
  all_goals (simp only [thaw] at e ⊢; exact thawA_weak e)
theorem EvOw.any {fr : Bool} {zss : List (List Nat)} {f : FuncId} {args : List AV} {v : AV} (h : EvOw P cf true zss f args v) : EvOw P cf fr zss f args v := by
  intro H
  obtain ⟨v1, h1, h2, e1, e2, e3⟩ := h H
  refine ⟨v1, h1, h2, e1, e2, ?_⟩
  cases fr with
  | true => exact e3
  | false => exact thaw_weak e3
theorem EvOw.cast {fr : Bool} {zss : List (List Nat)} {f : FuncId} {args args' : List AV} {v : AV} (h : EvOw P cf fr zss f args v) (e : args = args') : EvOw P cf fr zss f args' v := e ▸ h
theorem leafO {V : View} (hV : V = View.of P) {k : Nat} {fr : Bool} {zss : List (List Nat)} {f : FuncId} {args : List AV} {hs : List Hint} {R : AH → AV × AH} {v : AV} {ps : List Prop} {r : List Hint} (h : ∀ H, exec P cf (funO V cf k fr zss f args H) hs = some (R H, ps, r)) (hp : All ps) (hv : ∀ H, R H = ownV zss v H) : EvOw P cf fr zss f args v := by
  subst hV
  exact fun H => hv H ▸ pathO (h H) hp
/-- A whole call by evaluation. -/
theorem EvFr.of_aCall {k : Nat} {f : FuncId} {args : List AV} {v : AV} (h : aCall P cf k f args = some v) : EvFr P cf false f args v := by
  unfold aCall at h
  split at h
  · rename_i v1 h1 he
    cases hp : purV h1 false depthA v1 with
    | none => rw [hp] at h; cases h
    | some q =>
      obtain ⟨q1, q2⟩ := q
      rw [hp] at h
      simp only [Option.map_some, Option.some.injEq] at h
      subst h
      exact ⟨v1, h1, q2, fun g => ⟨aCode P cf k, aCode_sound g.mixed g.clones k, he⟩, hp⟩
  · cases h
theorem purV_bool {h : AH} {fr : Bool} {k : Nat} {v : AV} {b : Bool} {bs : List Nat} (e : purV h fr (k + 1) v = some (.b b, bs)) : v = .b b ∧ bs = [] := by
  cases v with
  | b c => simp only [purV, Option.some.injEq, Prod.mk.injEq, AV.b.injEq] at e; obtain ⟨rfl, rfl⟩ := e; exact ⟨rfl, rfl⟩
  | rf bb z off n =>
    simp only [purV] at e
    split at e
    · split at e
      · split at e <;> simp at e
      · cases e
    · cases e
  | ag xs => simp only [purV] at e; cases hm : mapP (purV h fr k) xs <;> rw [hm] at e <;> simp at e
  | tu xs => simp only [purV] at e; cases hm : mapP (purV h fr k) xs <;> rw [hm] at e <;> simp at e
  | fn f cap => cases cap <;> simp [purV] at e
  | sl n cs => simp only [purV] at e; split at e <;> simp at e
  | ip cs => simp only [purV] at e; split at e <;> simp at e
  | _ => simp [purV] at e
theorem EvFr.of_bool {fr : Bool} {k : Nat} {f : FuncId} {args : List AV} {b : Bool} (h : aCall P cf k f args = some (.b b)) : EvFr P cf fr f args (.b b) := by
  obtain ⟨v1, h1, bs, e1, e2⟩ := EvFr.of_aCall h
  obtain ⟨rfl, rfl⟩ := purV_bool (k := 11) e2
  exact ⟨_, h1, [], e1, rfl⟩
/-- A law's call. -/
theorem fr_calls (g : Good P cf) {f : FuncId} {args : List AV} {r : AV} (h : EvFr P cf false f args r) {C : Ctx} {w : World} {vs : List Value} {R : Ending → World → Prop}
    (hS : Sim C AH.empty.get w) (hφ : ∀ b, C.φ b = none) (hl : LRel C w false args vs) (hR : ∀ C' w' x, Step C w C' w' → (∀ b, C'.φ b = none) → VRel C' w' r x → R (.returned x) w') : Calls P f vs.toArray w R := by
  obtain ⟨v, h1, bs, he, hp⟩ := h
  obtain ⟨rec, hrec, he⟩ := he g
  obtain ⟨_, hfn, hE⟩ := enterA_rel hrec he
  refine callsIn_wide.1 (hE C w vs 0 R hS (fun b _ => hφ b) hl fun C' w' x g1 g2 g3 g4 => ?_)
  have hv := purV_rel g2 false depthA v r bs x hp (fun _ _ => rfl) g4
  refine hR (PC C' false bs) w' x ⟨fun b rb e => ?_, fun b rb e => (by cases e), fun b e => .inl ⟨rfl, g1.imm b e⟩, fun b e => ?_, g1.size, g1.keep, g1.immkeep, g1.sizes, g1.env⟩ (fun _ => rfl) hv
  · rw [hφ] at e; cases e
  · rcases e with ⟨_, e⟩ | ⟨i, _, e⟩
    · rcases g1.immnew b e with g | g | ⟨i, g⟩
      · exact .inl g
      · exact .inr (.inl g)
      · exact .inr (.inr ⟨i, g⟩)
    · rcases g1.φnew i b e with g | g | ⟨j, g⟩
      · exact .inr (.inr ⟨i, g⟩)
      · exact .inr (.inl g)
      · exact .inr (.inr ⟨j, g⟩)
theorem true_below' (hm : P.follows .mixedOrders = true) (hcl : CloneOk P cf.clone) {f : FuncId} {args : List AV} (h : EvFr P cf false f args (.b true)) {w : World} {vs : List Value} (hl : LRel (C0 w) w false args vs) :
    Calls P f vs.toArray w fun e w' => e = .returned (.bool true) ∧ RowKit.Below w.heap.size w w' := by
  refine fr_calls ⟨hm, hcl⟩ h (sim_C0 w) (fun _ => rfl) hl fun C' w' x hs _ hv => ?_
  simp only [VRel] at hv
  subst hv
  have he := hs.env
  simp only [envOf, Prod.mk.injEq] at he
  exact ⟨rfl, he.1, he.2.1, he.2.2, hs.size, fun b hb => hs.keep b hb fun i e => by cases e⟩
end

/-! ### A program's types and functions in tables -/
def tiGet (P : Program) : List (Nat × TI) → Nat → Option TI
  | [], t => tinfo P t
  | (u, i) :: l, t => bif Nat.beq u t then some i else tiGet P l t
def faGet (P : Program) : List (Nat × AF) → Nat → Option AF
  | [], t => afun P t
  | (u, i) :: l, t => bif Nat.beq u t then some i else faGet P l t
theorem tiGet_eq {P : Program} : ∀ {l : List (Nat × TI)}, (∀ x ∈ l, tinfo P x.1 = some x.2) → tiGet P l = tinfo P
  | [], _ => rfl
  | (u, i) :: l, h => by
    funext t
    simp only [tiGet, nbeq, tiGet_eq (l := l) fun x hx => h x (by simp [hx])]
    by_cases e : u = t
    · subst e; simpa using (h (u, i) (by simp)).symm
    · simp [e]
theorem faGet_eq {P : Program} : ∀ {l : List (Nat × AF)}, (∀ x ∈ l, afun P x.1 = some x.2) → faGet P l = afun P
  | [], _ => rfl
  | (u, i) :: l, h => by
    funext t
    simp only [faGet, nbeq, faGet_eq (l := l) fun x hx => h x (by simp [hx])]
    by_cases e : u = t
    · subst e; simpa using (h (u, i) (by simp)).symm
    · simp [e]
def View.mkT (P : Program) (ts : List (Nat × TI)) (fs : List (Nat × AF)) : View := ⟨P, tiGet P ts, faGet P fs⟩
theorem View.mkT_eq {P : Program} {ts : List (Nat × TI)} {fs : List (Nat × AF)} (h1 : ∀ x ∈ ts, tinfo P x.1 = some x.2) (h2 : ∀ x ∈ fs, afun P x.1 = some x.2) : View.mkT P ts fs = View.of P := by
  unfold View.mkT View.of
  rw [tiGet_eq h1, faGet_eq h2]
theorem all_nil {α : Type} {p : α → Prop} : ∀ x ∈ ([] : List α), p x := fun _ h => by cases h
theorem all_cons {α : Type} {p : α → Prop} {a : α} {l : List α} (h : p a) (t : ∀ x ∈ l, p x) : ∀ x ∈ a :: l, p x := fun x hx => (List.mem_cons.1 hx).elim (fun e => e ▸ h) (t x)
def regsOf : Code → List (Array Oper)
  | .seq a b => regsOf a ++ regsOf b
  | .cond _ x y => regsOf x ++ regsOf y
  | .block _ c => regsOf c
  | .loop c => regsOf c
  | .scope c => regsOf c
  | .rangeFunc _ _ a b => regsOf a ++ regsOf b
  | .region _ ops true => [ops]
  | _ => []
/-- A function's regions that draw their order, one behind the other. -/
def rg (P : Program) (f n : Nat) : Array Oper := match afun P f with | some af => (regsOf af.body).getD n #[] | none => #[]
def rfsOf : Code → List (Code × Code)
  | .seq a b => rfsOf a ++ rfsOf b
  | .cond _ x y => rfsOf x ++ rfsOf y
  | .block _ c => rfsOf c
  | .loop c => rfsOf c
  | .scope c => rfsOf c
  | .rangeFunc _ _ a b => (a, b) :: (rfsOf a ++ rfsOf b)
  | _ => []
/-- A function's ranges over functions: how a round begins, and its body. -/
def rfA (P : Program) (f n : Nat) : Code := match afun P f with | some af => ((rfsOf af.body).getD n (.skip, .skip)).1 | none => .skip
def rfB (P : Program) (f n : Nat) : Code := match afun P f with | some af => ((rfsOf af.body).getD n (.skip, .skip)).2 | none => .skip
theorem ord_of {ops : Array Oper} {b : Array Nat} {fts : List Ft} (h : orderOk ops = true) (e : Region.before ops = b) (a : allOk b [] 0 fts = true) : orderOk ops = true ∧ allOk (Region.before ops) [] 0 fts = true := ⟨h, by rw [e]; exact a⟩
def afOf (fn : Func) : AF := { nt := fn.ntmps, res := fn.results.toList, body := fn.body.getD .skip }

/-! ### Loops -/
/-- A function's loops, one behind the other. -/
def loopsOf : Code → List Code
  | .seq a b => loopsOf a ++ loopsOf b
  | .cond _ x y => loopsOf x ++ loopsOf y
  | .block _ c => loopsOf c
  | .loop c => c :: loopsOf c
  | .scope c => loopsOf c
  | .rangeFunc _ _ a b => loopsOf a ++ loopsOf b
  | _ => []
def scopesOf : Code → List Code
  | .seq a b => scopesOf a ++ scopesOf b
  | .cond _ x y => scopesOf x ++ scopesOf y
  | .block _ c => scopesOf c
  | .loop c => scopesOf c
  | .scope c => c :: scopesOf c
  | .rangeFunc _ _ a b => scopesOf a ++ scopesOf b
  | _ => []
/-- A function's scopes; what stands behind a label in one. -/
def sc (P : Program) (f n : Nat) : Code := match afun P f with | some af => (scopesOf af.body).getD n .skip | none => .skip
def sr (P : Program) (f n l : Nat) : Code := (findLabel (sc P f n) l).getD .skip
/-! Rules for states told anew. -/
section
variable {R : Rn}
theorem VTo.eqv {x v : AV} (e : x = v) (hp : plain false v = true) : VTo R x v := by
  subst e
  refine .pur (bs := []) 1 (purV_plain hp) (by simp)
theorem VTo.frzn {b z off n : Nat} {cs : List AV} {v : AV} (hc : R.H.cells b = some cs) (hle : off + n * z ≤ cs.length) (hp : Pl false ((cs.drop off).take (n * z))) (hb : b ∈ R.frz) (e : .sl n ((cs.drop off).take (n * z)) = v) : VTo R (.rf b z off n) v := by
  subst e
  have key : ∀ k, mapP (purV R.H false k) ((cs.drop off).take (n * z)) = some ((cs.drop off).take (n * z), []) → purV R.H false (k + 1) (.rf b z off n) = some (.sl n ((cs.drop off).take (n * z)), [b]) := by
    intro k hk
    simp only [purV, hc]
    rw [if_pos hle, hk]
  exact .pur (bs := [b]) 2 (key 1 (pur_plain _ _ 0 _ hp)) (by simpa using hb)
theorem VTo.ip (cs : List AV) : VTo R (.ip cs) (.ip cs) := .pur (bs := []) 1 (by simp [purV]) (by simp)
theorem VTo.rfn {b b' z n n' : Nat} (h : R.m b' = some b) (e : n = n') : VTo R (.rf b z 0 n) (.rf b' z 0 n') := e ▸ .rf h
theorem VTo.nln {b' z n' : Nat} (e : n' = 0) : VTo R .nl (.rf b' z 0 n') := by subst e; exact .nl
theorem LTo.pl {l l' : List AV} (e : l = l') (hp : Pl false l') : LTo R l l' := by
  subst e
  exact .pur (bs := []) 1 (pur_plain _ _ 0 _ hp) (by simp)
theorem LTo.app {a b a' b' : List AV} (h1 : LTo R a a') (h2 : LTo R b b') : LTo R (a ++ b) (a' ++ b') := by
  induction a generalizing a' with
  | nil => rw [h1.empty]; exact h2
  | cons x a ih =>
    cases h1 with
    | cons hv ht => exact .cons hv (ih ht)
    | pur k hp hb =>
      simp only [mapP] at hp
      cases hx : purV R.H false k x with
      | none => rw [hx] at hp; cases hp
      | some q =>
        obtain ⟨x', b1⟩ := q
        rw [hx] at hp
        cases hr : mapP (purV R.H false k) a with
        | none => rw [hr] at hp; cases hp
        | some q2 =>
          obtain ⟨r', b2⟩ := q2
          rw [hr] at hp
          simp only [Option.some.injEq, Prod.mk.injEq] at hp
          obtain ⟨rfl, rfl⟩ := hp
          exact .cons (.pur k hx fun b h => hb b (List.mem_append_left _ h)) (ih (.pur k hr fun b h => hb b (List.mem_append_right _ h)))
theorem LTo.cast {l l' m m' : List AV} (e1 : l = m) (e2 : m' = l') (h : LTo R m m') : LTo R l l' := by subst e1; subst e2; exact h
theorem TTo.consn {T T' : Tm} {k : Nat} {x v : AV} (e : T.get k = x) (h : VTo R x v) (t : TTo R T T') : TTo R T ((k, v) :: T') := TTo.cons (e ▸ h) t
end
theorem fl_split {α : Type} {c : α → List AV} (d : α) (l : List α) (i : Nat) (h : i < l.length) : l.flatMap c = (l.take i).flatMap c ++ (c (l.getD i d) ++ (l.drop (i + 1)).flatMap c) := by
  have e : l = l.take i ++ (l.getD i d :: l.drop (i + 1)) := by
    have h2 : l.drop i = l.getD i d :: l.drop (i + 1) := by rw [List.drop_eq_getElem_cons h]; simp [h]
    rw [← h2, List.take_append_drop]
  conv => lhs; rw [e]
  rw [List.flatMap_append, List.flatMap_cons]
section
variable {α : Type} {c : α → List AV} {z : Nat} (hz : ∀ x, (c x).length = z)
include hz
theorem fl_len (l : List α) : (l.flatMap c).length = l.length * z := by
  induction l with
  | nil => simp
  | cons x l ih => rw [List.flatMap_cons, List.length_append, ih, hz, List.length_cons, Nat.add_mul, Nat.one_mul, Nat.add_comm]
theorem fl_drop (l : List α) (i : Nat) : (l.flatMap c).drop (i * z) = (l.drop i).flatMap c := by
  induction l generalizing i with
  | nil => simp
  | cons x l ih =>
    cases i with
    | zero => simp
    | succ i =>
      rw [List.flatMap_cons, List.drop_succ_cons, ← ih i, show (i + 1) * z = (c x).length + i * z by rw [hz, Nat.add_mul, Nat.one_mul, Nat.add_comm], List.drop_append]
      simp
theorem fl_takes (l : List α) (i : Nat) : (l.flatMap c).take (i * z) = (l.take i).flatMap c := by
  induction l generalizing i with
  | nil => simp
  | cons x l ih =>
    cases i with
    | zero => simp
    | succ i =>
      rw [List.flatMap_cons, List.take_succ_cons, List.flatMap_cons, ← ih i, show (i + 1) * z = (c x).length + i * z by rw [hz, Nat.add_mul, Nat.one_mul, Nat.add_comm], List.take_append, List.take_of_length_le (by omega)]
      congr 2; omega
theorem fl_at (d : α) (l : List α) (i : Nat) (h : i < l.length) : (l.flatMap c).drop (i * z) = c (l.getD i d) ++ (l.drop (i + 1)).flatMap c := by
  rw [fl_drop hz, List.drop_eq_getElem_cons h, List.flatMap_cons]
  simp [h]
theorem fl_take (d : α) (l : List α) (i : Nat) (h : i < l.length) : ((l.flatMap c).drop (i * z)).take z = c (l.getD i d) := by
  rw [fl_at hz d l i h, List.take_append_of_le_length (by rw [hz]; exact Nat.le_refl _), List.take_of_length_le (by rw [hz]; exact Nat.le_refl _)]
theorem fl_one (d : α) (l : List α) (i k : Nat) (v : AV) (h : i < l.length) (hv : (c (l.getD i d))[k]? = some v) : (((l.flatMap c).drop (i * z)).drop k).take 1 = [v] := by
  have hk : k < z := by
    rcases Nat.lt_or_ge k z with g | g
    · exact g
    · rw [List.getElem?_eq_none (by rw [hz]; exact g)] at hv; cases hv
  rw [fl_at hz d l i h, List.drop_append_of_le_length (by rw [hz]; omega)]
  have h2 : ((c (l.getD i d)).drop k) = v :: (c (l.getD i d)).drop (k + 1) := by
    rw [List.getElem?_eq_getElem (by rw [hz]; exact hk)] at hv
    injection hv with hv
    rw [← hv, List.drop_eq_getElem_cons]
  rw [h2]; rfl
theorem fl_setf (d : α) (l : List α) (i k : Nat) (vs : List AV) (x : α) (h : i < l.length) (hk : k + vs.length ≤ z) (e : over (c (l.getD i d)) k vs = c x) : over (l.flatMap c) (i * z + k) vs = (l.set i x).flatMap c := by
  have hl : ((l.take i).flatMap c).length = i * z := by rw [fl_len hz, List.length_take, Nat.min_eq_left (Nat.le_of_lt h)]
  have hc := hz (l.getD i d)
  have hs : l.set i x = l.take i ++ (x :: l.drop (i + 1)) := by rw [List.set_eq_take_append_cons_drop, if_pos h]
  rw [hs, List.flatMap_append, List.flatMap_cons, ← e, fl_split d l i h]
  generalize hA : (l.take i).flatMap c = A at hl ⊢
  generalize (l.drop (i + 1)).flatMap c = B
  generalize c (l.getD i d) = M at hc ⊢
  have e1 : (A ++ (M ++ B)).take (i * z + k) = A ++ M.take k := by
    rw [List.take_append, List.take_of_length_le (by omega), show i * z + k - A.length = k by omega, List.take_append_of_le_length (by omega)]
  have e2 : (A ++ (M ++ B)).drop (i * z + k + vs.length) = M.drop (k + vs.length) ++ B := by
    rw [List.drop_append, List.drop_of_length_le (l := A) (by omega), show i * z + k + vs.length - A.length = k + vs.length by omega, List.drop_append_of_le_length (by omega), List.nil_append]
  unfold over
  rw [e1, e2]
  simp
theorem fl_arr (d : α) (l : List α) (i k n : Nat) (vs : List AV) (h : i < l.length) (e : (c (l.getD i d)).drop k = vs) (hn : vs.length = n) : ((l.flatMap c).drop (i * z + k)).take n = vs := by
  have hk : k ≤ (c (l.getD i d)).length ∨ vs = [] := by
    rcases Nat.le_total k (c (l.getD i d)).length with g | g
    · exact .inl g
    · exact .inr (by rw [← e, List.drop_of_length_le g])
  rcases hk with hk | hk
  · rw [← List.drop_drop, fl_at hz d l i h, List.drop_append_of_le_length hk, e, ← hn]; simp
  · subst hk; subst hn; simp
theorem fl_set (l : List α) (i : Nat) (x : α) (h : i < l.length) : over (l.flatMap c) (i * z) (c x) = (l.set i x).flatMap c := by
  have := fl_setf hz l[i] l i 0 (c x) x h (by rw [hz]; omega) (by
    unfold over
    rw [hz]
    have e : l.getD i l[i] = l[i] := by simp [h]
    rw [e, List.drop_of_length_le (by rw [hz]; omega)]; simp)
  simpa using this
end
/-! KINDS B -/
theorem zo_hz : ∀ x : Zo, (Zo.cells x).length = 4 := fun x => by simp [Zo.cells]
@[simp] theorem zo_pl (x : Zo) : Pl false (Zo.cells x) := by simp [Zo.cells]
@[simp] theorem Pl_zos (l : List Zo) : Pl false (l.flatMap Zo.cells) := fun v hv => by
  obtain ⟨x, _, hx⟩ := List.mem_flatMap.1 hv
  exact zo_pl x v hx
@[simp] theorem zos_len (l : List Zo) : (l.flatMap Zo.cells).length = l.length * 4 := fl_len zo_hz l
theorem zo_take (l : List Zo) (i : Nat) (h : i < l.length) : ((l.flatMap Zo.cells).drop (i * 4)).take 4 = Zo.cells (zoAt l i) := fl_take zo_hz _ l i h
theorem zo_one (l : List Zo) (i k : Nat) (v : AV) (h : i < l.length) (hv : (Zo.cells (zoAt l i))[k]? = some v) : (((l.flatMap Zo.cells).drop (i * 4)).drop k).take 1 = [v] := fl_one zo_hz _ l i k v h hv
theorem zo_one0 (l : List Zo) (i : Nat) (v : AV) (h : i < l.length) (hv : (Zo.cells (zoAt l i))[0]? = some v) : ((l.flatMap Zo.cells).drop (i * 4)).take 1 = [v] := by have := zo_one l i 0 v h hv; rwa [List.drop_zero] at this
theorem zo_oneA (l : List Zo) (i k : Nat) (v : AV) (h : i < l.length) (hv : (Zo.cells (zoAt l i))[k]? = some v) : ((l.flatMap Zo.cells).drop (i * 4 + k)).take 1 = [v] := by rw [← List.drop_drop]; exact zo_one l i k v h hv
theorem zo_set (l : List Zo) (i : Nat) (x : Zo) (h : i < l.length) : over (l.flatMap Zo.cells) (i * 4) (Zo.cells x) = (l.set i x).flatMap Zo.cells := fl_set zo_hz l i x h
theorem zo_setf (l : List Zo) (i k : Nat) (vs : List AV) (x : Zo) (h : i < l.length) (hk : k + vs.length ≤ 4) (e : over (Zo.cells (zoAt l i)) k vs = Zo.cells x) : over (l.flatMap Zo.cells) (i * 4 + k) vs = (l.set i x).flatMap Zo.cells := fl_setf zo_hz _ l i k vs x h hk e
theorem zo_oneC {l : List Zo} {cs : List AV} (e : cs = l.flatMap Zo.cells) (i k : Nat) (v : AV) (h : i < l.length) (hv : (Zo.cells (zoAt l i))[k]? = some v) : (cs.drop (i * 4 + k)).take 1 = [v] := e ▸ zo_oneA l i k v h hv
theorem zo_takeC {l : List Zo} {cs : List AV} (e : cs = l.flatMap Zo.cells) (i : Nat) (h : i < l.length) : (cs.drop (i * 4)).take 4 = Zo.cells (zoAt l i) := e ▸ zo_take l i h
theorem zo_setC {l : List Zo} {cs : List AV} (e : cs = l.flatMap Zo.cells) (i : Nat) (x : Zo) (h : i < l.length) : over cs (i * 4) (Zo.cells x) = (l.set i x).flatMap Zo.cells := e ▸ zo_set l i x h
theorem zo_setE {vs : List AV} (l : List Zo) (i : Nat) (x : Zo) (h : i < l.length) (e : vs = Zo.cells x) : over (l.flatMap Zo.cells) (i * 4) vs = (l.set i x).flatMap Zo.cells := e ▸ zo_set l i x h
theorem zos_drop (l : List Zo) (i : Nat) : (l.flatMap Zo.cells).drop (i * 4) = (l.drop i).flatMap Zo.cells := fl_drop zo_hz l i
theorem zos_take (l : List Zo) (i : Nat) : (l.flatMap Zo.cells).take (i * 4) = (l.take i).flatMap Zo.cells := fl_takes zo_hz l i
theorem ex_hz : ∀ x : Ex, (Ex.cells x).length = 5 := fun x => by simp [Ex.cells]
@[simp] theorem ex_pl (x : Ex) : Pl false (Ex.cells x) := by simp [Ex.cells]
@[simp] theorem Pl_exs (l : List Ex) : Pl false (l.flatMap Ex.cells) := fun v hv => by
  obtain ⟨x, _, hx⟩ := List.mem_flatMap.1 hv
  exact ex_pl x v hx
@[simp] theorem exs_len (l : List Ex) : (l.flatMap Ex.cells).length = l.length * 5 := fl_len ex_hz l
theorem ex_take (l : List Ex) (i : Nat) (h : i < l.length) : ((l.flatMap Ex.cells).drop (i * 5)).take 5 = Ex.cells (exAt l i) := fl_take ex_hz _ l i h
theorem ex_one (l : List Ex) (i k : Nat) (v : AV) (h : i < l.length) (hv : (Ex.cells (exAt l i))[k]? = some v) : (((l.flatMap Ex.cells).drop (i * 5)).drop k).take 1 = [v] := fl_one ex_hz _ l i k v h hv
theorem ex_one0 (l : List Ex) (i : Nat) (v : AV) (h : i < l.length) (hv : (Ex.cells (exAt l i))[0]? = some v) : ((l.flatMap Ex.cells).drop (i * 5)).take 1 = [v] := by have := ex_one l i 0 v h hv; rwa [List.drop_zero] at this
theorem ex_oneA (l : List Ex) (i k : Nat) (v : AV) (h : i < l.length) (hv : (Ex.cells (exAt l i))[k]? = some v) : ((l.flatMap Ex.cells).drop (i * 5 + k)).take 1 = [v] := by rw [← List.drop_drop]; exact ex_one l i k v h hv
theorem ex_set (l : List Ex) (i : Nat) (x : Ex) (h : i < l.length) : over (l.flatMap Ex.cells) (i * 5) (Ex.cells x) = (l.set i x).flatMap Ex.cells := fl_set ex_hz l i x h
theorem ex_setf (l : List Ex) (i k : Nat) (vs : List AV) (x : Ex) (h : i < l.length) (hk : k + vs.length ≤ 5) (e : over (Ex.cells (exAt l i)) k vs = Ex.cells x) : over (l.flatMap Ex.cells) (i * 5 + k) vs = (l.set i x).flatMap Ex.cells := fl_setf ex_hz _ l i k vs x h hk e
theorem ex_oneC {l : List Ex} {cs : List AV} (e : cs = l.flatMap Ex.cells) (i k : Nat) (v : AV) (h : i < l.length) (hv : (Ex.cells (exAt l i))[k]? = some v) : (cs.drop (i * 5 + k)).take 1 = [v] := e ▸ ex_oneA l i k v h hv
theorem ex_takeC {l : List Ex} {cs : List AV} (e : cs = l.flatMap Ex.cells) (i : Nat) (h : i < l.length) : (cs.drop (i * 5)).take 5 = Ex.cells (exAt l i) := e ▸ ex_take l i h
theorem ex_setC {l : List Ex} {cs : List AV} (e : cs = l.flatMap Ex.cells) (i : Nat) (x : Ex) (h : i < l.length) : over cs (i * 5) (Ex.cells x) = (l.set i x).flatMap Ex.cells := e ▸ ex_set l i x h
theorem ex_setE {vs : List AV} (l : List Ex) (i : Nat) (x : Ex) (h : i < l.length) (e : vs = Ex.cells x) : over (l.flatMap Ex.cells) (i * 5) vs = (l.set i x).flatMap Ex.cells := e ▸ ex_set l i x h
theorem exs_drop (l : List Ex) (i : Nat) : (l.flatMap Ex.cells).drop (i * 5) = (l.drop i).flatMap Ex.cells := fl_drop ex_hz l i
theorem exs_take (l : List Ex) (i : Nat) : (l.flatMap Ex.cells).take (i * 5) = (l.take i).flatMap Ex.cells := fl_takes ex_hz l i
theorem sp_hz : ∀ x : Sp, (Sp.cells x).length = 3 := fun x => by simp [Sp.cells]
@[simp] theorem sp_pl (x : Sp) : Pl false (Sp.cells x) := by simp [Sp.cells]
@[simp] theorem Pl_sps (l : List Sp) : Pl false (l.flatMap Sp.cells) := fun v hv => by
  obtain ⟨x, _, hx⟩ := List.mem_flatMap.1 hv
  exact sp_pl x v hx
@[simp] theorem sps_len (l : List Sp) : (l.flatMap Sp.cells).length = l.length * 3 := fl_len sp_hz l
theorem sp_take (l : List Sp) (i : Nat) (h : i < l.length) : ((l.flatMap Sp.cells).drop (i * 3)).take 3 = Sp.cells (spAt l i) := fl_take sp_hz _ l i h
theorem sp_one (l : List Sp) (i k : Nat) (v : AV) (h : i < l.length) (hv : (Sp.cells (spAt l i))[k]? = some v) : (((l.flatMap Sp.cells).drop (i * 3)).drop k).take 1 = [v] := fl_one sp_hz _ l i k v h hv
theorem sp_one0 (l : List Sp) (i : Nat) (v : AV) (h : i < l.length) (hv : (Sp.cells (spAt l i))[0]? = some v) : ((l.flatMap Sp.cells).drop (i * 3)).take 1 = [v] := by have := sp_one l i 0 v h hv; rwa [List.drop_zero] at this
theorem sp_oneA (l : List Sp) (i k : Nat) (v : AV) (h : i < l.length) (hv : (Sp.cells (spAt l i))[k]? = some v) : ((l.flatMap Sp.cells).drop (i * 3 + k)).take 1 = [v] := by rw [← List.drop_drop]; exact sp_one l i k v h hv
theorem sp_set (l : List Sp) (i : Nat) (x : Sp) (h : i < l.length) : over (l.flatMap Sp.cells) (i * 3) (Sp.cells x) = (l.set i x).flatMap Sp.cells := fl_set sp_hz l i x h
theorem sp_setf (l : List Sp) (i k : Nat) (vs : List AV) (x : Sp) (h : i < l.length) (hk : k + vs.length ≤ 3) (e : over (Sp.cells (spAt l i)) k vs = Sp.cells x) : over (l.flatMap Sp.cells) (i * 3 + k) vs = (l.set i x).flatMap Sp.cells := fl_setf sp_hz _ l i k vs x h hk e
theorem sp_oneC {l : List Sp} {cs : List AV} (e : cs = l.flatMap Sp.cells) (i k : Nat) (v : AV) (h : i < l.length) (hv : (Sp.cells (spAt l i))[k]? = some v) : (cs.drop (i * 3 + k)).take 1 = [v] := e ▸ sp_oneA l i k v h hv
theorem sp_takeC {l : List Sp} {cs : List AV} (e : cs = l.flatMap Sp.cells) (i : Nat) (h : i < l.length) : (cs.drop (i * 3)).take 3 = Sp.cells (spAt l i) := e ▸ sp_take l i h
theorem sp_setC {l : List Sp} {cs : List AV} (e : cs = l.flatMap Sp.cells) (i : Nat) (x : Sp) (h : i < l.length) : over cs (i * 3) (Sp.cells x) = (l.set i x).flatMap Sp.cells := e ▸ sp_set l i x h
theorem sp_setE {vs : List AV} (l : List Sp) (i : Nat) (x : Sp) (h : i < l.length) (e : vs = Sp.cells x) : over (l.flatMap Sp.cells) (i * 3) vs = (l.set i x).flatMap Sp.cells := e ▸ sp_set l i x h
theorem sps_drop (l : List Sp) (i : Nat) : (l.flatMap Sp.cells).drop (i * 3) = (l.drop i).flatMap Sp.cells := fl_drop sp_hz l i
theorem sps_take (l : List Sp) (i : Nat) : (l.flatMap Sp.cells).take (i * 3) = (l.take i).flatMap Sp.cells := fl_takes sp_hz l i
theorem ce_hz : ∀ x : Ce, (Ce.cells x).length = 34 := fun x => by simp [Ce.cells, pad]
@[simp] theorem ce_pl {fr : Bool} (x : Ce) : Pl fr (Ce.cells x) := by simp [Ce.cells]
@[simp] theorem Pl_ces {fr : Bool} (l : List Ce) : Pl fr (l.flatMap Ce.cells) := fun v hv => by
  obtain ⟨x, _, hx⟩ := List.mem_flatMap.1 hv
  exact ce_pl x v hx
@[simp] theorem ces_len (l : List Ce) : (l.flatMap Ce.cells).length = l.length * 34 := fl_len ce_hz l
theorem ce_take (l : List Ce) (i : Nat) (h : i < l.length) : ((l.flatMap Ce.cells).drop (i * 34)).take 34 = Ce.cells (ceAt l i) := fl_take ce_hz _ l i h
theorem ce_one (l : List Ce) (i k : Nat) (v : AV) (h : i < l.length) (hv : (Ce.cells (ceAt l i))[k]? = some v) : (((l.flatMap Ce.cells).drop (i * 34)).drop k).take 1 = [v] := fl_one ce_hz _ l i k v h hv
theorem ce_one0 (l : List Ce) (i : Nat) (v : AV) (h : i < l.length) (hv : (Ce.cells (ceAt l i))[0]? = some v) : ((l.flatMap Ce.cells).drop (i * 34)).take 1 = [v] := by have := ce_one l i 0 v h hv; rwa [List.drop_zero] at this
theorem ce_oneA (l : List Ce) (i k : Nat) (v : AV) (h : i < l.length) (hv : (Ce.cells (ceAt l i))[k]? = some v) : ((l.flatMap Ce.cells).drop (i * 34 + k)).take 1 = [v] := by rw [← List.drop_drop]; exact ce_one l i k v h hv
theorem ce_set (l : List Ce) (i : Nat) (x : Ce) (h : i < l.length) : over (l.flatMap Ce.cells) (i * 34) (Ce.cells x) = (l.set i x).flatMap Ce.cells := fl_set ce_hz l i x h
theorem ce_setf (l : List Ce) (i k : Nat) (vs : List AV) (x : Ce) (h : i < l.length) (hk : k + vs.length ≤ 34) (e : over (Ce.cells (ceAt l i)) k vs = Ce.cells x) : over (l.flatMap Ce.cells) (i * 34 + k) vs = (l.set i x).flatMap Ce.cells := fl_setf ce_hz _ l i k vs x h hk e
theorem ce_oneC {l : List Ce} {cs : List AV} (e : cs = l.flatMap Ce.cells) (i k : Nat) (v : AV) (h : i < l.length) (hv : (Ce.cells (ceAt l i))[k]? = some v) : (cs.drop (i * 34 + k)).take 1 = [v] := e ▸ ce_oneA l i k v h hv
theorem ce_takeC {l : List Ce} {cs : List AV} (e : cs = l.flatMap Ce.cells) (i : Nat) (h : i < l.length) : (cs.drop (i * 34)).take 34 = Ce.cells (ceAt l i) := e ▸ ce_take l i h
theorem ce_setC {l : List Ce} {cs : List AV} (e : cs = l.flatMap Ce.cells) (i : Nat) (x : Ce) (h : i < l.length) : over cs (i * 34) (Ce.cells x) = (l.set i x).flatMap Ce.cells := e ▸ ce_set l i x h
theorem ce_setE {vs : List AV} (l : List Ce) (i : Nat) (x : Ce) (h : i < l.length) (e : vs = Ce.cells x) : over (l.flatMap Ce.cells) (i * 34) vs = (l.set i x).flatMap Ce.cells := e ▸ ce_set l i x h
theorem ces_drop (l : List Ce) (i : Nat) : (l.flatMap Ce.cells).drop (i * 34) = (l.drop i).flatMap Ce.cells := fl_drop ce_hz l i
theorem ces_take (l : List Ce) (i : Nat) : (l.flatMap Ce.cells).take (i * 34) = (l.take i).flatMap Ce.cells := fl_takes ce_hz l i
theorem ce_rep {z : List AV} (n : Nat) (x : Ce) (e : z = Ce.cells x) : (List.replicate n z).flatten = (List.replicate n x).flatMap Ce.cells := by subst e; simp [List.flatMap]
theorem ce_arr (l : List Ce) (i : Nat) (h : i < l.length) : ((l.flatMap Ce.cells).drop (i * 34 + 2)).take 32 = (pad 32 (ceAt l i).d).map .y := fl_arr ce_hz _ l i 2 32 _ h rfl (by simp)
theorem po_hz : ∀ x : Po, (Po.cells x).length = 3 := fun x => by simp [Po.cells]
@[simp] theorem po_pl (x : Po) : Pl false (Po.cells x) := by simp [Po.cells]
@[simp] theorem Pl_pos (l : List Po) : Pl false (l.flatMap Po.cells) := fun v hv => by
  obtain ⟨x, _, hx⟩ := List.mem_flatMap.1 hv
  exact po_pl x v hx
@[simp] theorem pos_len (l : List Po) : (l.flatMap Po.cells).length = l.length * 3 := fl_len po_hz l
theorem po_take (l : List Po) (i : Nat) (h : i < l.length) : ((l.flatMap Po.cells).drop (i * 3)).take 3 = Po.cells (poAt l i) := fl_take po_hz _ l i h
theorem po_one (l : List Po) (i k : Nat) (v : AV) (h : i < l.length) (hv : (Po.cells (poAt l i))[k]? = some v) : (((l.flatMap Po.cells).drop (i * 3)).drop k).take 1 = [v] := fl_one po_hz _ l i k v h hv
theorem po_one0 (l : List Po) (i : Nat) (v : AV) (h : i < l.length) (hv : (Po.cells (poAt l i))[0]? = some v) : ((l.flatMap Po.cells).drop (i * 3)).take 1 = [v] := by have := po_one l i 0 v h hv; rwa [List.drop_zero] at this
theorem po_oneA (l : List Po) (i k : Nat) (v : AV) (h : i < l.length) (hv : (Po.cells (poAt l i))[k]? = some v) : ((l.flatMap Po.cells).drop (i * 3 + k)).take 1 = [v] := by rw [← List.drop_drop]; exact po_one l i k v h hv
theorem po_set (l : List Po) (i : Nat) (x : Po) (h : i < l.length) : over (l.flatMap Po.cells) (i * 3) (Po.cells x) = (l.set i x).flatMap Po.cells := fl_set po_hz l i x h
theorem po_setf (l : List Po) (i k : Nat) (vs : List AV) (x : Po) (h : i < l.length) (hk : k + vs.length ≤ 3) (e : over (Po.cells (poAt l i)) k vs = Po.cells x) : over (l.flatMap Po.cells) (i * 3 + k) vs = (l.set i x).flatMap Po.cells := fl_setf po_hz _ l i k vs x h hk e
theorem po_oneC {l : List Po} {cs : List AV} (e : cs = l.flatMap Po.cells) (i k : Nat) (v : AV) (h : i < l.length) (hv : (Po.cells (poAt l i))[k]? = some v) : (cs.drop (i * 3 + k)).take 1 = [v] := e ▸ po_oneA l i k v h hv
theorem po_takeC {l : List Po} {cs : List AV} (e : cs = l.flatMap Po.cells) (i : Nat) (h : i < l.length) : (cs.drop (i * 3)).take 3 = Po.cells (poAt l i) := e ▸ po_take l i h
theorem po_setC {l : List Po} {cs : List AV} (e : cs = l.flatMap Po.cells) (i : Nat) (x : Po) (h : i < l.length) : over cs (i * 3) (Po.cells x) = (l.set i x).flatMap Po.cells := e ▸ po_set l i x h
theorem po_setE {vs : List AV} (l : List Po) (i : Nat) (x : Po) (h : i < l.length) (e : vs = Po.cells x) : over (l.flatMap Po.cells) (i * 3) vs = (l.set i x).flatMap Po.cells := e ▸ po_set l i x h
theorem pos_drop (l : List Po) (i : Nat) : (l.flatMap Po.cells).drop (i * 3) = (l.drop i).flatMap Po.cells := fl_drop po_hz l i
theorem pos_take (l : List Po) (i : Nat) : (l.flatMap Po.cells).take (i * 3) = (l.take i).flatMap Po.cells := fl_takes po_hz l i
theorem sa_hz : ∀ x : Sa, (Sa.cells x).length = 6 := fun x => by simp [Sa.cells]
@[simp] theorem sa_pl (x : Sa) : Pl false (Sa.cells x) := by simp [Sa.cells]
@[simp] theorem Pl_sas (l : List Sa) : Pl false (l.flatMap Sa.cells) := fun v hv => by
  obtain ⟨x, _, hx⟩ := List.mem_flatMap.1 hv
  exact sa_pl x v hx
@[simp] theorem sas_len (l : List Sa) : (l.flatMap Sa.cells).length = l.length * 6 := fl_len sa_hz l
theorem sa_take (l : List Sa) (i : Nat) (h : i < l.length) : ((l.flatMap Sa.cells).drop (i * 6)).take 6 = Sa.cells (saAt l i) := fl_take sa_hz _ l i h
theorem sa_one (l : List Sa) (i k : Nat) (v : AV) (h : i < l.length) (hv : (Sa.cells (saAt l i))[k]? = some v) : (((l.flatMap Sa.cells).drop (i * 6)).drop k).take 1 = [v] := fl_one sa_hz _ l i k v h hv
theorem sa_one0 (l : List Sa) (i : Nat) (v : AV) (h : i < l.length) (hv : (Sa.cells (saAt l i))[0]? = some v) : ((l.flatMap Sa.cells).drop (i * 6)).take 1 = [v] := by have := sa_one l i 0 v h hv; rwa [List.drop_zero] at this
theorem sa_oneA (l : List Sa) (i k : Nat) (v : AV) (h : i < l.length) (hv : (Sa.cells (saAt l i))[k]? = some v) : ((l.flatMap Sa.cells).drop (i * 6 + k)).take 1 = [v] := by rw [← List.drop_drop]; exact sa_one l i k v h hv
theorem sa_set (l : List Sa) (i : Nat) (x : Sa) (h : i < l.length) : over (l.flatMap Sa.cells) (i * 6) (Sa.cells x) = (l.set i x).flatMap Sa.cells := fl_set sa_hz l i x h
theorem sa_setf (l : List Sa) (i k : Nat) (vs : List AV) (x : Sa) (h : i < l.length) (hk : k + vs.length ≤ 6) (e : over (Sa.cells (saAt l i)) k vs = Sa.cells x) : over (l.flatMap Sa.cells) (i * 6 + k) vs = (l.set i x).flatMap Sa.cells := fl_setf sa_hz _ l i k vs x h hk e
theorem sa_oneC {l : List Sa} {cs : List AV} (e : cs = l.flatMap Sa.cells) (i k : Nat) (v : AV) (h : i < l.length) (hv : (Sa.cells (saAt l i))[k]? = some v) : (cs.drop (i * 6 + k)).take 1 = [v] := e ▸ sa_oneA l i k v h hv
theorem sa_takeC {l : List Sa} {cs : List AV} (e : cs = l.flatMap Sa.cells) (i : Nat) (h : i < l.length) : (cs.drop (i * 6)).take 6 = Sa.cells (saAt l i) := e ▸ sa_take l i h
theorem sa_setC {l : List Sa} {cs : List AV} (e : cs = l.flatMap Sa.cells) (i : Nat) (x : Sa) (h : i < l.length) : over cs (i * 6) (Sa.cells x) = (l.set i x).flatMap Sa.cells := e ▸ sa_set l i x h
theorem sa_setE {vs : List AV} (l : List Sa) (i : Nat) (x : Sa) (h : i < l.length) (e : vs = Sa.cells x) : over (l.flatMap Sa.cells) (i * 6) vs = (l.set i x).flatMap Sa.cells := e ▸ sa_set l i x h
theorem sas_drop (l : List Sa) (i : Nat) : (l.flatMap Sa.cells).drop (i * 6) = (l.drop i).flatMap Sa.cells := fl_drop sa_hz l i
theorem sas_take (l : List Sa) (i : Nat) : (l.flatMap Sa.cells).take (i * 6) = (l.take i).flatMap Sa.cells := fl_takes sa_hz l i
theorem ch_hz : ∀ x : Ch, (Ch.cells x).length = 6 := fun x => by simp [Ch.cells]
@[simp] theorem ch_pl (x : Ch) : Pl false (Ch.cells x) := by simp [Ch.cells]
@[simp] theorem Pl_chs (l : List Ch) : Pl false (l.flatMap Ch.cells) := fun v hv => by
  obtain ⟨x, _, hx⟩ := List.mem_flatMap.1 hv
  exact ch_pl x v hx
@[simp] theorem chs_len (l : List Ch) : (l.flatMap Ch.cells).length = l.length * 6 := fl_len ch_hz l
theorem ch_take (l : List Ch) (i : Nat) (h : i < l.length) : ((l.flatMap Ch.cells).drop (i * 6)).take 6 = Ch.cells (chAt l i) := fl_take ch_hz _ l i h
theorem ch_one (l : List Ch) (i k : Nat) (v : AV) (h : i < l.length) (hv : (Ch.cells (chAt l i))[k]? = some v) : (((l.flatMap Ch.cells).drop (i * 6)).drop k).take 1 = [v] := fl_one ch_hz _ l i k v h hv
theorem ch_one0 (l : List Ch) (i : Nat) (v : AV) (h : i < l.length) (hv : (Ch.cells (chAt l i))[0]? = some v) : ((l.flatMap Ch.cells).drop (i * 6)).take 1 = [v] := by have := ch_one l i 0 v h hv; rwa [List.drop_zero] at this
theorem ch_oneA (l : List Ch) (i k : Nat) (v : AV) (h : i < l.length) (hv : (Ch.cells (chAt l i))[k]? = some v) : ((l.flatMap Ch.cells).drop (i * 6 + k)).take 1 = [v] := by rw [← List.drop_drop]; exact ch_one l i k v h hv
theorem ch_set (l : List Ch) (i : Nat) (x : Ch) (h : i < l.length) : over (l.flatMap Ch.cells) (i * 6) (Ch.cells x) = (l.set i x).flatMap Ch.cells := fl_set ch_hz l i x h
theorem ch_setf (l : List Ch) (i k : Nat) (vs : List AV) (x : Ch) (h : i < l.length) (hk : k + vs.length ≤ 6) (e : over (Ch.cells (chAt l i)) k vs = Ch.cells x) : over (l.flatMap Ch.cells) (i * 6 + k) vs = (l.set i x).flatMap Ch.cells := fl_setf ch_hz _ l i k vs x h hk e
theorem ch_oneC {l : List Ch} {cs : List AV} (e : cs = l.flatMap Ch.cells) (i k : Nat) (v : AV) (h : i < l.length) (hv : (Ch.cells (chAt l i))[k]? = some v) : (cs.drop (i * 6 + k)).take 1 = [v] := e ▸ ch_oneA l i k v h hv
theorem ch_takeC {l : List Ch} {cs : List AV} (e : cs = l.flatMap Ch.cells) (i : Nat) (h : i < l.length) : (cs.drop (i * 6)).take 6 = Ch.cells (chAt l i) := e ▸ ch_take l i h
theorem ch_setC {l : List Ch} {cs : List AV} (e : cs = l.flatMap Ch.cells) (i : Nat) (x : Ch) (h : i < l.length) : over cs (i * 6) (Ch.cells x) = (l.set i x).flatMap Ch.cells := e ▸ ch_set l i x h
theorem ch_setE {vs : List AV} (l : List Ch) (i : Nat) (x : Ch) (h : i < l.length) (e : vs = Ch.cells x) : over (l.flatMap Ch.cells) (i * 6) vs = (l.set i x).flatMap Ch.cells := e ▸ ch_set l i x h
theorem chs_drop (l : List Ch) (i : Nat) : (l.flatMap Ch.cells).drop (i * 6) = (l.drop i).flatMap Ch.cells := fl_drop ch_hz l i
theorem chs_take (l : List Ch) (i : Nat) : (l.flatMap Ch.cells).take (i * 6) = (l.take i).flatMap Ch.cells := fl_takes ch_hz l i
theorem sm_hz : ∀ x : Sm, (Sm.cells x).length = 4 := fun x => by simp [Sm.cells]
@[simp] theorem sm_pl (x : Sm) : Pl false (Sm.cells x) := by simp [Sm.cells]
@[simp] theorem Pl_sms (l : List Sm) : Pl false (l.flatMap Sm.cells) := fun v hv => by
  obtain ⟨x, _, hx⟩ := List.mem_flatMap.1 hv
  exact sm_pl x v hx
@[simp] theorem sms_len (l : List Sm) : (l.flatMap Sm.cells).length = l.length * 4 := fl_len sm_hz l
theorem sm_take (l : List Sm) (i : Nat) (h : i < l.length) : ((l.flatMap Sm.cells).drop (i * 4)).take 4 = Sm.cells (smAt l i) := fl_take sm_hz _ l i h
theorem sm_one (l : List Sm) (i k : Nat) (v : AV) (h : i < l.length) (hv : (Sm.cells (smAt l i))[k]? = some v) : (((l.flatMap Sm.cells).drop (i * 4)).drop k).take 1 = [v] := fl_one sm_hz _ l i k v h hv
theorem sm_one0 (l : List Sm) (i : Nat) (v : AV) (h : i < l.length) (hv : (Sm.cells (smAt l i))[0]? = some v) : ((l.flatMap Sm.cells).drop (i * 4)).take 1 = [v] := by have := sm_one l i 0 v h hv; rwa [List.drop_zero] at this
theorem sm_oneA (l : List Sm) (i k : Nat) (v : AV) (h : i < l.length) (hv : (Sm.cells (smAt l i))[k]? = some v) : ((l.flatMap Sm.cells).drop (i * 4 + k)).take 1 = [v] := by rw [← List.drop_drop]; exact sm_one l i k v h hv
theorem sm_set (l : List Sm) (i : Nat) (x : Sm) (h : i < l.length) : over (l.flatMap Sm.cells) (i * 4) (Sm.cells x) = (l.set i x).flatMap Sm.cells := fl_set sm_hz l i x h
theorem sm_setf (l : List Sm) (i k : Nat) (vs : List AV) (x : Sm) (h : i < l.length) (hk : k + vs.length ≤ 4) (e : over (Sm.cells (smAt l i)) k vs = Sm.cells x) : over (l.flatMap Sm.cells) (i * 4 + k) vs = (l.set i x).flatMap Sm.cells := fl_setf sm_hz _ l i k vs x h hk e
theorem sm_oneC {l : List Sm} {cs : List AV} (e : cs = l.flatMap Sm.cells) (i k : Nat) (v : AV) (h : i < l.length) (hv : (Sm.cells (smAt l i))[k]? = some v) : (cs.drop (i * 4 + k)).take 1 = [v] := e ▸ sm_oneA l i k v h hv
theorem sm_takeC {l : List Sm} {cs : List AV} (e : cs = l.flatMap Sm.cells) (i : Nat) (h : i < l.length) : (cs.drop (i * 4)).take 4 = Sm.cells (smAt l i) := e ▸ sm_take l i h
theorem sm_setC {l : List Sm} {cs : List AV} (e : cs = l.flatMap Sm.cells) (i : Nat) (x : Sm) (h : i < l.length) : over cs (i * 4) (Sm.cells x) = (l.set i x).flatMap Sm.cells := e ▸ sm_set l i x h
theorem sm_setE {vs : List AV} (l : List Sm) (i : Nat) (x : Sm) (h : i < l.length) (e : vs = Sm.cells x) : over (l.flatMap Sm.cells) (i * 4) vs = (l.set i x).flatMap Sm.cells := e ▸ sm_set l i x h
theorem sms_drop (l : List Sm) (i : Nat) : (l.flatMap Sm.cells).drop (i * 4) = (l.drop i).flatMap Sm.cells := fl_drop sm_hz l i
theorem sms_take (l : List Sm) (i : Nat) : (l.flatMap Sm.cells).take (i * 4) = (l.take i).flatMap Sm.cells := fl_takes sm_hz l i
/-! KINDS B END -/
theorem over_app (p l vs : List AV) (k : Nat) : over (p ++ l) (p.length + k) vs = p ++ over l k vs := by
  unfold over
  rw [List.take_append, List.take_of_length_le (by omega), Nat.add_sub_cancel_left, List.drop_append, List.drop_of_length_le (l := p) (by omega), List.nil_append, show p.length + k + vs.length - p.length = k + vs.length by omega]
  simp
theorem over_cons (a : AV) (l vs : List AV) (k : Nat) : over (a :: l) (k + 1) vs = a :: over l k vs := by
  unfold over; rw [show k + 1 + vs.length = (k + vs.length) + 1 by omega]; simp
theorem one_drop_yC {l : List UInt8} {cs : List AV} {i : Nat} (e : cs = l.map .y) (h : i < l.length) : (cs.drop i).take 1 = [AV.y (l.getD i 0)] := e ▸ one_drop l i h
theorem over_nil (a : AV) (l vs : List AV) : over (a :: l) 0 vs = vs ++ (a :: l).drop vs.length := by simp [over]
theorem over_y (l v : List UInt8) (k : Nat) : over (l.map .y) k (v.map .y) = (l.take k ++ v ++ l.drop (k + v.length)).map .y := by
  simp [over, List.map_take, List.map_drop]
theorem over_y0 (l v : List UInt8) : over (l.map .y) 0 (v.map .y) = (v ++ l.drop v.length).map .y := by rw [over_y]; simp
theorem over_yc {l v : List UInt8} {xs ys : List AV} (e1 : xs = l.map .y) (e2 : ys = v.map .y) : over xs 0 ys = (v ++ l.drop v.length).map .y := by subst e1; subst e2; exact over_y0 l v
theorem over_all {cs vs : List AV} (h : cs.length = vs.length) : over cs 0 vs = vs := by
  unfold over; rw [List.drop_of_length_le (by omega)]; simp
theorem over_padC {a : List AV} {x : List UInt8} {cs vs : List AV} {k n : Nat} (e1 : cs = a ++ (List.replicate n 0).map .y) (hk : k = a.length) (e2 : vs = (x.take n).map .y) : over cs k vs = a ++ (pad n x).map .y := by
  subst e1 e2 hk
  have hp : pad n x = x.take n ++ List.replicate (n - x.length) 0 := by rw [pad, List.take_append, List.take_replicate, Nat.min_eq_left (Nat.sub_le _ _)]
  unfold over
  rw [List.take_left, hp, ← List.drop_drop, List.drop_left, ← List.map_drop, List.drop_replicate, List.map_append, List.append_assoc]
  congr 4
  simp; omega
theorem over_set_y (l : List UInt8) (i : Nat) (b : UInt8) (h : i < l.length) : over (l.map .y) i [.y b] = (l.set i b).map .y := by
  rw [List.set_eq_take_append_cons_drop, if_pos h]; simp [over]
theorem over_set_yC {l : List UInt8} {cs : List AV} {i : Nat} {b : UInt8} (e : cs = l.map .y) (h : i < l.length) : over cs i [.y b] = (l.set i b).map .y := e ▸ over_set_y l i b h
theorem over_set_i (l : List Int) (i : Nat) (b : Int) (h : i < l.length) : over (l.map .i) i [.i b] = (l.set i b).map .i := by
  rw [List.set_eq_take_append_cons_drop, if_pos h]; simp [over]
theorem over_set_iC {l : List Int} {cs : List AV} {i : Nat} {b : Int} (e : cs = l.map .i) (h : i < l.length) : over cs i [.i b] = (l.set i b).map .i := e ▸ over_set_i l i b h
theorem over_set_b (l : List Bool) (i : Nat) (b : Bool) (h : i < l.length) : over (l.map .b) i [.b b] = (l.set i b).map .b := by
  rw [List.set_eq_take_append_cons_drop, if_pos h]; simp [over]
theorem over_set_bC {l : List Bool} {cs : List AV} {i : Nat} {b : Bool} (e : cs = l.map .b) (h : i < l.length) : over cs i [.b b] = (l.set i b).map .b := e ▸ over_set_b l i b h
theorem over_pre_y {p : List AV} {l : List UInt8} {n k : Nat} {v : UInt8} (hn : n = p.length + k) (h : k < l.length) : over (p ++ l.map .y) n [.y v] = p ++ (l.set k v).map .y := by rw [hn, over_app, over_set_y l k v h]
theorem over_pre_i {p : List AV} {l : List Int} {n k : Nat} {v : Int} (hn : n = p.length + k) (h : k < l.length) : over (p ++ l.map .i) n [.i v] = p ++ (l.set k v).map .i := by rw [hn, over_app, over_set_i l k v h]
theorem over_pre_b {p : List AV} {l : List Bool} {n k : Nat} {v : Bool} (hn : n = p.length + k) (h : k < l.length) : over (p ++ l.map .b) n [.b v] = p ++ (l.set k v).map .b := by rw [hn, over_app, over_set_b l k v h]
@[simp] theorem Pl_b (fr : Bool) (l : List Bool) : Pl fr (l.map .b) := by
  intro v hv
  obtain ⟨b, _, rfl⟩ := List.mem_map.1 hv
  rfl
theorem one_drop_b (l : List Bool) (i : Nat) (h : i < l.length) : ((l.map AV.b).drop i).take 1 = [AV.b (l.getD i false)] := by
  rw [← List.map_drop, ← List.map_take]
  have : (l.drop i).take 1 = [l.getD i false] := by
    rw [List.drop_eq_getElem_cons h, List.take_succ_cons, List.take_zero]; simp [h]
  rw [this]; rfl
theorem one_drop_i (l : List Int) (i : Nat) (h : i < l.length) : ((l.map AV.i).drop i).take 1 = [AV.i (l.getD i 0)] := by
  rw [← List.map_drop, ← List.map_take]
  have : (l.drop i).take 1 = [l.getD i 0] := by
    rw [List.drop_eq_getElem_cons h, List.take_succ_cons, List.take_zero]; simp [h]
  rw [this]; rfl
theorem one_drop_iC {l : List Int} {cs : List AV} {i : Nat} (e : cs = l.map .i) (h : i < l.length) : (cs.drop i).take 1 = [AV.i (l.getD i 0)] := e ▸ one_drop_i l i h
theorem one_drop_bC {l : List Bool} {cs : List AV} {i : Nat} (e : cs = l.map .b) (h : i < l.length) : (cs.drop i).take 1 = [AV.b (l.getD i false)] := e ▸ one_drop_b l i h
def lp (P : Program) (f n : Nat) : Code := match afun P f with | some af => (loopsOf af.body).getD n .skip | none => .skip
section
variable {P : Program} {cf : Cfg}
theorem leafS {V : View} (hV : V = View.of P) {k base : Nat} {c : Code} {S S' : St} {hs : List Hint} {st1 : St} {ps : List Prop} {r : List Hint} (h : exec P cf (codeF V cf k c S) hs = some ((.normal, st1), ps, r)) (hp : All ps) (hb : base ≤ S'.H.nx) (ha : AbsB base st1 S') : EvStep P cf base c S S' := by
  subst hV
  exact ⟨hb, st1, pathC h hp, ha⟩
end
section
variable {P : Program} {cf : Cfg}
theorem leafT {V : View} (hV : V = View.of P) {k base : Nat} {body c : Code} {l : Nat} {S S' : St} {hs : List Hint} {st1 : St} {ps : List Prop} {r : List Hint} (hf : findLabel body l = some c) (h : exec P cf (codeF V cf k c S) hs = some ((.goto l, st1), ps, r)) (hp : All ps) (hb : base ≤ S'.H.nx) (ha : AbsB base st1 S') : EvSStep P cf base body c S S' := by
  subst hV
  exact ⟨hb, l, st1, hf, pathC h hp, ha⟩
end
open Classical in
noncomputable def th {σ α : Type} (step : σ → Option σ) (s0 : σ) (f : σ → Option α) : Option α := if h : ∃ s, Runs step s0 s ∧ step s = none then f h.choose else none
theorem th_ok {σ α : Type} {step : σ → Option σ} {s0 : σ} {f : σ → Option α} {r : α} {G : Prop} (h1 : ∀ s, Runs step s0 s → f s = some r → G) (h : th step s0 f = some r) : G := by
  unfold th at h
  split at h
  · rename_i hh; exact h1 _ hh.choose_spec.1 h
  · cases h
theorem th_of {σ α : Type} {step : σ → Option σ} {s0 s : σ} {f : σ → Option α} {r : Option α} (h1 : Runs step s0 s) (h2 : step s = none) (h3 : f s = r) : th step s0 f = r := by
  have hh : ∃ s, Runs step s0 s ∧ step s = none := ⟨s, h1, h2⟩
  unfold th
  rw [dif_pos hh, hh.choose_spec.1.det hh.choose_spec.2 h1 h2]
  exact h3

theorem runs_end {σ : Type} {step : σ → Option σ} {I : σ → Prop} (m : σ → Nat) (hs : ∀ s s', I s → step s = some s' → I s' ∧ m s' < m s) : ∀ (n : Nat) (s : σ), m s ≤ n → I s → ∃ s', Runs step s s' ∧ I s' ∧ step s' = none := by
  intro n
  induction n with
  | zero =>
    intro s hm hI
    cases h : step s with
    | none => exact ⟨s, .refl s, hI, h⟩
    | some s' => have := (hs s s' hI h).2; omega
  | succ n ih =>
    intro s hm hI
    cases h : step s with
    | none => exact ⟨s, .refl s, hI, h⟩
    | some s' =>
      obtain ⟨h1, h2⟩ := hs s s' hI h
      obtain ⟨s'', r, g1, g2⟩ := ih s' (by omega) h1
      exact ⟨s'', .step h r, g1, g2⟩
/-- A loop by what stays, and what falls. -/
theorem th_inv {σ α : Type} {step : σ → Option σ} {s0 : σ} {f : σ → Option α} {r : Option α} (I : σ → Prop) (m : σ → Nat) (h0 : I s0) (hs : ∀ s s', I s → step s = some s' → I s' ∧ m s' < m s) (he : ∀ s, I s → step s = none → f s = r) : th step s0 f = r := by
  obtain ⟨s', h1, h2, h3⟩ := runs_end m hs (m s0) s0 (Nat.le_refl _) h0
  exact th_of h1 h3 (he s' h2 h3)

/-! ### Trees -/
section
variable {α β : Type}
def tb (c : Bool) (x y : Option α) : Option α := bif c then x else y
def tp (p : Prop) [Decidable p] (x : Option α) : Option α := if p then x else none
def tc (m : Option β) (f : β → Option α) : Option α := m.bind f
theorem tb_ok {c : Bool} {x y : Option α} {r : α} {G : Prop} (h1 : c = true → x = some r → G) (h2 : c = false → y = some r → G) (h : tb c x y = some r) : G := by
  cases c with
  | true => exact h1 rfl h
  | false => exact h2 rfl h
theorem tp_ok {p : Prop} [Decidable p] {x : Option α} {r : α} {G : Prop} (h1 : p → x = some r → G) (h : tp p x = some r) : G := by
  unfold tp at h
  split at h
  · rename_i hp; exact h1 hp h
  · cases h
theorem tc_ok {m : Option β} {f : β → Option α} {r : α} {G : Prop} (h1 : ∀ s, m = some s → f s = some r → G) (h : tc m f = some r) : G := by
  unfold tc at h
  cases hm : m with
  | none => rw [hm] at h; cases h
  | some s => rw [hm] at h; exact h1 s hm h
theorem tl_ok {v r : α} {G : α → Prop} (h : G v) (e : some v = some r) : G r := by
  injection e with e; exact e ▸ h
end
/-! TACTICS -/
theorem tq {p : Prop} (h : p := by (first | rfl | assumption | (simp; done) | omega | (simp; omega) | ((try simp only [List.length_map, List.length_take, List.length_drop, List.length_append, List.length_cons, List.length_nil, List.length_replicate, List.length_set, zos_len, exs_len, sps_len, ces_len, pos_len, sas_len, chs_len, sms_len] at *); omega) | (simp [imin, imax]; (repeat' split) <;> omega) | (simp [Zo.cells, Zo.av, zos, Ex.cells, Ex.av, exs, Sp.cells, Sp.av, sps, Ce.cells, Ce.av, ces, Po.cells, Po.av, pos, Sa.cells, Sa.av, sas, Ch.cells, Ch.av, chs, Sm.cells, Sm.av, sms, bys, ints, bools]; done) | (simp [List.take_of_length_le, Zo.cells, Zo.av, zos, Ex.cells, Ex.av, exs, Sp.cells, Sp.av, sps, Ce.cells, Ce.av, ces, Po.cells, Po.av, pos, Sa.cells, Sa.av, sas, Ch.cells, Ch.av, chs, Sm.cells, Sm.av, sms, bys, ints, bools]; done) | (simp only [Zo.cells, Zo.av, zos, Ex.cells, Ex.av, exs, Sp.cells, Sp.av, sps, Ce.cells, Ce.av, ces, Po.cells, Po.av, pos, Sa.cells, Sa.av, sas, Ch.cells, Ch.av, chs, Sm.cells, Sm.av, sms, bys, ints, bools, AV.tu.injEq, AV.ag.injEq, AV.sl.injEq, AV.rf.injEq, AV.i.injEq, AObj.cells.injEq, AH.mk.injEq, Prod.mk.injEq, List.cons.injEq, and_true, true_and, List.flatMap_append, List.flatMap_cons, List.flatMap_nil, List.append_nil, List.nil_append, List.cons_append, List.append_assoc, List.append_cancel_left_eq, List.map_take, List.map_drop, List.map_append, List.length_map, List.length_take, List.length_drop, List.length_append, List.length_cons, List.length_nil, List.length_replicate, List.length_set, zos_len, exs_len, sps_len, ces_len, pos_len, sas_len, chs_len, sms_len]; (repeat' apply And.intro) <;> (first | rfl | omega | (simp; done) | (simp; omega))) | ((try simp only [List.length_map, List.length_take, List.length_drop, List.length_append, List.length_cons, List.length_nil, List.length_replicate, List.length_set, zos_len, exs_len, sps_len, ces_len, pos_len, sas_len, chs_len, sms_len] at *); simp only [Zo.cells, Zo.av, zos, Ex.cells, Ex.av, exs, Sp.cells, Sp.av, sps, Ce.cells, Ce.av, ces, Po.cells, Po.av, pos, Sa.cells, Sa.av, sas, Ch.cells, Ch.av, chs, Sm.cells, Sm.av, sms, bys, ints, bools, AV.tu.injEq, AV.ag.injEq, AV.sl.injEq, AV.rf.injEq, AV.i.injEq, AObj.cells.injEq, AH.mk.injEq, Prod.mk.injEq, List.cons.injEq, and_true, true_and, List.flatMap_append, List.flatMap_cons, List.flatMap_nil, List.append_nil, List.nil_append, List.cons_append, List.append_assoc, List.append_cancel_left_eq, List.map_take, List.map_drop, List.map_append, List.length_map, List.length_take, List.length_drop, List.length_append, List.length_cons, List.length_nil, List.length_replicate, List.length_set, zos_len, exs_len, sps_len, ces_len, pos_len, sas_len, chs_len, sms_len]; (repeat' apply And.intro) <;> (first | rfl | omega)) | (simp only [zos_drop, zos_take, exs_drop, exs_take, sps_drop, sps_take, ces_drop, ces_take, pos_drop, pos_take, sas_drop, sas_take, chs_drop, chs_take, sms_drop, sms_take]; done) | (simp [List.map_take, List.map_drop, List.take_take, List.drop_drop]; done) | (exact ce_rep _ _ rfl) | ((try simp only [List.length_map, List.length_take, List.length_drop, List.length_append, List.length_cons, List.length_nil, List.length_replicate, List.length_set, zos_len, exs_len, sps_len, ces_len, pos_len, sas_len, chs_len, sms_len] at *); simp only [Zo.cells, Zo.av, zos, Ex.cells, Ex.av, exs, Sp.cells, Sp.av, sps, Ce.cells, Ce.av, ces, Po.cells, Po.av, pos, Sa.cells, Sa.av, sas, Ch.cells, Ch.av, chs, Sm.cells, Sm.av, sms, bys, ints, bools, AV.tu.injEq, AV.ag.injEq, AV.sl.injEq, AV.rf.injEq, AV.i.injEq, AObj.cells.injEq, AH.mk.injEq, Prod.mk.injEq, List.cons.injEq, and_true, true_and, List.flatMap_append, List.flatMap_cons, List.flatMap_nil, List.append_nil, List.nil_append, List.cons_append, List.append_assoc, List.append_cancel_left_eq, List.map_take, List.map_drop, List.map_append, List.length_map, List.length_take, List.length_drop, List.length_append, List.length_cons, List.length_nil, List.length_replicate, List.length_set, zos_len, exs_len, sps_len, ces_len, pos_len, sas_len, chs_len, sms_len, zos_drop, zos_take, exs_drop, exs_take, sps_drop, sps_take, ces_drop, ces_take, pos_drop, pos_take, sas_drop, sas_take, chs_drop, chs_take, sms_drop, sms_take]; (repeat' apply And.intro) <;> (first | rfl | omega)))) : p := h
theorem oq {p : Prop} (h : p := by (first | rfl | (simp [ownV, ownT, ownA, ownL, own1, AH.new]; done) | (simp [ownV, ownT, ownA, ownL, own1, AH.new]; omega) | (simp [ownV, ownT, ownA, ownL, own1, AH.new, Zo.cells, Zo.av, zos, Ex.cells, Ex.av, exs, Sp.cells, Sp.av, sps, Ce.cells, Ce.av, ces, Po.cells, Po.av, pos, Sa.cells, Sa.av, sas, Ch.cells, Ch.av, chs, Sm.cells, Sm.av, sms, bys, ints, bools]; done) | (simp only [ownV, ownT, ownA, ownL, own1, AH.new, Zo.cells, Zo.av, zos, Ex.cells, Ex.av, exs, Sp.cells, Sp.av, sps, Ce.cells, Ce.av, ces, Po.cells, Po.av, pos, Sa.cells, Sa.av, sas, Ch.cells, Ch.av, chs, Sm.cells, Sm.av, sms, bys, ints, bools, List.headD_cons, List.tail_cons, Nat.beq, cond_false, cond_true]; simp; done) | (simp only [ownV, ownT, ownA, ownL, own1, AH.new, List.headD_cons, List.tail_cons, Nat.beq, cond_false, cond_true, Zo.cells, Zo.av, zos, Ex.cells, Ex.av, exs, Sp.cells, Sp.av, sps, Ce.cells, Ce.av, ces, Po.cells, Po.av, pos, Sa.cells, Sa.av, sas, Ch.cells, Ch.av, chs, Sm.cells, Sm.av, sms, bys, ints, bools, AV.tu.injEq, AV.ag.injEq, AV.sl.injEq, AV.rf.injEq, AV.i.injEq, AObj.cells.injEq, AH.mk.injEq, Prod.mk.injEq, List.cons.injEq, and_true, true_and, List.flatMap_append, List.flatMap_cons, List.flatMap_nil, List.append_nil, List.nil_append, List.cons_append, List.append_assoc, List.append_cancel_left_eq, List.map_take, List.map_drop, List.map_append, List.length_map, List.length_take, List.length_drop, List.length_append, List.length_cons, List.length_nil, List.length_replicate, List.length_set, zos_len, exs_len, sps_len, ces_len, pos_len, sas_len, chs_len, sms_len]; (repeat' apply And.intro) <;> (first | rfl | omega | (simp; done) | (simp; omega))))) : p := h
theorem bq {p : Prop} (h : p := by (first | omega | (simp; omega) | ((try simp only [List.length_map, List.length_take, List.length_drop, List.length_append, List.length_cons, List.length_nil, List.length_replicate, List.length_set, zos_len, exs_len, sps_len, ces_len, pos_len, sas_len, chs_len, sms_len] at *); omega))) : p := h
theorem pq {p : Prop} (h : p := by (first | (simp; done) | (repeat (first | exact Pl_nil _ | exact Pl_y _ _ | exact Pl_i _ _ | exact Pl_b _ _ | exact Pl_zos _ | exact Pl_exs _ | exact Pl_sps _ | exact Pl_ces _ | exact Pl_pos _ | exact Pl_sas _ | exact Pl_chs _ | exact Pl_sms _ | (simp; done) | apply Pl_take | apply Pl_drop)))) : p := h
theorem fq {p : Prop} (h : p := by ((try simp only [List.length_map, List.length_take, List.length_drop, List.length_append, List.length_cons, List.length_nil, List.length_replicate, List.length_set, zos_len, exs_len, sps_len, ces_len, pos_len, sas_len, chs_len, sms_len] at *); omega)) : p := h
/-! TACTICS END -/
end Go.Proofs.Ytadipihpgcelmaa.Ab
