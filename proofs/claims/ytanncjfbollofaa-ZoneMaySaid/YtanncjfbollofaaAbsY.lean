/- Plain data as the interpreter's values; functions told as trees of decisions. -/
import Derived.Test.YtanncjfbollofaaAbsX
import Derived.KernelRfl
namespace Go.Proofs.Ytanncjfbollofaa.Ab
open Go
set_option linter.unusedVariables false
set_option linter.unusedSimpArgs false

/-- A zone; bytes. -/
structure Zo where
  st : Int
  rs : Int
  d : List UInt8
  la : Int
  deriving DecidableEq
/-- An extent. -/
structure Ex where
  lba : Int
  len : Int
  kind : Int
  gen : Int
  d : List UInt8
  deriving DecidableEq
/-- A step of a zone's law. -/
structure Sp where
  k : Int
  d : List UInt8
  n : Int
  deriving DecidableEq
def bys (l : List UInt8) : AV := .sl l.length (l.map .y)
def ints (l : List Int) : AV := .sl l.length (l.map .i)
def Zo.av (z : Zo) : AV := .ag [.i z.st, .i z.rs, bys z.d, .i z.la]
def Ex.cells (x : Ex) : List AV := [.i x.lba, .i x.len, .i x.kind, .i x.gen, bys x.d]
def Ex.av (x : Ex) : AV := .ag x.cells
def Sp.cells (x : Sp) : List AV := [.i x.k, bys x.d, .i x.n]
def Sp.av (x : Sp) : AV := .ag x.cells
def sps (l : List Sp) : AV := .sl l.length (l.flatMap Sp.cells)
def exs (l : List Ex) : AV := .sl l.length (l.flatMap Ex.cells)
attribute [simp] bys ints Zo.av Ex.av exs Sp.av sps
/-- The smaller of two numbers, the greater one, as the machine tells them. -/
abbrev wr (n : Int) : Int := IntKind.i64.wrap n
def imin (a b : Int) : Int := if b < a then b else a
def imax (a b : Int) : Int := if b > a then b else a
theorem imin_eq (a b : Int) : imin a b = min a b := by unfold imin; omega
theorem imax_eq (a b : Int) : imax a b = max a b := by unfold imax; omega
def au (n : Nat) : List Hint := List.replicate n .auto
def hz : List (Nat × List Hint) → List Hint
  | [] => []
  | (n, l) :: r => au n ++ (l ++ hz r)

@[simp] theorem bytesOf_map : ∀ l : List UInt8, bytesOf (l.map .y) = some l
  | [] => rfl
  | b :: l => by simp [bytesOf, bytesOf_map l]
@[simp] theorem bytesOf_nil : bytesOf [] = some [] := rfl
@[simp] theorem bytesOf_cons (b : UInt8) (l : List AV) : bytesOf (.y b :: l) = (bytesOf l).map (b :: ·) := rfl
@[simp] theorem bytesOf_append : ∀ a b : List AV, bytesOf (a ++ b) = (bytesOf a).bind fun x => (bytesOf b).map (x ++ ·)
  | [], b => by cases h : bytesOf b <;> simp [h]
  | v :: a, b => by
    cases v <;> simp only [List.cons_append, bytesOf, Option.bind_none]
    rw [bytesOf_append a b]
    cases bytesOf a <;> cases bytesOf b <;> simp
@[simp] theorem bytesOf_rep (n : Nat) (b : UInt8) : bytesOf (List.replicate n (.y b)) = some (List.replicate n b) := by
  have := bytesOf_map (List.replicate n b)
  rwa [List.map_replicate] at this
theorem eqCells_y : ∀ (a b : List UInt8), a.length = b.length → eqCells (a.map .y) (b.map .y) = some (a == b)
  | [], [], _ => rfl
  | [], _ :: _, h => by cases h
  | _ :: _, [], h => by cases h
  | x :: a, y :: b, h => by
    simp only [List.map_cons, eqCells, eqCell, eqCells_y a b (by simpa using h)]
    rfl
theorem eqCells_of {a b : List UInt8} {xs ys : List AV} (e1 : xs = a.map .y) (e2 : ys = b.map .y) (h : a.length = b.length) : eqCells xs ys = some (a == b) := by
  subst e1; subst e2; exact eqCells_y a b h
theorem map_y_rep (n : Nat) (b : UInt8) : (repl n [AV.y b]) = (List.replicate n b).map .y := by
  simp [repl]
@[simp] theorem purV_y (h : AH) (fr : Bool) (k : Nat) (b : UInt8) : purV h fr (k + 1) (.y b) = some (.y b, []) := rfl
@[simp] theorem purV_i (h : AH) (fr : Bool) (k : Nat) (b : Int) : purV h fr (k + 1) (.i b) = some (.i b, []) := rfl
@[simp] theorem mapP_append {f : AV → Option (AV × List Nat)} {l m : List AV} (h1 : mapP f l = some (l, [])) (h2 : mapP f m = some (m, [])) : mapP f (l ++ m) = some (l ++ m, []) := by
  induction l with
  | nil => simpa using h2
  | cons v l ih =>
    simp only [mapP] at h1
    cases hv : f v with
    | none => rw [hv] at h1; cases h1
    | some q =>
      obtain ⟨q1, q2⟩ := q
      rw [hv] at h1
      cases hl : mapP f l with
      | none => rw [hl] at h1; cases h1
      | some p =>
        obtain ⟨p1, p2⟩ := p
        rw [hl] at h1
        simp only [Option.some.injEq, Prod.mk.injEq, List.cons.injEq, List.append_eq_nil_iff] at h1
        obtain ⟨⟨rfl, rfl⟩, rfl, rfl⟩ := h1
        simp only [List.cons_append, mapP, hv, ih hl, List.append_nil]
@[simp] theorem Pl_nil (fr : Bool) : Pl fr [] := fun _ h => by cases h
@[simp] theorem Pl_cons (fr : Bool) (v : AV) (l : List AV) : Pl fr (v :: l) ↔ plain fr v = true ∧ Pl fr l := by simp [Pl]
@[simp] theorem Pl_append (fr : Bool) (a b : List AV) : Pl fr (a ++ b) ↔ Pl fr a ∧ Pl fr b := by
  simp only [Pl, List.mem_append]
  exact ⟨fun h => ⟨fun v hv => h v (.inl hv), fun v hv => h v (.inr hv)⟩, fun h v hv => hv.elim (h.1 v) (h.2 v)⟩
@[simp] theorem Pl_y (fr : Bool) (l : List UInt8) : Pl fr (l.map .y) := by
  intro v hv
  obtain ⟨b, _, rfl⟩ := List.mem_map.1 hv
  rfl
@[simp] theorem Pl_i (fr : Bool) (l : List Int) : Pl fr (l.map .i) := by
  intro v hv
  obtain ⟨b, _, rfl⟩ := List.mem_map.1 hv
  rfl
@[simp] theorem Pl_take (fr : Bool) (l : List AV) (n : Nat) (h : Pl fr l) : Pl fr (l.take n) := fun v hv => h v (List.mem_of_mem_take hv)
@[simp] theorem Pl_drop (fr : Bool) (l : List AV) (n : Nat) (h : Pl fr l) : Pl fr (l.drop n) := fun v hv => h v (List.mem_of_mem_drop hv)
@[simp] theorem Pl_rep (fr : Bool) (v : AV) (n : Nat) (h : plain fr v = true) : Pl fr (List.replicate n v) := fun u hu => by rw [List.eq_of_mem_replicate hu]; exact h
@[simp] theorem Pl_exs (l : List Ex) : Pl false (l.flatMap Ex.cells) := by
  intro v hv
  obtain ⟨x, _, hx⟩ := List.mem_flatMap.1 hv
  simp only [Ex.cells, bys, List.mem_cons, List.not_mem_nil, or_false] at hx
  rcases hx with rfl | rfl | rfl | rfl | rfl <;> rfl
@[simp] theorem Pl_rep_y (fr : Bool) (b : UInt8) (n : Nat) : Pl fr (List.replicate n (.y b)) := Pl_rep _ _ _ rfl
@[simp] theorem Pl_rep_i (fr : Bool) (b : Int) (n : Nat) : Pl fr (List.replicate n (.i b)) := Pl_rep _ _ _ rfl
@[simp] theorem Pl_sps (l : List Sp) : Pl false (l.flatMap Sp.cells) := by
  intro v hv
  obtain ⟨x, _, hx⟩ := List.mem_flatMap.1 hv
  simp only [Sp.cells, bys, List.mem_cons, List.not_mem_nil, or_false] at hx
  rcases hx with rfl | rfl | rfl <;> rfl
@[simp] theorem plain_y1 (fr : Bool) (b : UInt8) : plain fr (.y b) = true := rfl
@[simp] theorem plain_i1 (fr : Bool) (b : Int) : plain fr (.i b) = true := rfl
@[simp] theorem plain_b1 (fr : Bool) (b : Bool) : plain fr (.b b) = true := rfl
@[simp] theorem plain_sl (n : Nat) (cs : List AV) : plain false (.sl n cs) = true := rfl
@[simp] theorem repl_y (n : Nat) (b : UInt8) : repl n [AV.y b] = List.replicate n (AV.y b) := by simp [repl]
@[simp] theorem flat_rep_y (n : Nat) (b : UInt8) : (List.replicate n [AV.y b]).flatten = List.replicate n (AV.y b) := by simp
theorem one_drop (l : List UInt8) (i : Nat) (h : i < l.length) : ((l.map AV.y).drop i).take 1 = [AV.y (l.getD i 0)] := by
  rw [← List.map_drop, ← List.map_take]
  have : (l.drop i).take 1 = [l.getD i 0] := by
    rw [List.drop_eq_getElem_cons h, List.take_succ_cons, List.take_zero]; simp [h]
  rw [this]; rfl

theorem purV_weak {h : AH} : ∀ (k : Nat) (v : AV) (r : AV × List Nat), purV h true k v = some r → purV h false k v = some r
  | 0, v, r, e => by cases e
  | k + 1, v, r, e => by
    have hm : ∀ (l : List AV) (q : List AV × List Nat), mapP (purV h true k) l = some q → mapP (purV h false k) l = some q := by
      intro l
      induction l with
      | nil => exact fun q e => e
      | cons v l ih =>
        intro q e
        simp only [mapP] at e ⊢
        cases hv : purV h true k v with
        | none => rw [hv] at e; cases e
        | some a =>
          rw [hv] at e
          rw [purV_weak k v a hv]
          cases hl : mapP (purV h true k) l with
          | none => rw [hl] at e; cases e
          | some b => rw [hl] at e; rw [ih b hl]; exact e
    cases v with
    | sl n cs =>
      simp only [purV] at e ⊢
      split at e
      · cases e
      · simpa using e
    | rf b z off n =>
      simp only [purV] at e ⊢
      split at e
      · rename_i cs hcs
        split at e
        · rename_i hle
          rw [if_pos hle]
          cases hl : mapP (purV h true k) ((cs.drop off).take (n * z)) with
          | none => rw [hl] at e; cases e
          | some b => rw [hl] at e; rw [hm _ _ hl]; exact e
        · cases e
      · cases e
    | ag xs =>
      simp only [purV] at e ⊢
      cases hl : mapP (purV h true k) xs with
      | none => rw [hl] at e; cases e
      | some b => rw [hl] at e; rw [hm _ _ hl]; exact e
    | tu xs =>
      simp only [purV] at e ⊢
      cases hl : mapP (purV h true k) xs with
      | none => rw [hl] at e; cases e
      | some b => rw [hl] at e; rw [hm _ _ hl]; exact e
    | ip cs => simp [purV] at e
    | _ => exact e
section
variable {P : Program} {cf : Cfg}
theorem EvFr.any {fr : Bool} {f : FuncId} {args : List AV} {v : AV} (h : EvFr P cf true f args v) : EvFr P cf fr f args v := by
  obtain ⟨v1, h1, bs, e1, e2⟩ := h
  refine ⟨v1, h1, bs, e1, ?_⟩
  cases fr with
  | true => exact e2
  | false => exact purV_weak _ _ _ e2
theorem EvFr.cast {fr : Bool} {f : FuncId} {args args' : List AV} {v : AV} (h : EvFr P cf fr f args v) (e : args = args') : EvFr P cf fr f args' v := e ▸ h
theorem leafR {V : View} (hV : V = View.of P) {k : Nat} {fr : Bool} {f : FuncId} {args : List AV} {hs : List Hint} {raw v : AV} {ps : List Prop} {r : List Hint} (h : exec P cf (funR V cf k fr f args) hs = some (raw, ps, r)) (hp : All ps) (hv : raw = v) : EvFr P cf fr f args v := by
  subst hV
  exact hv ▸ pathR h hp
/-- A whole call by evaluation. -/
theorem EvFr.of_aCall {k : Nat} {f : FuncId} {args : List AV} {v : AV} (h : aCall P cf k f args = some v) : EvFr P cf false f args v := by
  unfold aCall at h
  split at h
  · rename_i v1 h1 he
    cases hp : purV h1 false depthA v1 with
    | none => rw [hp] at h; cases h
    | some q =>
      obtain ⟨q1, q2⟩ := q
      rw [hp] at h
      simp only [Option.map_some, Option.some.injEq] at h
      subst h
      exact ⟨v1, h1, q2, fun g => ⟨aCode P cf k, aCode_sound g.mixed g.clones k, he⟩, hp⟩
  · cases h
theorem purV_bool {h : AH} {fr : Bool} {k : Nat} {v : AV} {b : Bool} {bs : List Nat} (e : purV h fr (k + 1) v = some (.b b, bs)) : v = .b b ∧ bs = [] := by
  cases v with
  | b c => simp only [purV, Option.some.injEq, Prod.mk.injEq, AV.b.injEq] at e; obtain ⟨rfl, rfl⟩ := e; exact ⟨rfl, rfl⟩
  | rf bb z off n =>
    simp only [purV] at e
    split at e
    · split at e
      · split at e <;> simp at e
      · cases e
    · cases e
  | ag xs => simp only [purV] at e; cases hm : mapP (purV h fr k) xs <;> rw [hm] at e <;> simp at e
  | tu xs => simp only [purV] at e; cases hm : mapP (purV h fr k) xs <;> rw [hm] at e <;> simp at e
  | fn f cap => cases cap <;> simp [purV] at e
  | sl n cs => simp only [purV] at e; split at e <;> simp at e
  | ip cs => simp only [purV] at e; split at e <;> simp at e
  | _ => simp [purV] at e
theorem EvFr.of_bool {fr : Bool} {k : Nat} {f : FuncId} {args : List AV} {b : Bool} (h : aCall P cf k f args = some (.b b)) : EvFr P cf fr f args (.b b) := by
  obtain ⟨v1, h1, bs, e1, e2⟩ := EvFr.of_aCall h
  obtain ⟨rfl, rfl⟩ := purV_bool (k := 11) e2
  exact ⟨_, h1, [], e1, rfl⟩
/-- A law's call. -/
theorem fr_calls (g : Good P cf) {f : FuncId} {args : List AV} {r : AV} (h : EvFr P cf false f args r) {C : Ctx} {w : World} {vs : List Value} {R : Ending → World → Prop}
    (hS : Sim C AH.empty.get w) (hφ : ∀ b, C.φ b = none) (hl : LRel C w false args vs) (hR : ∀ C' w' x, Step C w C' w' → (∀ b, C'.φ b = none) → VRel C' w' r x → R (.returned x) w') : Calls P f vs.toArray w R := by
  obtain ⟨v, h1, bs, he, hp⟩ := h
  obtain ⟨rec, hrec, he⟩ := he g
  obtain ⟨_, hfn, hE⟩ := enterA_rel hrec he
  refine callsIn_wide.1 (hE C w vs 0 R hS (fun b _ => hφ b) hl fun C' w' x g1 g2 g3 g4 => ?_)
  have hv := purV_rel g2 false depthA v r bs x hp (fun _ _ => rfl) g4
  refine hR (PC C' false bs) w' x ⟨fun b rb e => ?_, fun b rb e => (by cases e), fun b e => .inl ⟨rfl, g1.imm b e⟩, fun b e => ?_, g1.size, g1.keep, g1.immkeep, g1.sizes, g1.env⟩ (fun _ => rfl) hv
  · rw [hφ] at e; cases e
  · rcases e with ⟨_, e⟩ | ⟨i, _, e⟩
    · rcases g1.immnew b e with g | g | ⟨i, g⟩
      · exact .inl g
      · exact .inr (.inl g)
      · exact .inr (.inr ⟨i, g⟩)
    · rcases g1.φnew i b e with g | g | ⟨j, g⟩
      · exact .inr (.inr ⟨i, g⟩)
      · exact .inr (.inl g)
      · exact .inr (.inr ⟨j, g⟩)
theorem true_below' (hm : P.follows .mixedOrders = true) (hcl : CloneOk P cf.clone) {f : FuncId} {args : List AV} (h : EvFr P cf false f args (.b true)) {w : World} {vs : List Value} (hl : LRel (C0 w) w false args vs) :
    Calls P f vs.toArray w fun e w' => e = .returned (.bool true) ∧ RowKit.Below w.heap.size w w' := by
  refine fr_calls ⟨hm, hcl⟩ h (sim_C0 w) (fun _ => rfl) hl fun C' w' x hs _ hv => ?_
  simp only [VRel] at hv
  subst hv
  have he := hs.env
  simp only [envOf, Prod.mk.injEq] at he
  exact ⟨rfl, he.1, he.2.1, he.2.2, hs.size, fun b hb => hs.keep b hb fun i e => by cases e⟩
end

/-! ### A program's types and functions in tables -/
def tiGet (P : Program) : List (Nat × TI) → Nat → Option TI
  | [], t => tinfo P t
  | (u, i) :: l, t => bif Nat.beq u t then some i else tiGet P l t
def faGet (P : Program) : List (Nat × AF) → Nat → Option AF
  | [], t => afun P t
  | (u, i) :: l, t => bif Nat.beq u t then some i else faGet P l t
theorem tiGet_eq {P : Program} : ∀ {l : List (Nat × TI)}, (∀ x ∈ l, tinfo P x.1 = some x.2) → tiGet P l = tinfo P
  | [], _ => rfl
  | (u, i) :: l, h => by
    funext t
    simp only [tiGet, nbeq, tiGet_eq (l := l) fun x hx => h x (by simp [hx])]
    by_cases e : u = t
    · subst e; simpa using (h (u, i) (by simp)).symm
    · simp [e]
theorem faGet_eq {P : Program} : ∀ {l : List (Nat × AF)}, (∀ x ∈ l, afun P x.1 = some x.2) → faGet P l = afun P
  | [], _ => rfl
  | (u, i) :: l, h => by
    funext t
    simp only [faGet, nbeq, faGet_eq (l := l) fun x hx => h x (by simp [hx])]
    by_cases e : u = t
    · subst e; simpa using (h (u, i) (by simp)).symm
    · simp [e]
def View.mkT (P : Program) (ts : List (Nat × TI)) (fs : List (Nat × AF)) : View := ⟨P, tiGet P ts, faGet P fs⟩
theorem View.mkT_eq {P : Program} {ts : List (Nat × TI)} {fs : List (Nat × AF)} (h1 : ∀ x ∈ ts, tinfo P x.1 = some x.2) (h2 : ∀ x ∈ fs, afun P x.1 = some x.2) : View.mkT P ts fs = View.of P := by
  unfold View.mkT View.of
  rw [tiGet_eq h1, faGet_eq h2]
theorem all_nil {α : Type} {p : α → Prop} : ∀ x ∈ ([] : List α), p x := fun _ h => by cases h
theorem all_cons {α : Type} {p : α → Prop} {a : α} {l : List α} (h : p a) (t : ∀ x ∈ l, p x) : ∀ x ∈ a :: l, p x := fun x hx => (List.mem_cons.1 hx).elim (fun e => e ▸ h) (t x)
def regsOf : Code → List (Array Oper)
  | .seq a b => regsOf a ++ regsOf b
  | .cond _ x y => regsOf x ++ regsOf y
  | .block _ c => regsOf c
  | .loop c => regsOf c
  | .scope c => regsOf c
  | .rangeFunc _ _ a b => regsOf a ++ regsOf b
  | .region _ ops true => [ops]
  | _ => []
/-- A function's regions that draw their order, one behind the other. -/
def rg (P : Program) (f n : Nat) : Array Oper := match afun P f with | some af => (regsOf af.body).getD n #[] | none => #[]
def rfsOf : Code → List (Code × Code)
  | .seq a b => rfsOf a ++ rfsOf b
  | .cond _ x y => rfsOf x ++ rfsOf y
  | .block _ c => rfsOf c
  | .loop c => rfsOf c
  | .scope c => rfsOf c
  | .rangeFunc _ _ a b => (a, b) :: (rfsOf a ++ rfsOf b)
  | _ => []
/-- A function's ranges over functions: how a round begins, and its body. -/
def rfA (P : Program) (f n : Nat) : Code := match afun P f with | some af => ((rfsOf af.body).getD n (.skip, .skip)).1 | none => .skip
def rfB (P : Program) (f n : Nat) : Code := match afun P f with | some af => ((rfsOf af.body).getD n (.skip, .skip)).2 | none => .skip
theorem ord_of {ops : Array Oper} {b : Array Nat} {fts : List Ft} (h : orderOk ops = true) (e : Region.before ops = b) (a : allOk b [] 0 fts = true) : orderOk ops = true ∧ allOk (Region.before ops) [] 0 fts = true := ⟨h, by rw [e]; exact a⟩
def afOf (fn : Func) : AF := { nt := fn.ntmps, res := fn.results.toList, body := fn.body.getD .skip }

/-! ### Loops -/
/-- A function's loops, one behind the other. -/
def loopsOf : Code → List Code
  | .seq a b => loopsOf a ++ loopsOf b
  | .cond _ x y => loopsOf x ++ loopsOf y
  | .block _ c => loopsOf c
  | .loop c => c :: loopsOf c
  | .scope c => loopsOf c
  | .rangeFunc _ _ a b => loopsOf a ++ loopsOf b
  | _ => []
/-! Rules for states told anew. -/
section
variable {R : Rn}
theorem VTo.eqv {x v : AV} (e : x = v) (hp : plain false v = true) : VTo R x v := by
  subst e
  refine .pur (bs := []) 1 (purV_plain hp) (by simp)
theorem VTo.frzn {b z off n : Nat} {cs : List AV} {v : AV} (hc : R.H.cells b = some cs) (hle : off + n * z ≤ cs.length) (hp : Pl false ((cs.drop off).take (n * z))) (hb : b ∈ R.frz) (e : .sl n ((cs.drop off).take (n * z)) = v) : VTo R (.rf b z off n) v := by
  subst e
  have key : ∀ k, mapP (purV R.H false k) ((cs.drop off).take (n * z)) = some ((cs.drop off).take (n * z), []) → purV R.H false (k + 1) (.rf b z off n) = some (.sl n ((cs.drop off).take (n * z)), [b]) := by
    intro k hk
    simp only [purV, hc]
    rw [if_pos hle, hk]
  exact .pur (bs := [b]) 2 (key 1 (pur_plain _ _ 0 _ hp)) (by simpa using hb)
theorem VTo.rfn {b b' z n n' : Nat} (h : R.m b' = some b) (e : n = n') : VTo R (.rf b z 0 n) (.rf b' z 0 n') := e ▸ .rf h
theorem VTo.nln {b' z n' : Nat} (e : n' = 0) : VTo R .nl (.rf b' z 0 n') := by subst e; exact .nl
theorem LTo.pl {l l' : List AV} (e : l = l') (hp : Pl false l') : LTo R l l' := by
  subst e
  exact .pur (bs := []) 1 (pur_plain _ _ 0 _ hp) (by simp)
theorem LTo.app {a b a' b' : List AV} (h1 : LTo R a a') (h2 : LTo R b b') : LTo R (a ++ b) (a' ++ b') := by
  induction a generalizing a' with
  | nil => rw [h1.empty]; exact h2
  | cons x a ih =>
    cases h1 with
    | cons hv ht => exact .cons hv (ih ht)
    | pur k hp hb =>
      simp only [mapP] at hp
      cases hx : purV R.H false k x with
      | none => rw [hx] at hp; cases hp
      | some q =>
        obtain ⟨x', b1⟩ := q
        rw [hx] at hp
        cases hr : mapP (purV R.H false k) a with
        | none => rw [hr] at hp; cases hp
        | some q2 =>
          obtain ⟨r', b2⟩ := q2
          rw [hr] at hp
          simp only [Option.some.injEq, Prod.mk.injEq] at hp
          obtain ⟨rfl, rfl⟩ := hp
          exact .cons (.pur k hx fun b h => hb b (List.mem_append_left _ h)) (ih (.pur k hr fun b h => hb b (List.mem_append_right _ h)))
theorem LTo.cast {l l' m m' : List AV} (e1 : l = m) (e2 : m' = l') (h : LTo R m m') : LTo R l l' := by subst e1; subst e2; exact h
theorem TTo.consn {T T' : Tm} {k : Nat} {x v : AV} (e : T.get k = x) (h : VTo R x v) (t : TTo R T T') : TTo R T ((k, v) :: T') := TTo.cons (e ▸ h) t
end
/-- An extent of a list. -/
def exAt (l : List Ex) (i : Nat) : Ex := l.getD i ⟨0, 0, 0, 0, []⟩
theorem ex_cells_len (x : Ex) : (Ex.cells x).length = 5 := rfl
@[simp] theorem exs_len (l : List Ex) : (l.flatMap Ex.cells).length = l.length * 5 := by
  induction l with
  | nil => rfl
  | cons x l ih => simp only [List.flatMap_cons, List.length_append, ih, ex_cells_len, List.length_cons]; omega
section
variable {α : Type} {c : α → List AV} {z : Nat} (hz : ∀ x, (c x).length = z)
include hz
theorem fl_len (l : List α) : (l.flatMap c).length = l.length * z := by
  induction l with
  | nil => simp
  | cons x l ih => rw [List.flatMap_cons, List.length_append, ih, hz, List.length_cons, Nat.add_mul, Nat.one_mul, Nat.add_comm]
theorem fl_drop (l : List α) (i : Nat) : (l.flatMap c).drop (i * z) = (l.drop i).flatMap c := by
  induction l generalizing i with
  | nil => simp
  | cons x l ih =>
    cases i with
    | zero => simp
    | succ i =>
      rw [List.flatMap_cons, List.drop_succ_cons, ← ih i, show (i + 1) * z = (c x).length + i * z by rw [hz, Nat.add_mul, Nat.one_mul, Nat.add_comm], List.drop_append]
      simp
theorem fl_at (d : α) (l : List α) (i : Nat) (h : i < l.length) : (l.flatMap c).drop (i * z) = c (l.getD i d) ++ (l.drop (i + 1)).flatMap c := by
  rw [fl_drop hz, List.drop_eq_getElem_cons h, List.flatMap_cons]
  simp [h]
theorem fl_take (d : α) (l : List α) (i : Nat) (h : i < l.length) : ((l.flatMap c).drop (i * z)).take z = c (l.getD i d) := by
  rw [fl_at hz d l i h, List.take_append_of_le_length (by rw [hz]; exact Nat.le_refl _), List.take_of_length_le (by rw [hz]; exact Nat.le_refl _)]
theorem fl_one (d : α) (l : List α) (i k : Nat) (v : AV) (h : i < l.length) (hv : (c (l.getD i d))[k]? = some v) : (((l.flatMap c).drop (i * z)).drop k).take 1 = [v] := by
  have hk : k < z := by
    rcases Nat.lt_or_ge k z with g | g
    · exact g
    · rw [List.getElem?_eq_none (by rw [hz]; exact g)] at hv; cases hv
  rw [fl_at hz d l i h, List.drop_append_of_le_length (by rw [hz]; omega)]
  have h2 : ((c (l.getD i d)).drop k) = v :: (c (l.getD i d)).drop (k + 1) := by
    rw [List.getElem?_eq_getElem (by rw [hz]; exact hk)] at hv
    injection hv with hv
    rw [← hv, List.drop_eq_getElem_cons]
  rw [h2]; rfl
end
theorem ex_hz : ∀ x : Ex, (Ex.cells x).length = 5 := fun _ => rfl
theorem sp_hz : ∀ x : Sp, (Sp.cells x).length = 3 := fun _ => rfl
theorem ex_take (l : List Ex) (i : Nat) (h : i < l.length) : ((l.flatMap Ex.cells).drop (i * 5)).take 5 = Ex.cells (exAt l i) := fl_take ex_hz _ l i h
theorem ex_one (l : List Ex) (i k : Nat) (v : AV) (h : i < l.length) (hv : (Ex.cells (exAt l i))[k]? = some v) : (((l.flatMap Ex.cells).drop (i * 5)).drop k).take 1 = [v] := fl_one ex_hz _ l i k v h hv
/-- A step of a list. -/
def spAt (l : List Sp) (i : Nat) : Sp := l.getD i ⟨0, [], 0⟩
@[simp] theorem sps_len (l : List Sp) : (l.flatMap Sp.cells).length = l.length * 3 := fl_len sp_hz l
theorem sp_take (l : List Sp) (i : Nat) (h : i < l.length) : ((l.flatMap Sp.cells).drop (i * 3)).take 3 = Sp.cells (spAt l i) := fl_take sp_hz _ l i h
theorem sp_one (l : List Sp) (i k : Nat) (v : AV) (h : i < l.length) (hv : (Sp.cells (spAt l i))[k]? = some v) : (((l.flatMap Sp.cells).drop (i * 3)).drop k).take 1 = [v] := fl_one sp_hz _ l i k v h hv
theorem one_drop_i (l : List Int) (i : Nat) (h : i < l.length) : ((l.map AV.i).drop i).take 1 = [AV.i (l.getD i 0)] := by
  rw [← List.map_drop, ← List.map_take]
  have : (l.drop i).take 1 = [l.getD i 0] := by
    rw [List.drop_eq_getElem_cons h, List.take_succ_cons, List.take_zero]; simp [h]
  rw [this]; rfl
def lp (P : Program) (f n : Nat) : Code := match afun P f with | some af => (loopsOf af.body).getD n .skip | none => .skip
section
variable {P : Program} {cf : Cfg}
theorem leafS {V : View} (hV : V = View.of P) {k base : Nat} {c : Code} {S S' : St} {hs : List Hint} {st1 : St} {ps : List Prop} {r : List Hint} (h : exec P cf (codeF V cf k c S) hs = some ((.normal, st1), ps, r)) (hp : All ps) (hb : base ≤ S'.H.nx) (ha : AbsB base st1 S') : EvStep P cf base c S S' := by
  subst hV
  exact ⟨hb, st1, pathC h hp, ha⟩
end
open Classical in
noncomputable def th {σ α : Type} (step : σ → Option σ) (s0 : σ) (f : σ → Option α) : Option α := if h : ∃ s, Runs step s0 s ∧ step s = none then f h.choose else none
theorem th_ok {σ α : Type} {step : σ → Option σ} {s0 : σ} {f : σ → Option α} {r : α} {G : Prop} (h1 : ∀ s, Runs step s0 s → f s = some r → G) (h : th step s0 f = some r) : G := by
  unfold th at h
  split at h
  · rename_i hh; exact h1 _ hh.choose_spec.1 h
  · cases h
theorem th_of {σ α : Type} {step : σ → Option σ} {s0 s : σ} {f : σ → Option α} {r : Option α} (h1 : Runs step s0 s) (h2 : step s = none) (h3 : f s = r) : th step s0 f = r := by
  have hh : ∃ s, Runs step s0 s ∧ step s = none := ⟨s, h1, h2⟩
  unfold th
  rw [dif_pos hh, hh.choose_spec.1.det hh.choose_spec.2 h1 h2]
  exact h3

theorem runs_end {σ : Type} {step : σ → Option σ} {I : σ → Prop} (m : σ → Nat) (hs : ∀ s s', I s → step s = some s' → I s' ∧ m s' < m s) : ∀ (n : Nat) (s : σ), m s ≤ n → I s → ∃ s', Runs step s s' ∧ I s' ∧ step s' = none := by
  intro n
  induction n with
  | zero =>
    intro s hm hI
    cases h : step s with
    | none => exact ⟨s, .refl s, hI, h⟩
    | some s' => have := (hs s s' hI h).2; omega
  | succ n ih =>
    intro s hm hI
    cases h : step s with
    | none => exact ⟨s, .refl s, hI, h⟩
    | some s' =>
      obtain ⟨h1, h2⟩ := hs s s' hI h
      obtain ⟨s'', r, g1, g2⟩ := ih s' (by omega) h1
      exact ⟨s'', .step h r, g1, g2⟩
/-- A loop by what stays, and what falls. -/
theorem th_inv {σ α : Type} {step : σ → Option σ} {s0 : σ} {f : σ → Option α} {r : Option α} (I : σ → Prop) (m : σ → Nat) (h0 : I s0) (hs : ∀ s s', I s → step s = some s' → I s' ∧ m s' < m s) (he : ∀ s, I s → step s = none → f s = r) : th step s0 f = r := by
  obtain ⟨s', h1, h2, h3⟩ := runs_end m hs (m s0) s0 (Nat.le_refl _) h0
  exact th_of h1 h3 (he s' h2 h3)

/-! ### Trees -/
section
variable {α β : Type}
def tb (c : Bool) (x y : Option α) : Option α := bif c then x else y
def tp (p : Prop) [Decidable p] (x : Option α) : Option α := if p then x else none
def tc (m : Option β) (f : β → Option α) : Option α := m.bind f
theorem tb_ok {c : Bool} {x y : Option α} {r : α} {G : Prop} (h1 : c = true → x = some r → G) (h2 : c = false → y = some r → G) (h : tb c x y = some r) : G := by
  cases c with
  | true => exact h1 rfl h
  | false => exact h2 rfl h
theorem tp_ok {p : Prop} [Decidable p] {x : Option α} {r : α} {G : Prop} (h1 : p → x = some r → G) (h : tp p x = some r) : G := by
  unfold tp at h
  split at h
  · rename_i hp; exact h1 hp h
  · cases h
theorem tc_ok {m : Option β} {f : β → Option α} {r : α} {G : Prop} (h1 : ∀ s, m = some s → f s = some r → G) (h : tc m f = some r) : G := by
  unfold tc at h
  cases hm : m with
  | none => rw [hm] at h; cases h
  | some s => rw [hm] at h; exact h1 s hm h
theorem tl_ok {v r : α} {G : α → Prop} (h : G v) (e : some v = some r) : G r := by
  injection e with e; exact e ▸ h
end
end Go.Proofs.Ytanncjfbollofaa.Ab
