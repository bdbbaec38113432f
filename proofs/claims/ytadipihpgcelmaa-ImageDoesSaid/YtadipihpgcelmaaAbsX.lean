/- One path at a time: what is open is asked for, and told as a condition. -/
import Derived.Test.YtadipihpgcelmaaAbsWA
namespace Go.Proofs.Ytadipihpgcelmaa.Ab
open Go
set_option linter.unusedVariables false
set_option linter.unusedSimpArgs false

theorem mapP_id {f : AV → Option (AV × List Nat)} : ∀ {l : List AV}, (∀ v ∈ l, f v = some (v, [])) → mapP f l = some (l, [])
  | [], _ => rfl
  | v :: l, h => by
    simp only [mapP, h v (by simp), mapP_id (l := l) fun u hu => h u (by simp [hu]), List.append_nil]
/-- Cells that hold no block of one's own; 'fr': nor anything of an elder slice. -/
def plain (fr : Bool) : AV → Bool
  | .i _ | .y _ | .b _ | .st _ | .sc _ => true
  | .sl _ _ => !fr
  | _ => false
def Pl (fr : Bool) (l : List AV) : Prop := ∀ v ∈ l, plain fr v = true
theorem purV_plain {h : AH} {fr : Bool} {k : Nat} {v : AV} (hv : plain fr v = true) : purV h fr (k + 1) v = some (v, []) := by
  cases v <;> first | rfl | cases hv | skip
  cases fr with
  | true => cases hv
  | false => simp [purV]
@[simp] theorem pur_plain (h : AH) (fr : Bool) (k : Nat) (l : List AV) (hl : Pl fr l) : mapP (purV h fr (k + 1)) l = some (l, []) :=
  mapP_id fun v hv => purV_plain (hl v hv)
theorem mapP_appB {f : AV → Option (AV × List Nat)} : ∀ {a b a' b' : List AV} {x y : List Nat}, mapP f a = some (a', x) → mapP f b = some (b', y) → mapP f (a ++ b) = some (a' ++ b', x ++ y)
  | [], b, a', b', x, y, h1, h2 => by
    simp only [mapP, Option.some.injEq, Prod.mk.injEq] at h1; obtain ⟨rfl, rfl⟩ := h1; simpa using h2
  | v :: a, b, a', b', x, y, h1, h2 => by
    simp only [mapP] at h1
    cases hv : f v with
    | none => rw [hv] at h1; cases h1
    | some q =>
      rw [hv] at h1
      cases ha : mapP f a with
      | none => rw [ha] at h1; cases h1
      | some p =>
        obtain ⟨p1, p2⟩ := p
        obtain ⟨q1, q2⟩ := q
        rw [ha] at h1
        simp only [Option.some.injEq, Prod.mk.injEq] at h1; obtain ⟨rfl, rfl⟩ := h1
        simp only [List.cons_append, mapP, hv, mapP_appB ha h2, List.append_assoc]
theorem mapP_consB {f : AV → Option (AV × List Nat)} {v v' : AV} {l l' : List AV} {x y : List Nat} (h1 : f v = some (v', x)) (h2 : mapP f l = some (l', y)) : mapP f (v :: l) = some (v' :: l', x ++ y) := by
  simp only [mapP, h1, h2]
theorem purV_rfB {h : AH} {fr : Bool} {k b z off n : Nat} {cs : List AV} (hc : h.cells b = some cs) (hle : off + n * z ≤ cs.length) (hp : Pl fr ((cs.drop off).take (n * z))) : purV h fr (k + 1 + 1) (.rf b z off n) = some (.sl n ((cs.drop off).take (n * z)), [b]) := by
  have e := pur_plain h fr k _ hp
  generalize k + 1 = j at e ⊢
  simp only [purV, hc]
  rw [if_pos hle, e]
theorem purV_rfC {h : AH} {fr : Bool} {k b z off n : Nat} {cs cs' : List AV} (hc : h.cells b = some cs) (hle : off + n * z ≤ cs.length) (hp : Pl fr ((cs.drop off).take (n * z))) (e : (cs.drop off).take (n * z) = cs') : purV h fr (k + 1 + 1) (.rf b z off n) = some (.sl n cs', [b]) := e ▸ purV_rfB hc hle hp
inductive Hint where
  | auto | yes | no
  | op (r : OR)
  | call (r : CR)
  | res (e : AX) (st : St)
  | val (c : AV)
  | str (l : List UInt8)
  | cells (cs : List AV)
  | cellsb (cs : List AV) (bs : List Nat)
  | fres (v : AV)
  | head (st : St)
  | truth (b : Bool)
inductive Q where
  | bit (b : Bool)
  | op (o : Op) (st : St)
  | call (f : AV) (args : List AV) (h : AH)
  | loop (c : Code) (st : St)
  | body (c : Code) (st : St)
  | scope (body rest : Code) (l : Nat) (st : St)
  | prop (p : Prop)
  | one (cs : List AV)
  | bytes (cs : List AV)
  | pur (h : AH) (fr : Bool) (k : Nat) (cs : List AV)
  | efun (f : FuncId) (args : List AV) (fr : Bool)
  | lst (cs : List AV)
  | eqc (a b : List AV)
  | ord (ops : Array Oper) (fts : List Ft)
inductive F (α : Type) where
  | ret (a : α)
  | ask (q : Q) (k : Hint → F α)
  | stop
def F.bind {α β : Type} (m : F α) (f : α → F β) : F β :=
  match m with
  | .ret a => f a
  | .ask q k => .ask q fun h => F.bind (k h) f
  | .stop => .stop
def F.of {α : Type} : Option α → F α
  | some a => .ret a
  | none => .stop
abbrev RecF := Code → St → F (AX × St)

/-! A value told on the spot: nothing but what it was. -/
def forceV {α : Type} (v : AV) (k : AV → F α) : F α :=
  match v with
  | .top => k .top
  | .i n => k (.i n)
  | .y n => k (.y n)
  | .b n => k (.b n)
  | .st l => k (.st l)
  | .sc v => k (.sc v)
  | .nl => k .nl
  | .sl n cs => k (.sl n cs)
  | .rf b z o n => k (.rf b z o n)
  | .pt b o => k (.pt b o)
  | .ip cs => k (.ip cs)
  | .ag xs => k (.ag xs)
  | .tu xs => k (.tu xs)
  | .fn f c => k (.fn f c)
  | .yl b => k (.yl b)
  | .mp b => k (.mp b)
def forceT {α : Type} : Tm → (Tm → F α) → F α
  | [], k => k []
  | (i, v) :: l, k => forceT l fun l => k ((i, v) :: l)
def forceO {α : Type} (o : AObj) (k : AObj → F α) : F α :=
  match o with
  | .dead => k .dead
  | .cells cs => k (.cells cs)
  | .ro cs => k (.ro cs)
  | .map es => k (.map es)
  | .loop s p T n ps a b => k (.loop s p T n ps a b)
def forceL {α : Type} : List (Nat × AObj) → (List (Nat × AObj) → F α) → F α
  | [], k => k []
  | (i, v) :: l, k => forceO v fun v => forceL l fun l => k ((i, v) :: l)
theorem forceO_eq {α : Type} (o : AObj) (k : AObj → F α) : forceO o k = k o := by cases o <;> rfl
def forceN {α : Type} (n : Nat) (k : Nat → F α) : F α := match n with | 0 => k 0 | n + 1 => k (n + 1)
def forceB {α : Type} (b : Bool) (k : Bool → F α) : F α := match b with | true => k true | false => k false
theorem forceB_eq {α : Type} (b : Bool) (k : Bool → F α) : forceB b k = k b := by cases b <;> rfl
def forceS {α : Type} (s : St) (k : St → F α) : F α :=
  forceT s.T fun T => forceN s.n fun n => forceN s.H.nx fun nx => forceL s.H.l fun l => forceB s.q fun q => k ⟨T, n, ⟨nx, l⟩, q⟩
theorem forceV_eq {α : Type} (v : AV) (k : AV → F α) : forceV v k = k v := by cases v <;> rfl
theorem forceT_eq {α : Type} : ∀ (T : Tm) (k : Tm → F α), forceT T k = k T
  | [], k => rfl
  | (i, v) :: l, k => by rw [forceT, forceT_eq l]
theorem forceL_eq {α : Type} : ∀ (T : List (Nat × AObj)) (k : List (Nat × AObj) → F α), forceL T k = k T
  | [], k => rfl
  | (i, v) :: l, k => by rw [forceL, forceO_eq, forceL_eq l]
theorem forceN_eq {α : Type} (n : Nat) (k : Nat → F α) : forceN n k = k n := by cases n <;> rfl
theorem forceS_eq {α : Type} (s : St) (k : St → F α) : forceS s k = k s := by
  simp only [forceS, forceT_eq, forceN_eq, forceL_eq, forceB_eq]

/-! What an operation asks for. -/
def askP {α : Type} (p : Prop) [Decidable p] (m : F α) : F α := .ask (.prop p) fun
  | .yes => m
  | .auto => if p then m else .stop
  | _ => .stop
def askOne {α : Type} (cs : List AV) (k : AV → F α) : F α := .ask (.one cs) fun
  | .val c => k c
  | .auto => match cs with | [c] => k c | _ => .stop
  | _ => .stop
/-- Cells told in other words. -/
def askLst {α : Type} (cs : List AV) (k : List AV → F α) : F α := .ask (.lst cs) fun
  | .cells cs' => k cs'
  | .auto => k cs
  | _ => .stop
def askBytes {α : Type} (cs : List AV) (k : List UInt8 → F α) : F α := .ask (.bytes cs) fun
  | .str l => k l
  | .auto => match bytesOf cs with | some l => k l | none => .stop
  | _ => .stop
/-- A program as the printer's paths look at it: its types and functions, told at once. -/
structure View where
  P : Program
  ti : TypeId → Option TI
  fa : FuncId → Option AF
def View.of (P : Program) : View := ⟨P, tinfo P, afun P⟩
def noIntV (V : View) (t : Option TypeId) : Bool :=
  match t with
  | some t => match V.ti t with | some ti => (match ti.k with | .slice _ => true | .string => true | _ => false) | none => false
  | none => true
def resV (V : View) (T : Tm) (h : AH) : List ResultVar → Option (List AV)
  | [] => some []
  | .tmp t :: r => match resV V T h r with | some vs => some (T.get t :: vs) | none => none
  | .cell a t :: r => match V.ti t with
    | some ti => if ti.size = 0 then none else match cellsAt h (T.get a) ti.size with
      | some (cs, _) => match asTy ti cs, resV V T h r with
        | some v, some vs => some (v :: vs)
        | _, _ => none
      | none => none
    | none => none
theorem resV_of {P : Program} {T : Tm} {h : AH} : ∀ l, resV (View.of P) T h l = resA P T h l
  | [] => rfl
  | .tmp t :: r => by
    simp only [resV, resA, resV_of r]
    cases resA P T h r <;> rfl
  | .cell a t :: r => by
    have e : (View.of P).ti t = tinfo P t := rfl
    simp only [resV, resA, resV_of r, e]
    cases tinfo P t with
    | none => rfl
    | some ti =>
      simp only
      split
      · rfl
      · cases cellsAt h (T.get a) ti.size with
        | none => rfl
        | some q => obtain ⟨q1, q2⟩ := q; cases asTy ti q1 <;> cases resA P T h r <;> rfl
/-- Bytes' operations. -/
def binY (op : BinOp) (a b : UInt8) : Option AV := match op with | .xor => some (.y (a ^^^ b)) | op => binI .u8 op a.toNat b.toNat
theorem binY_eq (op : BinOp) (a b : UInt8) : binY op a b = binI .u8 op a.toNat b.toNat := by
  unfold binY
  split
  · have e : ∀ x : UInt8, BitVec.ofInt 8 (x.toNat : Int) = x.toBitVec := fun x => by
      rw [BitVec.ofInt_natCast]
      exact BitVec.eq_of_toNat_eq (by rw [BitVec.toNat_ofNat]; exact Nat.mod_eq_of_lt x.toNat_lt)
    have e2 : ((BitVec.ofInt IntKind.u8.bits (a.toNat : Int) ^^^ BitVec.ofInt IntKind.u8.bits (b.toNat : Int)).toNat : Int) = ((a ^^^ b).toNat : Int) := by
      show ((BitVec.ofInt 8 (a.toNat : Int) ^^^ BitVec.ofInt 8 (b.toNat : Int)).toNat : Int) = _
      rw [e, e]; rfl
    have h : (a ^^^ b).toNat < 256 := (a ^^^ b).toNat_lt
    have e3 : IntKind.u8.wrap ((a ^^^ b).toNat : Int) = ((a ^^^ b).toNat : Int) := by
      show ((a ^^^ b).toNat : Int) % (2 ^ 8 : Nat) = _
      omega
    simp only [binI, e2, e3, ofInt]
    rw [if_pos (by omega), Int.toNat_natCast, UInt8.ofNat_toNat]
  · rfl
/-- Plain operations, told at once; the others as they are. -/
def opV (V : View) (h : AH) (T : Tm) (op : Op) : Option OR :=
  match op with
  | .move x | .assign x => quiet h (ev T x)
  | .alloc e => match V.ti e with | some ti => if ti.zero.length = ti.size then some ⟨.pt h.nx 0, h.new (.cells ti.zero), [], [h.nx]⟩ else none | none => none
  | .box _ x => match vcells (ev T x) with | some cs => some ⟨.pt h.nx 0, h.new (.cells cs), [], [h.nx]⟩ | none => none
  | .fieldAddr s x f => match V.ti s with
    | some ti => match ti.k with
      | .struct fs => match fs[f]? with
        | some (off, sz, _) => if sz = 0 then none else
          match ev T x with
          | .pt b o => quiet h (.pt b (o + off))
          | .ip cs => quiet h (.ip (cs.drop off))
          | _ => none
        | none => none
      | _ => none
    | none => none
  | .field s x f => match V.ti s with
    | some ti => match ti.k, ev T x with
      | .struct fs, .ag cs => match fs[f]? with
        | some (off, sz, ag) => if off + sz ≤ cs.length then
            match partOf ag ((cs.drop off).take sz) with | some v => quiet h v | none => none
          else none
        | none => none
      | _, _ => none
    | none => none
  | .build t parts => match V.ti t with
    | some ti => match ti.k with
      | .struct fs => match fillA (fun i => (fs[i]?).map fun f => (f.1, f.2.1)) ti.zero (parts.toList.map fun p => (p.1, ev T p.2)) with
        | some cs => quiet h (.ag cs)
        | none => none
      | _ => aOp V.P h T (.build t parts)
    | none => none
  | .binOp op t x y t2 => match ev T x, ev T y with
    | .i a, .i b => match binI .i64 op a b with | some v => quiet h v | none => none
    | .y a, .y b => match binY op a b with | some v => quiet h v | none => none
    | _, _ => aOp V.P h T (.binOp op t x y t2)
  | .convert s d x => match V.ti s, V.ti d with
    | some si, some di => match di.k, si.k with
      | .int k, .int _ => match isI (ev T x) with | some n => quiet h (ofInt k (k.wrap n)) | none => none
      | _, _ => aOp V.P h T (.convert s d x)
    | _, _ => none
  | .call c => match c.callee, c.args.toList.map (ev T) with
    | .builtin .len, [x] => match c.argTypes[0]? with
      | some t => match V.ti t with
        | some ti => match ti.k, x with
          | .slice _, .st _ => none
          | .slice _, x => (lenA x).bind fun n => quiet h (.i n)
          | .string, .st l => quiet h (.i l.length)
          | _, _ => none
        | none => none
      | none => none
    | _, _ => aOp V.P h T (.call c)
  | op => aOp V.P h T op
theorem opV_of {P : Program} {h : AH} {T : Tm} {op : Op} {r : OR} (e : opV (View.of P) h T op = some r) : aOp P h T op = some r := by
  unfold opV at e
  split at e
  case h_1 => (simp only [aOp]; exact e)
  case h_2 => (simp only [aOp]; exact e)
  case h_3 => (simp only [aOp]; exact e)
  case h_4 => (simp only [aOp]; exact e)
  case h_5 => (simp only [aOp]; exact e)
  case h_6 => (simp only [aOp]; exact e)
  case h_7 t parts =>
    split at e
    · rename_i ti ht
      have ht : tinfo P t = some ti := ht
      split at e
      · rename_i fs hk
        simp only [aOp, ht, hk]; exact e
      · exact e
    · cases e
  case h_8 op t x y t2 =>
    split at e
    · rename_i a b ha hb
      simp only [aOp, ha, hb, bin]; exact e
    · rename_i a b ha hb
      rw [binY_eq] at e
      simp only [aOp, ha, hb, bin]; exact e
    · exact e
  case h_9 s d x =>
    split at e
    · rename_i si di hs hd
      have hs : tinfo P s = some si := hs
      have hd : tinfo P d = some di := hd
      split at e
      · rename_i k k2 hk1 hk2
        simp only [aOp, conv, hs, hd, hk1, hk2]; exact e
      · exact e
    · cases e
  case h_10 c =>
    split at e
    · rename_i x hc ha
      simp only [aOp, hc, ha, builtinA]; exact e
    · exact e
  case h_11 => exact e
def bodyJumpV (V : View) (f : FuncId) : Bool := match V.fa f with | some af => isJump af.body | none => true
def slF {α : Type} (h : AH) (z : Nat) (v : AV) (k : Nat × List AV × List Nat → F α) : F α :=
  match v with
  | .nl => k (0, [], [])
  | .sl n cs => askP (cs.length = n * z) (k (n, cs, []))
  | .rf b z' off n => if z' = z then
      (match h.cells b with
       | some cs => .ask (.prop (off = 0 ∧ cs.length = n * z)) fun
         | .yes => k (n, cs, [b])
         | .no => askP (off + n * z ≤ cs.length) (k (n, (cs.drop off).take (n * z), [b]))
         | .auto => if off + n * z ≤ cs.length then k (n, (cs.drop off).take (n * z), [b]) else .stop
         | _ => .stop
       | none => .stop) else .stop
  | _ => .stop
def appendF (V : View) (h : AH) (t : TypeId) (t1 : Option TypeId) (s x : AV) : F OR :=
  match V.ti t with
  | some ti => match ti.k with
    | .slice e => match V.ti e with
      | some ei =>
        if noIntV V t1 = false ∨ ei.zero.length ≠ ei.size then .stop else
        slF h ei.size x fun r =>
          match s with
          | .nl => askP (r.1 ≤ 4294967296) (if ei.bytes ≤ 4096 ∧ 0 < ei.size then .ret ⟨.rf h.nx ei.size 0 r.1, h.new (.cells r.2.1), r.2.2, [h.nx]⟩ else .stop)
          | .rf b z 0 m =>
            match h.wcells b with
            | some old =>
              askP (old.length = m * z ∧ m + r.1 ≤ 4294967296) (if z = ei.size ∧ ei.bytes ≤ 4096 ∧ 0 < ei.size then
                .ret ⟨.rf h.nx z 0 (m + r.1), (h.kill b).new (.cells (old ++ r.2.1)), b :: r.2.2, [b, h.nx]⟩
              else .stop)
            | none => .stop
          | _ => .stop
      | none => .stop
    | _ => .stop
  | none => .stop
def convF (V : View) (h : AH) (src dst : TypeId) (x : AV) : F OR :=
  match V.ti src, V.ti dst with
  | some s, some d =>
    match d.k, s.k with
    | .string, .slice e =>
      match V.ti e with
      | some ei => match ei.k with
        | .int .u8 => slF h 1 x fun r => askBytes r.2.1 fun l => .ret ⟨.st l, h, r.2.2, []⟩
        | _ => .stop
      | none => .stop
    | _, _ => F.of (conv V.P h src dst x)
  | _, _ => .stop
def loadF (V : View) (h : AH) (t : TypeId) (a : AV) : F OR :=
  match V.ti t with
  | some ti => if ti.size = 0 then .stop else
    match a with
    | .pt b off => match h.cells b with
      | some cs => askP (off + ti.size ≤ cs.length) (if ti.agg then askLst ((cs.drop off).take ti.size) fun cs => .ret ⟨.ag cs, h, [b], []⟩ else askOne ((cs.drop off).take ti.size) fun c => .ret ⟨c, h, [b], []⟩)
      | none => .stop
    | .ip cs => askP (ti.size ≤ cs.length) (if ti.agg then askLst (cs.take ti.size) fun cs => .ret ⟨.ag cs, h, [], []⟩ else askOne (cs.take ti.size) fun c => .ret ⟨c, h, [], []⟩)
    | _ => .stop
  | none => .stop
def bndF {α : Type} (lo : Option AV) (d : Nat) (k : Nat → F α) : F α :=
  match lo with
  | none => k d
  | some (.i n) => askP (0 ≤ n) (k n.toNat)
  | _ => .stop
def sliceF (V : View) (h : AH) (t : TypeId) (x : AV) (lo hi mx : Option AV) : F OR :=
  match V.ti t with
  | none => .stop
  | some ti =>
    match ti.k with
    | .slice e =>
      match V.ti e, mx with
      | some ei, none =>
        match x with
        | .nl => F.of (sliceA V.P h t x lo hi mx)
        | .sl n cs => bndF lo 0 fun l => bndF hi n fun h' => askP (l ≤ h' ∧ h' ≤ n ∧ cs.length = n * ei.size) (.ret ⟨.sl (h' - l) ((cs.drop (l * ei.size)).take ((h' - l) * ei.size)), h, [], []⟩)
        | .rf b z off n => bndF lo 0 fun l => bndF hi n fun h' => askP (l ≤ h' ∧ h' ≤ n) (if z = ei.size then .ret ⟨.rf b z (off + l * z) (h' - l), h, [], []⟩ else .stop)
        | _ => .stop
      | _, _ => F.of (sliceA V.P h t x lo hi mx)
    | .array n e =>
      match V.ti e, mx with
      | some ei, none => bndF lo 0 fun l => bndF hi n fun h' =>
        match x with
        | .pt b off => match h.cells b with
          | some cs => askP (l ≤ h' ∧ h' ≤ n ∧ off + n * ei.size ≤ cs.length) (if 0 < n * ei.size then .ret ⟨.rf b ei.size (off + l * ei.size) (h' - l), h, [b], []⟩ else .stop)
          | none => .stop
        | .ip cs => askP (l ≤ h' ∧ h' ≤ n ∧ n * ei.size ≤ cs.length) (askLst ((cs.drop (l * ei.size)).take ((h' - l) * ei.size)) fun cs' => .ret ⟨.sl (h' - l) cs', h, [], []⟩)
        | _ => .stop
      | _, _ => F.of (sliceA V.P h t x lo hi mx)
    | _ => F.of (sliceA V.P h t x lo hi mx)
def idxF (V : View) (h : AH) (t : TypeId) (x ix : AV) : F OR :=
  match V.ti t, isI ix with
  | some ti, some i =>
    match ti.k with
    | .array n e => match V.ti e with
      | some ei => askP (0 ≤ i ∧ i < n)
          (match x with
          | .pt b off => .ret ⟨.pt b (off + i.toNat * ei.size), h, [], []⟩
          | .ip cs => .ret ⟨.ip (cs.drop (i.toNat * ei.size)), h, [], []⟩
          | _ => .stop)
      | none => .stop
    | .slice e => match V.ti e with
      | some ei =>
        match x with
        | .rf b z off n => askP (0 ≤ i ∧ i < n) (if z = ei.size then .ret ⟨.pt b (off + i.toNat * z), h, [], []⟩ else .stop)
        | .sl n cs => askP (0 ≤ i ∧ i < n) (.ret ⟨.ip (cs.drop (i.toNat * ei.size)), h, [], []⟩)
        | _ => .stop
      | none => .stop
    | _ => .stop
  | _, _ => .stop
def storeF (V : View) (h : AH) (t : TypeId) (a v : AV) : F OR :=
  match V.ti t, a, vcells v with
  | some ti, .pt b off, some vs =>
    match h.wcells b with
    | some cs => askP (vs.length = ti.size ∧ off + vs.length ≤ cs.length) (askLst (over cs off vs) fun cs' => .ret ⟨.top, h.put b (.cells cs'), [b], [b]⟩)
    | none => .stop
  | _, _, _ => .stop
def makeF (V : View) (h : AH) (t : TypeId) (l c : AV) : F OR :=
  match V.ti t, l, c with
  | some ti, .i n, .i m => match ti.k with
    | .slice e => match V.ti e with
      | some ei => askP (n = m ∧ 0 ≤ n ∧ n ≤ 4294967296) (if ei.bytes ≤ 4096 ∧ ei.zero.length = ei.size ∧ 0 < ei.size then
          .ret ⟨.rf h.nx ei.size 0 n.toNat, h.new (.cells (repl n.toNat ei.zero)), [], [h.nx]⟩ else .stop)
      | none => .stop
    | _ => .stop
  | _, _, _ => .stop
def copyF (V : View) (h : AH) (t : TypeId) (d x : AV) : F OR :=
  match V.ti t with
  | some ti => match ti.k with
    | .slice e => match V.ti e with
      | some ei =>
        slF h ei.size x fun r =>
          match d with
          | .rf b z off m => match h.wcells b with
            | some cs => askP (off + m * z ≤ cs.length) (if z = ei.size then askLst (over cs off (r.2.1.take (min r.1 m * z))) fun cs' => .ret ⟨.i (min r.1 m : Nat), h.put b (.cells cs'), b :: r.2.2, [b]⟩ else .stop)
            | none => .stop
          | _ => .stop
      | none => .stop
    | _ => .stop
  | none => .stop
/-- Two values told alike or not, cell by cell. -/
def binAgF (V : View) (h : AH) (op : BinOp) (t : TypeId) (a b : List AV) : F OR :=
  match flatEq V.P 8 t with
  | some s => askP (a.length = s ∧ b.length = s) (if V.P.eqGuardType V.P.depth t = false ∧ (V.P.underlying t).map isAggD = some true then
      .ask (.eqc a b) fun
      | .truth r => match op with
        | .eql => .ret ⟨.b r, h, [], []⟩
        | .neq => .ret ⟨.b !r, h, [], []⟩
        | _ => .stop
      | .auto => match op, eqCells a b with
        | .eql, some r => .ret ⟨.b r, h, [], []⟩
        | .neq, some r => .ret ⟨.b !r, h, [], []⟩
        | _, _ => .stop
      | _ => .stop
    else .stop)
  | none => .stop
def isAg : AV → Bool | .ag _ => true | _ => false
def glue (a b c : List AV) : List AV := match a, c with | a, [] => a ++ b | a, c => a ++ (b ++ c)
theorem glue_eq (a b c : List AV) : glue a b c = a ++ (b ++ c) := by
  unfold glue
  split
  · simp
  · rfl
/-- A structure put together, of which a part is told as cells. -/
def fillF {α : Type} (places : Nat → Option (Nat × Nat)) : List AV → List (Nat × AV) → (List AV → F α) → F α
  | cells, [], k => k cells
  | cells, (i, v) :: rest, k =>
    match places i, v with
    | some (off, size), .ag vs => forceN off fun off => forceN size fun size => askP (vs.length = size ∧ off + vs.length ≤ cells.length) (askLst vs fun vs' => fillF places (glue (cells.take off) vs' (cells.drop (off + size))) rest k)
    | some (off, size), v => forceN off fun off => match vcells v with
      | some [u] => if 1 = size ∧ off + 1 ≤ cells.length then fillF places (cells.set off u) rest k else .stop
      | _ => .stop
    | none, _ => .stop
def buildF (V : View) (h : AH) (T : Tm) (t : TypeId) (parts : List (Nat × Operand)) : F OR :=
  match V.ti t with
  | some ti => match ti.k with
    | .struct fs => fillF (fun i => (fs[i]?).map fun f => (f.1, f.2.1)) ti.zero (parts.map fun p => (p.1, ev T p.2)) fun cs => askLst cs fun cs => .ret ⟨.ag cs, h, [], []⟩
    | _ => .stop
  | none => .stop
def buildSlF (V : View) (h : AH) (T : Tm) (t : TypeId) (len : Nat) (parts : List (Nat × Operand)) : F OR :=
  match V.ti t with
  | some ti => match ti.k with
    | .slice e => match V.ti e with
      | some ei => if len * ei.size ≤ 16777216 ∧ ei.zero.length = ei.size ∧ 0 < ei.size ∧ len ≠ 0 then
          fillF (fun i => some (i * ei.size, ei.size)) (repl len ei.zero) (parts.map fun p => (p.1, ev T p.2)) fun cs => askLst cs fun cs => .ret ⟨.rf h.nx ei.size 0 len, h.new (.cells cs), [], [h.nx]⟩
        else .stop
      | none => .stop
    | _ => .stop
  | none => .stop
def arrPtrF (V : View) (h : AH) (arr : TypeId) (x : AV) : F OR :=
  match V.ti arr with
  | some ti => match ti.k, x with
    | .array n _, .sl m cs => askP (n ≤ m ∧ 0 < n) (.ret ⟨.ip cs, h, [], []⟩)
    | .array n _, .rf b _ off m => askP (n ≤ m ∧ 0 < n) (.ret ⟨.pt b off, h, [], []⟩)
    | _, _ => .stop
  | none => .stop
def fieldF (V : View) (h : AH) (s : TypeId) (cs : List AV) (f : Nat) : F OR :=
  match V.ti s with
  | some ti => match ti.k with
    | .struct fs => match fs[f]? with
      | some (off, sz, ag) => askP (off + sz ≤ cs.length) (match ag with
        | true => askLst ((cs.drop off).take sz) fun cs => .ret ⟨.ag cs, h, [], []⟩
        | false => askOne ((cs.drop off).take sz) fun c => .ret ⟨c, h, [], []⟩)
      | none => .stop
    | _ => .stop
  | none => .stop
/-- The operations that ask; the others as they are. -/
def divF (h : AH) (op : BinOp) (a b : Int) : F OR := askP ((b == 0) = false) (.ret ⟨.i (match op with | .quo => IntKind.i64.wrap (a.tdiv b) | _ => a.tmod b), h, [], []⟩)
def isDiv (op : BinOp) : Bool := match op with | .quo | .rem => true | _ => false
def opF (V : View) (h : AH) (T : Tm) : Op → Option (F OR)
  | .load t a => some (loadF V h t (ev T a))
  | .store t a x => some (storeF V h t (ev T a) (ev T x))
  | .convert s d x => some (convF V h s d (ev T x))
  | .slice t x lo hi mx => some (sliceF V h t (ev T x) (lo.map (ev T)) (hi.map (ev T)) (mx.map (ev T)))
  | .indexAddr t x ix => some (idxF V h t (ev T x) (ev T ix))
  | .makeSlice t l c => some (makeF V h t (ev T l) (ev T c))
  | .binOp op t x y _ => match ev T x, ev T y with
    | .ag a, .ag b => some (binAgF V h op t a b)
    | .i a, .i b => match isDiv op with | true => some (divF h op a b) | false => none
    | _, _ => none
  | .build t parts => match parts.toList.any fun p => isAg (ev T p.2) with
    | true => some (buildF V h T t parts.toList)
    | false => none
  | .buildSlice t len parts => match parts.toList.any fun p => isAg (ev T p.2) with
    | true => some (buildSlF V h T t len parts.toList)
    | false => none
  | .sliceToArrayPointer arr x => some (arrPtrF V h arr (ev T x))
  | .field s x f => match ev T x with
    | .ag cs => some (fieldF V h s cs f)
    | _ => none
  | .call c => match c.callee, c.args.toList.map (ev T) with
    | .builtin .append, [s, x] => match c.argTypes[0]? with | some t => some (appendF V h t c.argTypes[1]? s x) | none => none
    | .builtin .copy, [d, x] => match c.argTypes[0]? with | some t => some (copyF V h t d x) | none => none
    | _, _ => none
  | _ => none

/-! Values without blocks of the call's own, asked for. -/
def mapPF {α : Type} (f : AV → (AV × List Nat → F α) → F α) : List AV → (List AV × List Nat → F α) → F α
  | [], k => k ([], [])
  | v :: r, k => f v fun a => mapPF f r fun b => k (a.1 :: b.1, a.2 ++ b.2)
def askPur {α : Type} (h : AH) (fr : Bool) (j : Nat) (cs : List AV) (k : List AV × List Nat → F α) : F α := .ask (.pur h fr j cs) fun
  | .cells cs' => k (cs', [])
  | .cellsb cs' bs => k (cs', bs)
  | .yes => k (cs, [])
  | .auto => match mapP (purV h fr j) cs with | some r => k r | none => .stop
  | _ => .stop
def purVF {α : Type} (h : AH) (fr : Bool) : Nat → AV → (AV × List Nat → F α) → F α
  | 0, _, _ => .stop
  | j + 1, v, k =>
    match v with
    | .sl n cs => bif fr then askP (n = 0) (k (.sl n cs, [])) else k (.sl n cs, [])
    | .rf b z off n => slF h z (.rf b z off n) fun r => askPur h fr j r.2.1 fun q => k (.sl n q.1, b :: q.2)
    | .ag xs => mapPF (purVF h fr j) xs fun r => k (.ag r.1, r.2)
    | .tu xs => mapPF (purVF h fr j) xs fun r => k (.tu r.1, r.2)
    | v => match purV h fr (j + 1) v with | some r => k r | none => .stop
def thaw1F {α : Type} (z : Nat) (h0 h1 : AH) (fr : Bool) (h : AH) (v : AV) (k : AV × AH → F α) : F α :=
  match v with
  | .rf b z off n => match h0.cells b with
    | some cs => askP (off = 0 ∧ cs.length = n * z) (askPur h1 fr depthA cs fun r => k (.rf h.nx z 0 n, h.new (.cells r.1)))
    | none => .stop
  | .nl => match thaw1 z h0 h1 fr h .nl with | some r => k r | none => .stop
  | .mp b => match thaw1 z h0 h1 fr h (.mp b) with | some r => k r | none => .stop
  | v => purVF h1 fr depthA v fun r => k (r.1, h)
def thawLF {α : Type} (h0 h1 : AH) (fr : Bool) : List Nat → AH → List AV → (List AV × AH → F α) → F α
  | _, h, [], k => k ([], h)
  | zs, h, v :: r, k => thaw1F (zs.headD 0) h0 h1 fr h v fun a => thawLF h0 h1 fr zs.tail a.2 r fun b => k (a.1 :: b.1, b.2)
def thawAF {α : Type} (zs : List Nat) (h0 h1 : AH) (fr : Bool) (h : AH) (v : AV) (k : AV × AH → F α) : F α :=
  match v with
  | .ag xs => thawLF h0 h1 fr zs h xs fun r => k (.ag r.1, r.2)
  | v => thaw1F (zs.headD 0) h0 h1 fr h v k
def thawTF {α : Type} (h0 h1 : AH) (fr : Bool) : List (List Nat) → AH → List AV → (List AV × AH → F α) → F α
  | _, h, [], k => k ([], h)
  | zss, h, v :: r, k => thawAF (zss.headD []) h0 h1 fr h v fun a => thawTF h0 h1 fr zss.tail a.2 r fun b => k (a.1 :: b.1, b.2)
def thawF {α : Type} (zss : List (List Nat)) (h0 h1 : AH) (fr : Bool) (h : AH) (v : AV) (k : AV × AH → F α) : F α :=
  match v with
  | .tu xs => thawTF h0 h1 fr zss h xs fun r => k (.tu r.1, r.2)
  | v => thawAF (zss.headD []) h0 h1 fr h v k
def backF (fr : Bool) (th : Option (List (List Nat))) (h : AH) (rd : List Nat) (v : AV) (h1 : AH) : F CR :=
  let h' := if fr || rd.isEmpty then h else fixAll h rd
  let wr := if fr then [] else rd
  match th with
  | some zss =>
    match grab h1 v with
    | some h2 => thawF zss h1 h2 (fr && !rd.isEmpty) h' v fun r => .ret ⟨r.1, r.2, some rd, some (wr ++ (List.range (r.2.nx - h'.nx)).map (h'.nx + ·))⟩
    | none => .stop
  | none => purVF h1 (fr && !rd.isEmpty) depthA v fun r => .ret ⟨r.1, h', some rd, some wr⟩
/-! A value told, its slices in blocks of one's own. -/
def own1 (z : Nat) (v : AV) (h : AH) : AV × AH :=
  match v with
  | .sl n cs => bif Nat.beq z 0 then (.sl n cs, h) else (.rf h.nx z 0 n, h.new (.cells cs))
  | v => (v, h)
def ownL : List Nat → List AV → AH → List AV × AH
  | _, [], h => ([], h)
  | zs, v :: r, h => let a := own1 (zs.headD 0) v h; let b := ownL zs.tail r a.2; (a.1 :: b.1, b.2)
def ownA (zs : List Nat) (v : AV) (h : AH) : AV × AH :=
  match v with
  | .ag xs => let r := ownL zs xs h; (.ag r.1, r.2)
  | v => own1 (zs.headD 0) v h
def ownT : List (List Nat) → List AV → AH → List AV × AH
  | _, [], h => ([], h)
  | zss, v :: r, h => let a := ownA (zss.headD []) v h; let b := ownT zss.tail r a.2; (a.1 :: b.1, b.2)
def ownV (zss : List (List Nat)) (v : AV) (h : AH) : AV × AH :=
  match v with
  | .tu xs => let r := ownT zss xs h; (.tu r.1, r.2)
  | v => ownA (zss.headD []) v h

/-- A call's results. -/
def resF {α : Type} (V : View) (T : Tm) (h : AH) : List ResultVar → (List AV → F α) → F α
  | [], k => k []
  | .tmp t :: r, k => resF V T h r fun vs => k (T.get t :: vs)
  | .cell a t :: r, k => match V.ti t with
    | some ti => if ti.size = 0 then .stop else
      match ti.agg, T.get a with
      | true, .pt b off => match h.cells b with
        | some cs => askP (off + ti.size ≤ cs.length) (askLst ((cs.drop off).take ti.size) fun cs => resF V T h r fun vs => k (.ag cs :: vs))
        | none => .stop
      | ag, a => match cellsAt h a ti.size with
        | some (cs, _) => match asTy ti cs with
          | some v => resF V T h r fun vs => k (v :: vs)
          | none => .stop
        | none => .stop
    | none => .stop
def enterF (V : View) (rec : RecF) (f : FuncId) (args : List AV) (h : AH) : F (AV × AH) :=
  match V.fa f with
  | some af => (rec af.body ⟨tmOf 0 args, max af.nt args.length, h, false⟩).bind fun x =>
    match x.1 with
    | .normal | .ret => resF V x.2.T x.2.H af.res fun vs => .ret (oneA vs, x.2.H)
    | _ => .stop
  | none => .stop
def roundF (rec : RecF) (b : Nat) (args : List AV) (h : AH) : F (AV × AH) :=
  match loopOf h b with
  | some (.ready, _, T, n, ps, asg, body) =>
    if args.length = ps.length ∧ ps.all (· < n) then
      (rec asg ⟨setAll T ps args, n, h, true⟩).bind fun x =>
        match x.1 with
        | .normal => match loopOf x.2.H b with
          | some (.ready, p2, T2, n2, ps2, a2, c2) =>
            (F.ask (.body body { x.2 with H := x.2.H.put b (.loop .busy p2 T2 n2 ps2 a2 c2) }) fun
              | .res e st' => .ret (e, st')
              | .auto => rec body { x.2 with H := x.2.H.put b (.loop .busy p2 T2 n2 ps2 a2 c2) }
              | _ => .stop).bind fun y =>
              match loopOf y.2.H b with
              | some (_, _, T3, n3, ps3, a3, c3) => .ret (.b (jumpOf y.1).isNone, y.2.H.put b (.loop (if (jumpOf y.1).isNone then .ready else .done) (jumpOf y.1) T3 n3 ps3 a3 c3))
              | none => .stop
          | _ => .stop
        | _ => .stop
    else .stop
  | _ => .stop
def callF1 (V : View) (cf : Cfg) (rec : RecF) (f : AV) (args : List AV) (h : AH) : F CR :=
  match f with
  | .fn f cap =>
    match cloneOf cf.clone f with
    | some (z, w) =>
      match args with
      | [x] => slF h z x fun r => askP (r.1 ≤ 4294967296) (if w ≤ 4096 ∧ 0 < z ∧ cap.isEmpty = true then .ret ⟨.rf h.nx z 0 r.1, h.new (.cells r.2.1), some r.2.2, some [h.nx]⟩ else .stop)
      | _ => .stop
    | none =>
    if !cap.isEmpty || cf.inl.contains f then (enterF V rec f (args ++ cap) h).bind fun x => .ret ⟨x.1, x.2, none, none⟩
    else
      mapPF (purVF h false depthA) args fun q => .ask (.efun f q.1 (!cf.move.contains f && !q.2.isEmpty)) fun
        | .fres v => match thawOf cf.thaw f with
          | some zss =>
            let h' := if !cf.move.contains f || q.2.isEmpty then h else fixAll h q.2
            let r := ownV zss v h'
            .ret ⟨r.1, r.2, some q.2, some ((if !cf.move.contains f then [] else q.2) ++ (List.range (r.2.nx - h'.nx)).map (h'.nx + ·))⟩
          | none => .ret ⟨v, if !cf.move.contains f || q.2.isEmpty then h else fixAll h q.2, some q.2, some (if !cf.move.contains f then [] else q.2)⟩
        | .auto => (enterF V rec f q.1 AH.empty).bind fun x => backF (!cf.move.contains f) (thawOf cf.thaw f) h q.2 x.1 x.2
        | _ => .stop
  | .yl b => (roundF rec b args h).bind fun x => .ret ⟨x.1, x.2, none, none⟩
  | _ => .stop
def callF (V : View) (cf : Cfg) (rec : RecF) (f : AV) (args : List AV) (h : AH) : F CR :=
  .ask (.call f args h) fun
    | .call r => .ret r
    | .auto => callF1 V cf rec f args h
    | _ => .stop
def plainF (V : View) (st : St) (op : Op) : F CR :=
  match opF V st.H st.T op with
  | some m => m.bind fun r => .ret (ofOR r)
  | none => .ask (.op op st) fun
    | .op r => .ret (ofOR r)
    | .auto => F.of ((opV V st.H st.T op).map ofOR)
    | _ => .stop
def doF (V : View) (cf : Cfg) (rec : RecF) (op : Op) (st : St) : F CR :=
  match op with
  | .call c => match c.callee with
    | .value f => callF V cf rec (ev st.T f) (c.args.toList.map (ev st.T)) st.H
    | _ => plainF V st (.call c)
  | .pick c a b => match ev st.T c with
    | .b t => .ask (.bit t) fun
      | .yes => .ret (ofOR ⟨ev st.T a, st.H, [], []⟩)
      | .no => .ret (ofOR ⟨ev st.T b, st.H, [], []⟩)
      | .auto => .ret (ofOR ⟨bif t then ev st.T a else ev st.T b, st.H, [], []⟩)
      | _ => .stop
    | _ => .stop
  | op => plainF V st op
def wantedF (ops : Array Oper) (T : Tm) (o : Oper) : F Bool :=
  match o.guard with
  | none => .ret true
  | some (j, w) => match (ops[j]?).bind (·.dst) with
    | some d => match T.get d with
      | .b x => .ask (.bit x) fun
        | .yes => .ret (true == w)
        | .no => .ret (false == w)
        | .auto => .ret (x == w)
        | _ => .stop
      | .tu [] => .ret false
      | _ => .stop
    | none => .stop
def operF (V : View) (cf : Cfg) (rec : RecF) (ops : Array Oper) (o : Oper) (st : St) : F (St × Ft) :=
  (wantedF ops st.T o).bind fun w =>
    bif w then (doF V cf rec o.op st).bind fun r => forceV r.v fun v => match putA { st with H := r.h } o.dst v with
      | some s => forceS s fun s => .ret (s, (r.rd, r.wr))
      | none => .stop
    else match putA st o.dst (.tu []) with
      | some s => forceS s fun s => .ret (s, (some [], some []))
      | none => .stop
def opsF (V : View) (cf : Cfg) (rec : RecF) (ops : Array Oper) : List Nat → St → F (St × List Ft)
  | [], st => .ret (st, [])
  | i :: r, st => match ops[i]? with
    | some o => (operF V cf rec ops o st).bind fun x => (opsF V cf rec ops r x.1).bind fun y => .ret (y.1, x.2 :: y.2)
    | none => .stop
def regF (V : View) (cf : Cfg) (rec : RecF) (ops : Array Oper) (draw : Bool) (st : St) : F (AX × St) :=
  (opsF V cf rec ops (List.range ops.size) st).bind fun x =>
    match draw with
    | false => .ret (.normal, x.1)
    | true => .ask (.ord ops x.2) fun
      | .yes => .ret (.normal, x.1)
      | .auto => if orderOk ops = true ∧ allOk (Region.before ops) [] 0 x.2 = true then .ret (.normal, x.1) else .stop
      | _ => .stop
def scopeF (rec : RecF) (body : Code) : Nat → Code → St → F (AX × St)
  | 0, _, _ => .stop
  | k + 1, c, st => (rec c st).bind fun x => match x.1 with
    | .goto l => match findLabel body l with
      | some rest => .ask (.scope body rest l x.2) fun
        | .head st' => (rec rest st').bind fun y => match y.1 with
          | .goto l' => match findLabel body l' with
            | some _ => .stop
            | none => .ret y
          | _ => .ret y
        | .auto => scopeF rec body k rest x.2
        | _ => .stop
      | none => .ret x
    | _ => .ret x
def loopF (rec : RecF) (base : Nat) (body : Code) : Nat → St → F (AX × St)
  | 0, _ => .stop
  | k + 1, st => (rec body st).bind fun x => match x.1 with
    | .normal => if base ≤ x.2.H.nx then loopF rec base body k x.2 else .stop
    | _ => .ret x
def rangeF (V : View) (cf : Cfg) (rec : RecF) (g : Operand) (ps : Array Tmp) (asg body : Code) (st : St) : F (AX × St) :=
  if st.q then .stop else
  match ev st.T g with
  | .fn f cap =>
    if bodyJumpV V f then .stop else
    (enterF V rec f (.yl st.H.nx :: cap) (st.H.new (.loop .ready none st.T st.n ps.toList asg body))).bind fun x =>
      match loopOf x.2 st.H.nx with
      | some (s, p, T, n, qs, a, b) =>
        if s = .busy then .stop else F.of (jumpX { st with H := x.2.put st.H.nx (.loop .exhausted p T n qs a b) } p)
      | none => .stop
  | _ => .stop
def codeF (V : View) (cf : Cfg) : Nat → RecF
  | 0, _, _ => .stop
  | k + 1, c, st =>
    match c with
    | .skip => .ret (.normal, st)
    | .label _ => .ret (.normal, st)
    | .ret => .ret (.ret, st)
    | .exit id => .ret (.exit id, st)
    | .goto l => .ret (.goto l, st)
    | .seq a b => (codeF V cf k a st).bind fun x => match x.1 with
      | .normal => codeF V cf k b x.2
      | _ => .ret x
    | .cond c x y => match ev st.T c with
      | .b t => .ask (.bit t) fun
        | .yes => codeF V cf k x st
        | .no => codeF V cf k y st
        | .auto => codeF V cf k (bif t then x else y) st
        | _ => .stop
      | _ => .stop
    | .block id c => (codeF V cf k c st).bind fun x => .ret (blockX id x.1, x.2)
    | .loop c => .ask (.loop c st) fun
      | .res e st' => .ret (e, st')
      | .head st' => (codeF V cf k c st').bind fun x => match x.1 with
        | .normal => .stop
        | _ => .ret x
      | .auto => loopF (codeF V cf k) st.H.nx c k st
      | _ => .stop
    | .scope c => scopeF (codeF V cf k) c k c st
    | .region _ ops draw => regF V cf (codeF V cf k) ops draw st
    | .rangeFunc g ps asg body => rangeF V cf (codeF V cf k) g ps asg body st
    | .refuse _ => .stop
/-- A whole call, what it hands back being held by nobody else. -/
def funF (V : View) (cf : Cfg) (k : Nat) (f : FuncId) (args : List AV) : F AV :=
  (enterF V (codeF V cf k) f args AH.empty).bind fun x => purVF x.2 false depthA x.1 fun r => .ret r.1

/-- A function's call told by itself: its result, nobody else holding what it made; 'fr': holding nothing of what came in either. -/
def EvFr (P : Program) (cf : Cfg) (fr : Bool) (f : FuncId) (args : List AV) (v : AV) : Prop := ∃ v1 h1 bs, EvEnter P cf f args AH.empty (v1, h1) ∧ purV h1 fr depthA v1 = some (v, bs)
/-- A function's call told by itself, what it hands back being the caller's own. -/
def EvOw (P : Program) (cf : Cfg) (fr : Bool) (zss : List (List Nat)) (f : FuncId) (args : List AV) (v : AV) : Prop :=
  ∀ H, ∃ v1 h1 h2, EvEnter P cf f args AH.empty (v1, h1) ∧ grab h1 v1 = some h2 ∧ thaw zss h1 h2 fr H v1 = some (ownV zss v H)
def funO (V : View) (cf : Cfg) (k : Nat) (fr : Bool) (zss : List (List Nat)) (f : FuncId) (args : List AV) (H : AH) : F (AV × AH) :=
  (enterF V (codeF V cf k) f args AH.empty).bind fun x => match grab x.2 x.1 with
    | some h2 => thawF zss x.2 h2 fr H x.1 fun r => .ret r
    | none => .stop
def funR (V : View) (cf : Cfg) (k : Nat) (fr : Bool) (f : FuncId) (args : List AV) : F AV :=
  (enterF V (codeF V cf k) f args AH.empty).bind fun x => purVF x.2 fr depthA x.1 fun r => .ret r.1

/-! ### Run on answers -/
def propOf (P : Program) (cf : Cfg) : Q → Hint → List Prop
  | .bit b, .yes => [b = true]
  | .bit b, .no => [b = false]
  | .op o st, .op r => [aOp P st.H st.T o = some r]
  | .call f args h, .call r => [EvCall P cf f args h r]
  | .loop c st, .res e st' => [EvLoop P cf c st (e, st')]
  | .body c st, .res e st' => [Ev P cf c st (e, st')]
  | .scope body c l st, .head st' => [EvSHead P cf body c st st']
  | .loop c st, .head st' => [EvHead P cf c st st']
  | .prop p, .yes => [p]
  | .one cs, .val c => [cs = [c]]
  | .bytes cs, .str l => [bytesOf cs = some l]
  | .pur h fr k cs, .cells cs' => [mapP (purV h fr k) cs = some (cs', [])]
  | .pur h fr k cs, .cellsb cs' bs => [mapP (purV h fr k) cs = some (cs', bs)]
  | .pur h fr k cs, .yes => match k with | 0 => [False] | _ + 1 => [Pl fr cs]
  | .efun f args fr, .fres v => match thawOf cf.thaw f with
    | some zss => [EvOw P cf fr zss f args v]
    | none => [EvFr P cf fr f args v]
  | .lst cs, .cells cs' => [cs = cs']
  | .eqc a b, .truth r => [eqCells a b = some r]
  | .ord ops fts, .yes => [orderOk ops = true ∧ allOk (Region.before ops) [] 0 fts = true]
  | _, _ => []
def exec {α : Type} (P : Program) (cf : Cfg) : F α → List Hint → Option (α × List Prop × List Hint)
  | .ret a, hs => some (a, [], hs)
  | .ask q k, hs => match hs with
    | h :: hs => match exec P cf (k h) hs with
      | some (a, ps, r) => some (a, propOf P cf q h ++ ps, r)
      | none => none
    | [] => none
  | .stop, _ => none
def All : List Prop → Prop
  | [] => True
  | p :: ps => p ∧ All ps
theorem all_append {a b : List Prop} : All (a ++ b) ↔ All a ∧ All b := by
  induction a with
  | nil => simp [All]
  | cons p a ih => simp [All, ih, and_assoc]

section
variable {P : Program} {cf : Cfg}
def Ok {α : Type} (P : Program) (cf : Cfg) (m : F α) (R : α → Prop) : Prop := ∀ hs x ps r, exec P cf m hs = some (x, ps, r) → All ps → R x
theorem Ok.ret {α : Type} {a : α} {R : α → Prop} (h : R a) : Ok P cf (.ret a) R := by
  intro hs x ps r e _
  simp only [exec, Option.some.injEq, Prod.mk.injEq] at e
  obtain ⟨rfl, _, _⟩ := e
  exact h
theorem Ok.stop {α : Type} {R : α → Prop} : Ok P cf (.stop : F α) R := fun hs x ps r e _ => by cases e
theorem Ok.of {α : Type} {o : Option α} {R : α → Prop} (h : ∀ a, o = some a → R a) : Ok P cf (F.of o) R := by
  cases o with
  | none => exact Ok.stop
  | some a => exact Ok.ret (h a rfl)
theorem Ok.ask {α : Type} {q : Q} {k : Hint → F α} {R : α → Prop} (h : ∀ hi, All (propOf P cf q hi) → Ok P cf (k hi) R) : Ok P cf (.ask q k) R := by
  intro hs x ps r e hp
  cases hs with
  | nil => cases e
  | cons hi hs =>
    simp only [exec] at e
    split at e
    · rename_i a qs r' he
      simp only [Option.some.injEq, Prod.mk.injEq] at e
      obtain ⟨rfl, rfl, rfl⟩ := e
      rw [all_append] at hp
      exact h hi hp.1 hs _ _ _ he hp.2
    · cases e
theorem Ok.bind {α β : Type} {m : F α} {f : α → F β} {R : α → Prop} {S : β → Prop} (hm : Ok P cf m R) (hf : ∀ x, R x → Ok P cf (f x) S) : Ok P cf (m.bind f) S := by
  induction m with
  | ret a =>
    have : R a := hm [] a [] [] rfl trivial
    exact hf a this
  | stop => exact Ok.stop
  | ask q k ih =>
    refine Ok.ask (k := fun h => (k h).bind f) fun hi hp => ih hi ?_
    intro hs x ps r e hps
    exact hm (hi :: hs) x (propOf P cf q hi ++ ps) r (by simp only [exec, e]) (all_append.2 ⟨hp, hps⟩)

theorem askP_ok {α : Type} {p : Prop} [Decidable p] {m : F α} {R : α → Prop} (h : p → Ok P cf m R) : Ok P cf (askP p m) R := by
  unfold askP
  refine Ok.ask fun hi hp => ?_
  cases hi <;> simp only [propOf, All] at hp ⊢ <;> first | exact Ok.stop | skip
  · split
    · rename_i hh; exact h hh
    · exact Ok.stop
  · exact h hp.1
theorem askOne_ok {α : Type} {cs : List AV} {k : AV → F α} {R : α → Prop} (h : ∀ c, cs = [c] → Ok P cf (k c) R) : Ok P cf (askOne cs k) R := by
  unfold askOne
  refine Ok.ask fun hi hp => ?_
  cases hi <;> simp only [propOf, All] at hp ⊢ <;> first | exact Ok.stop | skip
  · split
    · exact h _ rfl
    · exact Ok.stop
  · exact h _ hp.1
theorem askLst_ok {α : Type} {cs : List AV} {k : List AV → F α} {R : α → Prop} (h : Ok P cf (k cs) R) : Ok P cf (askLst cs k) R := by
  unfold askLst
  refine Ok.ask fun hi hp => ?_
  cases hi <;> simp only [propOf, All] at hp ⊢ <;> first | exact Ok.stop | skip
  · exact h
  · rw [← hp.1]; exact h
theorem askBytes_ok {α : Type} {cs : List AV} {k : List UInt8 → F α} {R : α → Prop} (h : ∀ l, bytesOf cs = some l → Ok P cf (k l) R) : Ok P cf (askBytes cs k) R := by
  unfold askBytes
  refine Ok.ask fun hi hp => ?_
  cases hi <;> simp only [propOf, All] at hp ⊢ <;> first | exact Ok.stop | skip
  · split
    · rename_i l hl; exact h _ hl
    · exact Ok.stop
  · exact h _ hp.1
theorem slF_ok {α : Type} {h : AH} {z : Nat} {v : AV} {k : Nat × List AV × List Nat → F α} {R : α → Prop} (hk : ∀ r, slCells h z v = some r → Ok P cf (k r) R) : Ok P cf (slF h z v k) R := by
  unfold slF
  split
  · exact hk _ rfl
  · rename_i n cs
    refine askP_ok fun hp => hk _ ?_
    simp only [slCells]; rw [if_pos hp]
  · rename_i b z' off n
    split
    · rename_i hz
      split
      · rename_i cs hcs
        have hgen : off + n * z ≤ cs.length → slCells h z (.rf b z' off n) = some (n, (cs.drop off).take (n * z), [b]) := by
          intro hp
          simp only [slCells]; rw [if_pos hz, hcs]; simp only; rw [if_pos hp]
        refine Ok.ask fun hi hp => ?_
        cases hi <;> simp only [propOf, All] at hp ⊢ <;> first | exact Ok.stop | skip
        · split
          · rename_i hh; exact hk _ (hgen hh)
          · exact Ok.stop
        · refine hk _ ?_
          rw [hgen (by omega), hp.1.1, ← hp.1.2]; simp
        · exact askP_ok fun hh => hk _ (hgen hh)
      · exact Ok.stop
    · exact Ok.stop
  · exact Ok.stop
theorem bndF_ok {α : Type} {lo : Option AV} {d : Nat} {k : Nat → F α} {R : α → Prop} (hk : ∀ n, bnd lo d = some n → Ok P cf (k n) R) : Ok P cf (bndF lo d k) R := by
  unfold bndF
  split
  · exact hk _ rfl
  · rename_i n
    refine askP_ok fun hp => hk _ ?_
    simp only [bnd]; rw [if_pos hp]
  · exact Ok.stop
theorem appendF_ok {h : AH} {t : TypeId} {t1 : Option TypeId} {s x : AV} : Ok P cf (appendF (View.of P) h t t1 s x) (fun r => appendA P h t t1 s x = some r) := by
  unfold appendF
  split
  · rename_i ti ht
    split
    · rename_i e hk
      split
      · rename_i ei he
        split
        · exact Ok.stop
        · rename_i hno
          have hno : ¬(noInt P t1 = false ∨ ei.zero.length ≠ ei.size) := hno
          have ht : tinfo P t = some ti := ht
          have he : tinfo P e = some ei := he
          refine slF_ok fun r hr => ?_
          split
          · refine askP_ok fun h1 => ?_
            split
            · rename_i h2
              refine Ok.ret ?_
              simp only [appendA, ht, hk, he]
              rw [if_neg hno, hr]
              simp only
              rw [if_pos ⟨h1, h2.1, h2.2⟩]
            · exact Ok.stop
          · rename_i b z m
            split
            · rename_i old hold
              refine askP_ok fun h1 => ?_
              split
              · rename_i h2
                refine Ok.ret ?_
                simp only [appendA, ht, hk, he]
                rw [if_neg hno, hr]
                simp only [hold]
                rw [if_pos ⟨h2.1, h1.1, h1.2, h2.2.1, h2.2.2⟩]
              · exact Ok.stop
            · exact Ok.stop
          · exact Ok.stop
      · exact Ok.stop
    · exact Ok.stop
  · exact Ok.stop
theorem copyF_ok {h : AH} {t : TypeId} {d x : AV} : Ok P cf (copyF (View.of P) h t d x) (fun r => copyA P h t d x = some r) := by
  unfold copyF
  split
  · rename_i ti ht
    split
    · rename_i e hk
      split
      · rename_i ei he
        have ht : tinfo P t = some ti := ht
        have he : tinfo P e = some ei := he
        refine slF_ok fun r hr => ?_
        split
        · rename_i b z off m
          split
          · rename_i cs hcs
            refine askP_ok fun h1 => ?_
            split
            · rename_i h2
              refine askLst_ok (Ok.ret ?_)
              obtain ⟨n, new, rd⟩ := r
              simp only [copyA, ht, hk, he, hr, hcs]
              rw [if_pos ⟨h2, h1⟩]
            · exact Ok.stop
          · exact Ok.stop
        · exact Ok.stop
      · exact Ok.stop
    · exact Ok.stop
  · exact Ok.stop
theorem convF_ok {h : AH} {s d : TypeId} {x : AV} : Ok P cf (convF (View.of P) h s d x) (fun r => conv P h s d x = some r) := by
  unfold convF
  split
  · rename_i si di hs hd
    have hs : tinfo P _ = some _ := hs
    have hd : tinfo P _ = some _ := hd
    split
    · rename_i e hk1 hk2
      split
      · rename_i ei he
        have he : tinfo P _ = some _ := he
        split
        · rename_i hu
          refine slF_ok fun r hr => askBytes_ok fun l hl => Ok.ret ?_
          obtain ⟨n, cs, rd⟩ := r
          simp only at hl
          simp only [conv, hs, hd, hk1, hk2, he, hu, hr, hl]
        · exact Ok.stop
      · exact Ok.stop
    · exact Ok.of fun a ha => ha
  · exact Ok.stop
theorem loadF_ok {h : AH} {T : Tm} {t : TypeId} {a : Operand} : Ok P cf (loadF (View.of P) h t (ev T a)) (fun r => aOp P h T (.load t a) = some r) := by
  unfold loadF
  split
  · rename_i ti ht
    have ht : tinfo P _ = some _ := ht
    split
    · exact Ok.stop
    · rename_i hz
      generalize hx : ev T a = x
      have key : ∀ cs rd v, cellsAt h x ti.size = some (cs, rd) → asTy ti cs = some v → aOp P h T (.load t a) = some ⟨v, h, rd, []⟩ := by
        intro cs rd v h1 h2
        simp only [aOp, ht, hx]
        rw [if_neg hz, h1]
        simp only [h2]
      split
      · rename_i b off
        split
        · rename_i cs hcs
          refine askP_ok fun hp => ?_
          have hc : cellsAt h (.pt b off) ti.size = some ((cs.drop off).take ti.size, [b]) := by simp only [cellsAt, hcs]; rw [if_pos hp]
          split
          · rename_i hag; exact askLst_ok (Ok.ret (key _ _ _ hc (by unfold asTy; rw [if_pos hag])))
          · rename_i hag; exact askOne_ok fun c he => Ok.ret (key _ _ _ hc (by unfold asTy; rw [if_neg hag, he]))
        · exact Ok.stop
      · rename_i cs
        refine askP_ok fun hp => ?_
        have hc : cellsAt h (.ip cs) ti.size = some (cs.take ti.size, []) := by simp only [cellsAt]; rw [if_pos hp]
        split
        · rename_i hag; exact askLst_ok (Ok.ret (key _ _ _ hc (by unfold asTy; rw [if_pos hag])))
        · rename_i hag; exact askOne_ok fun c he => Ok.ret (key _ _ _ hc (by unfold asTy; rw [if_neg hag, he]))
      · exact Ok.stop
  · exact Ok.stop
theorem sliceF_ok {h : AH} {t : TypeId} {x : AV} {lo hi mx : Option AV} : Ok P cf (sliceF (View.of P) h t x lo hi mx) (fun r => sliceA P h t x lo hi mx = some r) := by
  unfold sliceF
  split
  · exact Ok.stop
  · rename_i ti ht
    have ht : tinfo P _ = some _ := ht
    split
    · rename_i e hk
      split
      · rename_i ei he
        have he : tinfo P _ = some _ := he
        split
        · exact Ok.of fun a ha => ha
        · rename_i n cs
          refine bndF_ok fun l hl => bndF_ok fun h' hh => askP_ok fun hp => Ok.ret ?_
          have hcut : cutA lo hi none n = some (l, h', false) := by
            have hb : bnd none n = some n := rfl
            simp only [cutA, hl, hh, hb]
            rw [if_pos ⟨hp.1, hp.2.1, Nat.le_refl _, fun e => by cases e⟩]; rfl
          simp only [sliceA, ht, hk, he, hcut]
          rw [if_pos hp.2.2]; rfl
        · rename_i b z off n
          refine bndF_ok fun l hl => bndF_ok fun h' hh => askP_ok fun hp => ?_
          have hcut : cutA lo hi none n = some (l, h', false) := by
            have hb : bnd none n = some n := rfl
            simp only [cutA, hl, hh, hb]
            rw [if_pos ⟨hp.1, hp.2, Nat.le_refl _, fun e => by cases e⟩]; rfl
          split
          · rename_i hz
            refine Ok.ret ?_
            simp only [sliceA, ht, hk, he, hcut]
            rw [if_pos hz]; rfl
          · exact Ok.stop
        · exact Ok.stop
      · exact Ok.of fun a ha => ha
    · rename_i n e hk
      split
      · rename_i ei he
        have he : tinfo P _ = some _ := he
        refine bndF_ok fun l hl => bndF_ok fun h' hh => ?_
        split
        · rename_i b off
          split
          · rename_i cs hcs
            refine askP_ok fun hp => ?_
            split
            · rename_i hz
              refine Ok.ret ?_
              simp only [sliceA, ht, hk, he, hl, hh, hcs]
              rw [if_pos ⟨hp.1, hp.2.1, rfl⟩, if_pos ⟨hp.2.2, hz⟩]
            · exact Ok.stop
          · exact Ok.stop
        · rename_i cs
          refine askP_ok fun hp => askLst_ok (Ok.ret ?_)
          simp only [sliceA, ht, hk, he, hl, hh]
          rw [if_pos ⟨hp.1, hp.2.1, rfl⟩, if_pos hp.2.2]; rfl
        · exact Ok.stop
      · exact Ok.of fun a ha => ha
    · exact Ok.of fun a ha => ha
theorem idxF_ok {h : AH} {t : TypeId} {x ix : AV} : Ok P cf (idxF (View.of P) h t x ix) (fun r => idxAddr P h t x ix = some r) := by
  unfold idxF
  split
  · rename_i ti i ht hi
    have ht : tinfo P _ = some _ := ht
    split
    · rename_i n e hk
      split
      · rename_i ei he
        have he : tinfo P _ = some _ := he
        refine askP_ok fun hp => ?_
        split
        · refine Ok.ret ?_; simp only [idxAddr, ht, hi, hk, he]; rw [if_pos hp]; rfl
        · refine Ok.ret ?_; simp only [idxAddr, ht, hi, hk, he]; rw [if_pos hp]; rfl
        · exact Ok.stop
      · exact Ok.stop
    · rename_i e hk
      split
      · rename_i ei he
        have he : tinfo P _ = some _ := he
        split
        · refine askP_ok fun hp => ?_
          split
          · rename_i hz; refine Ok.ret ?_; simp only [idxAddr, ht, hi, hk, he]; rw [if_pos ⟨hp.1, hp.2, hz⟩]; rfl
          · exact Ok.stop
        · refine askP_ok fun hp => Ok.ret ?_; simp only [idxAddr, ht, hi, hk, he]; rw [if_pos hp]; rfl
        · exact Ok.stop
      · exact Ok.stop
    · exact Ok.stop
  · exact Ok.stop
theorem storeF_ok {h : AH} {T : Tm} {t : TypeId} {a x : Operand} : Ok P cf (storeF (View.of P) h t (ev T a) (ev T x)) (fun r => aOp P h T (.store t a x) = some r) := by
  unfold storeF
  split
  · rename_i ti b off vs ht ha hv
    have ht : tinfo P _ = some _ := ht
    split
    · rename_i cs hcs
      refine askP_ok fun hp => askLst_ok (Ok.ret ?_)
      have : storeA P h t (ev T a) (ev T x) = (some (h.put b (.cells (over cs off vs))), [b]) := by
        simp only [storeA, ht, ha, hv, hcs]; rw [if_pos hp]
      simp only [aOp, this]
    · exact Ok.stop
  · exact Ok.stop
theorem makeF_ok {h : AH} {T : Tm} {t : TypeId} {l c : Operand} : Ok P cf (makeF (View.of P) h t (ev T l) (ev T c)) (fun r => aOp P h T (.makeSlice t l c) = some r) := by
  unfold makeF
  split
  · rename_i ti n m ht hl hc
    have ht : tinfo P _ = some _ := ht
    split
    · rename_i e hk
      split
      · rename_i ei he
        have he : tinfo P _ = some _ := he
        refine askP_ok fun hp => ?_
        split
        · rename_i hq
          refine Ok.ret ?_
          simp only [aOp, ht, hl, hc, hk, he]
          rw [if_pos ⟨hp.1, hp.2.1, hp.2.2, hq.1, hq.2.1, hq.2.2⟩]
        · exact Ok.stop
      · exact Ok.stop
    · exact Ok.stop
  · exact Ok.stop
theorem binAgF_ok {h : AH} {T : Tm} {op : BinOp} {t t2 : TypeId} {x y : Operand} {a b : List AV} (hx : ev T x = .ag a) (hy : ev T y = .ag b) : Ok P cf (binAgF (View.of P) h op t a b) (fun r => aOp P h T (.binOp op t x y t2) = some r) := by
  unfold binAgF
  split
  · rename_i s hs
    have hs : flatEq P 8 t = some s := hs
    refine askP_ok fun hl => ?_
    split
    · rename_i hg
      have hg : P.eqGuardType P.depth t = false ∧ (P.underlying t).map isAggD = some true := hg
      have key : ∀ r v, eqCells a b = some r → (op = .eql ∧ v = AV.b r ∨ op = .neq ∧ v = AV.b !r) → aOp P h T (.binOp op t x y t2) = some ⟨v, h, [], []⟩ := by
        intro r v he hv
        have hb : bin P op t (.ag a) (.ag b) = some v := by
          simp only [bin, hs]
          rw [if_pos ⟨hl.1, hl.2, hg.1, hg.2⟩]
          rcases hv with ⟨rfl, rfl⟩ | ⟨rfl, rfl⟩ <;> simp only [he]
        simp only [aOp, hx, hy, hb, quiet]
      refine Ok.ask fun hi hp => ?_
      cases hi <;> simp only [propOf, All] at hp ⊢ <;> first | exact Ok.stop | skip
      · split
        · rename_i r he; exact Ok.ret (key r _ he (.inl ⟨rfl, rfl⟩))
        · rename_i r he; exact Ok.ret (key r _ he (.inr ⟨rfl, rfl⟩))
        · exact Ok.stop
      · split
        · exact Ok.ret (key _ _ hp.1 (.inl ⟨rfl, rfl⟩))
        · exact Ok.ret (key _ _ hp.1 (.inr ⟨rfl, rfl⟩))
        · exact Ok.stop
    · exact Ok.stop
  · exact Ok.stop
theorem divF_ok {h : AH} {T : Tm} {op : BinOp} {t t2 : TypeId} {x y : Operand} {a b : Int} (hx : ev T x = .i a) (hy : ev T y = .i b) (ho : isDiv op = true) : Ok P cf (divF h op a b) (fun r => aOp P h T (.binOp op t x y t2) = some r) := by
  unfold divF
  refine askP_ok fun hb => Ok.ret ?_
  cases op <;> first | (cases ho; done) | (simp only [aOp, hx, hy, bin, binI, if_neg (beq_eq_false_iff_ne.1 hb), ofInt, quiet])
theorem over_one {cells : List AV} {off : Nat} {u : AV} (h : off + 1 ≤ cells.length) : over cells off [u] = cells.set off u := by
  rw [List.set_eq_take_append_cons_drop, if_pos (by omega)]
  simp [over]
theorem fillF_ok {α : Type} {places : Nat → Option (Nat × Nat)} {k : List AV → F α} {R : α → Prop} : ∀ (parts : List (Nat × AV)) (cells : List AV), (∀ out, fillA places cells parts = some out → Ok P cf (k out) R) → Ok P cf (fillF places cells parts k) R
  | [], cells, hk => by simp only [fillF]; exact hk _ rfl
  | (i, v) :: rest, cells, hk => by
    simp only [fillF]
    split
    · rename_i off size vs hpl
      rw [forceN_eq, forceN_eq]
      refine askP_ok fun hp => askLst_ok (fillF_ok rest _ fun out ho => hk _ ?_)
      simp only [fillA, hpl, vcells]
      rw [if_pos hp]
      have e : over cells off vs = cells.take off ++ (vs ++ cells.drop (off + size)) := by unfold over; rw [hp.1, List.append_assoc]
      rw [e, ← glue_eq]; exact ho
    · rename_i off size hpl hv
      rw [forceN_eq]
      split
      · rename_i u hvs
        split
        · rename_i hp
          refine fillF_ok rest _ fun out ho => hk _ ?_
          simp only [fillA, hpl, hvs]
          rw [if_pos (by simpa using hp), over_one hp.2]; exact ho
        · exact Ok.stop
      · exact Ok.stop
    · exact Ok.stop
theorem buildF_ok {h : AH} {T : Tm} {t : TypeId} {parts : Array (Nat × Operand)} : Ok P cf (buildF (View.of P) h T t parts.toList) (fun r => aOp P h T (.build t parts) = some r) := by
  unfold buildF
  split
  · rename_i ti ht
    have ht : tinfo P _ = some _ := ht
    split
    · rename_i fs hk
      refine fillF_ok _ _ fun out ho => askLst_ok (Ok.ret ?_)
      simp only [aOp, ht, hk, ho, quiet]
    · exact Ok.stop
  · exact Ok.stop
theorem buildSlF_ok {h : AH} {T : Tm} {t : TypeId} {len : Nat} {parts : Array (Nat × Operand)} : Ok P cf (buildSlF (View.of P) h T t len parts.toList) (fun r => aOp P h T (.buildSlice t len parts) = some r) := by
  unfold buildSlF
  split
  · rename_i ti ht
    have ht : tinfo P _ = some _ := ht
    split
    · rename_i e hk
      split
      · rename_i ei he
        have he : tinfo P _ = some _ := he
        split
        · rename_i hc
          refine fillF_ok _ _ fun out ho => askLst_ok (Ok.ret ?_)
          simp only [aOp, ht, hk, he]
          rw [if_pos ⟨hc.1, hc.2.1, hc.2.2.1⟩, if_neg hc.2.2.2, ho]
        · exact Ok.stop
      · exact Ok.stop
    · exact Ok.stop
  · exact Ok.stop
theorem arrPtrF_ok {h : AH} {T : Tm} {arr : TypeId} {x : Operand} : Ok P cf (arrPtrF (View.of P) h arr (ev T x)) (fun r => aOp P h T (.sliceToArrayPointer arr x) = some r) := by
  unfold arrPtrF
  split
  · rename_i ti ht
    have ht : tinfo P _ = some _ := ht
    split
    · rename_i n e m cs hk hx
      refine askP_ok fun hp => Ok.ret ?_
      simp only [aOp, ht, hk, hx]
      rw [if_pos hp]; rfl
    · rename_i n e b z off m hk hx
      refine askP_ok fun hp => Ok.ret ?_
      simp only [aOp, ht, hk, hx]
      rw [if_pos hp]; rfl
    · exact Ok.stop
  · exact Ok.stop
theorem fieldF_ok {h : AH} {T : Tm} {s : TypeId} {x : Operand} {f : Nat} {cs : List AV} (hx : ev T x = .ag cs) : Ok P cf (fieldF (View.of P) h s cs f) (fun r => aOp P h T (.field s x f) = some r) := by
  unfold fieldF
  split
  · rename_i ti ht
    have ht : tinfo P _ = some _ := ht
    split
    · rename_i fs hk
      split
      · rename_i off sz ag hf
        refine askP_ok fun hp => ?_
        split
        · refine askLst_ok (Ok.ret ?_)
          simp only [aOp, ht, hk, hx, hf]
          rw [if_pos hp]; rfl
        · refine askOne_ok fun c hc => Ok.ret ?_
          simp only [aOp, ht, hk, hx, hf]
          rw [if_pos hp, hc]; rfl
      · exact Ok.stop
    · exact Ok.stop
  · exact Ok.stop
theorem opF_ok {h : AH} {T : Tm} {op : Op} {m : F OR} (hm : opF (View.of P) h T op = some m) : Ok P cf m (fun r => aOp P h T op = some r) := by
  cases op <;> simp only [opF] at hm <;> first | (cases hm; done) | skip
  case load t a => injection hm with hm; subst hm; exact loadF_ok
  case store t a x => injection hm with hm; subst hm; exact storeF_ok
  case convert s d x => injection hm with hm; subst hm; exact convF_ok
  case slice t x lo hi mx => injection hm with hm; subst hm; exact sliceF_ok
  case indexAddr t x ix => injection hm with hm; subst hm; exact idxF_ok
  case makeSlice t l c => injection hm with hm; subst hm; exact makeF_ok
  case build t parts =>
    split at hm
    · injection hm with hm; subst hm; exact buildF_ok
    · cases hm
  case buildSlice t len parts =>
    split at hm
    · injection hm with hm; subst hm; exact buildSlF_ok
    · cases hm
  case sliceToArrayPointer arr x => injection hm with hm; subst hm; exact arrPtrF_ok
  case field s x f =>
    split at hm
    · rename_i cs hx; injection hm with hm; subst hm; exact fieldF_ok hx
    · cases hm
  case binOp op t x y t2 =>
    split at hm
    · rename_i a b ha hb
      injection hm with hm; subst hm; exact binAgF_ok ha hb
    · rename_i a b ha hb
      split at hm
      · rename_i ho
        injection hm with hm; subst hm; exact divF_ok ha hb ho
      · cases hm
    · cases hm
  case call c =>
    split at hm
    · rename_i s x hc ha
      split at hm
      · rename_i t ht
        injection hm with hm; subst hm
        intro hs r ps q e hp
        have := appendF_ok hs r ps q e hp
        simp only [aOp, hc, ha, builtinA, ht]
        exact this
      · cases hm
    · rename_i d x hc ha
      split at hm
      · rename_i t ht
        injection hm with hm; subst hm
        intro hs r ps q e hp
        have := copyF_ok hs r ps q e hp
        simp only [aOp, hc, ha, builtinA, ht]
        exact this
      · cases hm
    · cases hm

theorem mapPF_ok {α : Type} {f : AV → (AV × List Nat → F α) → F α} {g : AV → Option (AV × List Nat)} (hf : ∀ (v : AV) (k : AV × List Nat → F α) (R : α → Prop), (∀ r, g v = some r → Ok P cf (k r) R) → Ok P cf (f v k) R) :
    ∀ (xs : List AV) (k : List AV × List Nat → F α) (R : α → Prop), (∀ r, mapP g xs = some r → Ok P cf (k r) R) → Ok P cf (mapPF f xs k) R
  | [], k, R, hk => hk _ rfl
  | v :: xs, k, R, hk => by
    refine hf v _ R fun a ha => mapPF_ok hf xs _ R fun b hb => hk _ ?_
    obtain ⟨a1, a2⟩ := a
    obtain ⟨b1, b2⟩ := b
    simp only [mapP, ha, hb]
theorem askPur_ok {α : Type} {h : AH} {fr : Bool} {j : Nat} {cs : List AV} {k : List AV × List Nat → F α} {R : α → Prop} (hk : ∀ r, mapP (purV h fr j) cs = some r → Ok P cf (k r) R) : Ok P cf (askPur h fr j cs k) R := by
  unfold askPur
  refine Ok.ask fun hi hp => ?_
  cases hi <;> simp only [propOf, All] at hp ⊢ <;> first | exact Ok.stop | skip
  · split
    · rename_i r hr; exact hk _ hr
    · exact Ok.stop
  · cases j with
    | zero => exact hp.1.elim
    | succ j => exact hk _ (pur_plain _ _ _ _ hp.1)
  · exact hk _ hp.1
  · exact hk _ hp.1
theorem purVF_ok {α : Type} {h : AH} {fr : Bool} : ∀ (j : Nat) (v : AV) (k : AV × List Nat → F α) (R : α → Prop), (∀ r, purV h fr j v = some r → Ok P cf (k r) R) → Ok P cf (purVF h fr j v k) R := by
  intro j
  induction j with
  | zero => exact fun v k R hk => Ok.stop
  | succ j ih =>
    intro v k R hk
    have hdef : Ok P cf (match purV h fr (j + 1) v with | some r => k r | none => .stop) R := by
      split
      · rename_i r hr; exact hk _ hr
      · exact Ok.stop
    cases v with
    | sl n cs =>
      simp only [purVF]
      cases fr with
      | true =>
        simp only [cond_true]
        refine askP_ok fun hp => hk _ ?_
        simp only [purV]; rw [if_neg (fun e => e.2 hp)]
      | false => exact hk _ (by simp [purV])
    | rf b z off n =>
      simp only [purVF]
      refine slF_ok fun r hr => askPur_ok fun q hq => hk _ ?_
      simp only [slCells, if_true] at hr
      split at hr
      · rename_i cs hcs
        split at hr
        · rename_i hle
          injection hr with hr; subst hr
          simp only at hq
          simp only [purV, hcs]
          rw [if_pos hle, hq]
        · cases hr
      · cases hr
    | ag xs =>
      simp only [purVF]
      exact mapPF_ok ih xs _ R fun r hr => hk _ (by simp only [purV, hr, Option.map_some])
    | tu xs =>
      simp only [purVF]
      exact mapPF_ok ih xs _ R fun r hr => hk _ (by simp only [purV, hr, Option.map_some])
    | _ => exact hdef
theorem thaw1F_ok {α : Type} {z : Nat} {h0 h1 : AH} {fr : Bool} {h : AH} {v : AV} {k : AV × AH → F α} {R : α → Prop} (hk : ∀ r, thaw1 z h0 h1 fr h v = some r → Ok P cf (k r) R) : Ok P cf (thaw1F z h0 h1 fr h v k) R := by
  have hdef : (∀ r, purV h1 fr depthA v = some r → thaw1 z h0 h1 fr h v = some (r.1, h)) → Ok P cf (purVF h1 fr depthA v fun r => k (r.1, h)) R := fun hh => purVF_ok _ _ _ _ fun r hr => hk _ (hh r hr)
  cases v with
  | rf b z off n =>
    simp only [thaw1F]
    split
    · rename_i cs hcs
      refine askP_ok fun hp => askPur_ok fun q hq => hk _ ?_
      obtain ⟨q1, q2⟩ := q
      simp only [thaw1, hcs]
      rw [if_pos hp, hq]
    · exact Ok.stop
  | nl =>
    simp only [thaw1F]
    split
    · rename_i r hr; exact hk _ hr
    · exact Ok.stop
  | mp b =>
    simp only [thaw1F]
    split
    · rename_i r hr; exact hk _ hr
    · exact Ok.stop
  | _ => exact hdef (fun r hr => by obtain ⟨r1, r2⟩ := r; simp only [thaw1, hr])
theorem thawLF_ok {α : Type} {h0 h1 : AH} {fr : Bool} {R : α → Prop} : ∀ {zs : List Nat} {xs : List AV} {h : AH} {k : List AV × AH → F α}, (∀ r, thawL h0 h1 fr zs h xs = some r → Ok P cf (k r) R) → Ok P cf (thawLF h0 h1 fr zs h xs k) R
  | _, [], h, k, hk => hk _ rfl
  | zs, v :: xs, h, k, hk => by
    refine thaw1F_ok fun a ha => thawLF_ok fun b hb => hk _ ?_
    obtain ⟨a1, a2⟩ := a
    obtain ⟨b1, b2⟩ := b
    simp only at hb
    simp only [thawL, ha, hb]
theorem thawAF_ok {α : Type} {zs : List Nat} {h0 h1 : AH} {fr : Bool} {R : α → Prop} {h : AH} {v : AV} {k : AV × AH → F α} (hk : ∀ r, thawA zs h0 h1 fr h v = some r → Ok P cf (k r) R) : Ok P cf (thawAF zs h0 h1 fr h v k) R := by
  by_cases hag : ∃ xs, v = .ag xs
  · obtain ⟨xs, rfl⟩ := hag
    exact thawLF_ok fun r hr => hk _ (by simp only [thawA, hr, Option.map_some])
  · have e1 : thawAF zs h0 h1 fr h v k = thaw1F (zs.headD 0) h0 h1 fr h v k := by cases v <;> first | rfl | exact absurd ⟨_, rfl⟩ hag
    have e2 : thawA zs h0 h1 fr h v = thaw1 (zs.headD 0) h0 h1 fr h v := by cases v <;> first | rfl | exact absurd ⟨_, rfl⟩ hag
    rw [e1]
    exact thaw1F_ok fun r hr => hk _ (by rw [e2]; exact hr)
theorem thawTF_ok {α : Type} {h0 h1 : AH} {fr : Bool} {R : α → Prop} : ∀ {zss : List (List Nat)} {xs : List AV} {h : AH} {k : List AV × AH → F α}, (∀ r, thawT h0 h1 fr zss h xs = some r → Ok P cf (k r) R) → Ok P cf (thawTF h0 h1 fr zss h xs k) R
  | _, [], h, k, hk => hk _ rfl
  | zss, v :: xs, h, k, hk => by
    refine thawAF_ok fun a ha => thawTF_ok fun b hb => hk _ ?_
    obtain ⟨a1, a2⟩ := a
    obtain ⟨b1, b2⟩ := b
    simp only at hb
    simp only [thawT, ha, hb]
theorem thawF_ok {α : Type} {zss : List (List Nat)} {h0 h1 : AH} {fr : Bool} {R : α → Prop} {h : AH} {v : AV} {k : AV × AH → F α} (hk : ∀ r, thaw zss h0 h1 fr h v = some r → Ok P cf (k r) R) : Ok P cf (thawF zss h0 h1 fr h v k) R := by
  by_cases htu : ∃ xs, v = .tu xs
  · obtain ⟨xs, rfl⟩ := htu
    exact thawTF_ok fun r hr => hk _ (by simp only [thaw, hr, Option.map_some])
  · have e1 : thawF zss h0 h1 fr h v k = thawAF (zss.headD []) h0 h1 fr h v k := by cases v <;> first | rfl | exact absurd ⟨_, rfl⟩ htu
    have e2 : thaw zss h0 h1 fr h v = thawA (zss.headD []) h0 h1 fr h v := by cases v <;> first | rfl | exact absurd ⟨_, rfl⟩ htu
    rw [e1]
    exact thawAF_ok fun r hr => hk _ (by rw [e2]; exact hr)
theorem backF_ok {fr : Bool} {th : Option (List (List Nat))} {h h1 : AH} {rd : List Nat} {v : AV} : Ok P cf (backF fr th h rd v h1) (fun r => backA fr th h rd v h1 = some r) := by
  unfold backF
  cases th with
  | some zss =>
    simp only
    split
    · rename_i h2 hg
      refine thawF_ok fun r hr => Ok.ret ?_
      obtain ⟨r1, r2⟩ := r
      simp only [backA, hg, hr]
    · exact Ok.stop
  | none =>
    simp only
    refine purVF_ok _ _ _ _ fun r hr => Ok.ret ?_
    obtain ⟨r1, r2⟩ := r
    simp only [backA, hr]

def OkRec (P : Program) (cf : Cfg) (rec : RecF) : Prop := ∀ c st, Ok P cf (rec c st) (Ev P cf c st)

theorem resF_ok {α : Type} {T : Tm} {h : AH} : ∀ (l : List ResultVar) {k : List AV → F α} {R : α → Prop}, (∀ vs, resA P T h l = some vs → Ok P cf (k vs) R) → Ok P cf (resF (View.of P) T h l k) R
  | [], k, R, hk => by simp only [resF]; exact hk _ rfl
  | .tmp t :: r, k, R, hk => by
    simp only [resF]
    refine resF_ok r fun vs hv => hk _ ?_
    simp only [resA, hv]
  | .cell a t :: r, k, R, hk => by
    simp only [resF]
    split
    · rename_i ti ht
      have ht : tinfo P _ = some _ := ht
      split
      · exact Ok.stop
      · rename_i hz
        have key : ∀ cs rd v vs, cellsAt h (T.get a) ti.size = some (cs, rd) → asTy ti cs = some v → resA P T h r = some vs → resA P T h (.cell a t :: r) = some (v :: vs) := by
          intro cs rd v vs h1 h2 h3
          simp only [resA, ht]
          rw [if_neg hz, h1]
          simp only [h2, h3]
        split
        · rename_i b off hag ha
          split
          · rename_i cs hcs
            refine askP_ok fun hp => askLst_ok (resF_ok r fun vs hv => hk _ (key ((cs.drop off).take ti.size) [b] _ _ ?_ ?_ hv))
            · rw [ha]; simp only [cellsAt, hcs]; rw [if_pos hp]
            · unfold asTy; rw [if_pos hag]
          · exact Ok.stop
        · split
          · rename_i cs rd hc
            split
            · rename_i v hv
              exact resF_ok r fun vs hvs => hk _ (key _ _ _ _ hc hv hvs)
            · exact Ok.stop
          · exact Ok.stop
    · exact Ok.stop
theorem enterF_ok {rec : RecF} (hrec : OkRec P cf rec) (f : FuncId) (args : List AV) (h : AH) : Ok P cf (enterF (View.of P) rec f args h) (EvEnter P cf f args h) := by
  unfold enterF
  split
  · rename_i af haf
    refine Ok.bind (hrec _ _) fun x hx => ?_
    obtain ⟨e, st⟩ := x
    cases e with
    | normal =>
      simp only
      exact resF_ok _ fun vs hvs => Ok.ret (EvEnter.of haf hx (.inl rfl) hvs)
    | ret =>
      simp only
      exact resF_ok _ fun vs hvs => Ok.ret (EvEnter.of haf hx (.inr rfl) hvs)
    | exit id => exact Ok.stop
    | goto l => exact Ok.stop
  · exact Ok.stop
theorem roundF_ok {rec : RecF} (hrec : OkRec P cf rec) (b : Nat) (args : List AV) (h : AH) : Ok P cf (roundF rec b args h) (EvRound P cf b args h) := by
  unfold roundF
  split
  · rename_i p0 T n ps asg body h1
    split
    · rename_i h2
      refine Ok.bind (hrec _ _) fun x hx => ?_
      obtain ⟨e, st⟩ := x
      cases e with
      | normal =>
        simp only
        split
        · rename_i p2 T2 n2 ps2 a2 c2 h4
          refine Ok.bind (R := Ev P cf body { st with H := st.H.put b (.loop .busy p2 T2 n2 ps2 a2 c2) }) (Ok.ask fun hi hp => ?_) fun y hy => ?_
          · cases hi <;> simp only [propOf, All] at hp ⊢ <;> first | exact Ok.stop | skip
            · exact hrec _ _
            · exact Ok.ret hp.1
          obtain ⟨e', st'⟩ := y
          simp only
          split
          · rename_i s3 p3 T3 n3 ps3 a3 c3 h6
            exact Ok.ret (EvRound.of h1 h2 hx h4 hy h6)
          · exact Ok.stop
        · exact Ok.stop
      | _ => exact Ok.stop
    · exact Ok.stop
  · exact Ok.stop
theorem callF_ok {rec : RecF} (hrec : OkRec P cf rec) (f : AV) (args : List AV) (h : AH) : Ok P cf (callF (View.of P) cf rec f args h) (EvCall P cf f args h) := by
  unfold callF
  refine Ok.ask fun hi hp => ?_
  cases hi with
  | call r => simp only [propOf, All] at hp; exact Ok.ret hp.1
  | auto =>
    simp only
    unfold callF1
    split
    · rename_i f cap
      split
      · rename_i z w hc
        split
        · rename_i x
          refine slF_ok fun r hs => askP_ok fun h1 => ?_
          obtain ⟨n, cs, rd⟩ := r
          split
          · rename_i hb
            have : cap = [] := by simpa using hb.2.2
            subst this
            exact Ok.ret (EvCall.clone hc hs ⟨h1, hb.1, hb.2.1⟩)
          · exact Ok.stop
        · exact Ok.stop
      · rename_i hno
        split
        · rename_i hi
          exact Ok.bind (enterF_ok hrec _ _ _) fun x hx => Ok.ret (EvCall.own hno hi hx)
        · rename_i hi
          have hcap : cap = [] := by
            cases cap with
            | nil => rfl
            | cons _ _ => simp at hi
          subst hcap
          have hc : cf.inl.contains f = false := by simpa using hi
          refine mapPF_ok (g := purV h false depthA) (fun v k R hk => purVF_ok _ _ _ _ hk) _ _ _ fun q hm => ?_
          obtain ⟨pargs, rd⟩ := q
          refine Ok.ask fun hi' hp' => ?_
          cases hi' <;> simp only [propOf, All] at hp' ⊢ <;> first | exact Ok.stop | skip
          · refine Ok.bind (enterF_ok hrec _ _ _) fun x hx => ?_
            intro hs r ps rest e hp
            exact EvCall.pure hno hc hm hx (backF_ok hs r ps rest e hp)
          · split
            · rename_i zss hth
              rw [hth] at hp'
              obtain ⟨v1, h1, h2, he, hg, hpv⟩ := hp'.1 (if (!cf.move.contains f || rd.isEmpty) = true then h else fixAll h rd)
              refine Ok.ret (EvCall.pure hno hc hm he ?_)
              rw [hth]
              simp only [backA, hg, hpv]
            · rename_i hth
              rw [hth] at hp'
              obtain ⟨v1, h1, bs, he, hpv⟩ := hp'.1
              refine Ok.ret (EvCall.pure hno hc hm he ?_)
              rw [hth]
              simp only [backA, hpv]
    · exact Ok.bind (roundF_ok hrec _ _ _) fun x hx => Ok.ret (EvCall.round hx)
    · exact Ok.stop
  | _ => exact Ok.stop
theorem doF_ok {rec : RecF} (hrec : OkRec P cf rec) (op : Op) (st : St) : Ok P cf (doF (View.of P) cf rec op st) (EvDo P cf op st) := by
  have hop : ∀ op : Op, Ok P cf (plainF (View.of P) st op) (EvDo P cf op st) := by
    intro op
    unfold plainF
    split
    · rename_i m hm
      exact Ok.bind (opF_ok hm) fun r hr => Ok.ret (EvDo.op hr)
    refine Ok.ask fun hi hp => ?_
    cases hi with
    | op r => simp only [propOf, All] at hp; exact Ok.ret (EvDo.op hp.1)
    | auto =>
      refine Ok.of fun r hr => ?_
      cases hq : opV (View.of P) st.H st.T op with
      | none => rw [hq] at hr; cases hr
      | some q => rw [hq] at hr; simp only [Option.map_some, Option.some.injEq] at hr; subst hr; exact EvDo.op (opV_of hq)
    | _ => exact Ok.stop
  unfold doF
  split
  · rename_i c
    split
    · rename_i f hc
      intro hs x ps r e hp
      exact EvDo.call hc (callF_ok hrec _ _ _ hs x ps r e hp)
    · exact hop _
  · rename_i c a b
    split
    · rename_i t ht
      have hp : aOp P st.H st.T (.pick c a b) = some ⟨bif t then ev st.T a else ev st.T b, st.H, [], []⟩ := by simp only [aOp, ht, quiet]
      refine Ok.ask fun hi hq => ?_
      cases hi <;> simp only [propOf, All] at hq ⊢ <;> first | exact Ok.stop | skip
      · exact Ok.ret (EvDo.op hp)
      · rw [hq.1] at hp; exact Ok.ret (EvDo.op hp)
      · rw [hq.1] at hp; exact Ok.ret (EvDo.op hp)
    · exact Ok.stop
  · exact hop _
theorem wantedF_ok {ops : Array Oper} {T : Tm} {o : Oper} : Ok P cf (wantedF ops T o) (fun b => wantedA ops T o = some b) := by
  unfold wantedF
  split
  · rename_i hg; exact Ok.ret (by simp only [wantedA, hg])
  · rename_i j w hg
    split
    · rename_i d hd
      split
      · rename_i x hx
        have hw : wantedA ops T o = some (x == w) := by simp only [wantedA, hg, hd, hx]
        refine Ok.ask fun hi hp => ?_
        cases hi <;> simp only [propOf, All] at hp ⊢ <;> first | exact Ok.stop | skip
        · exact Ok.ret hw
        · exact Ok.ret (by rw [hw, hp.1])
        · exact Ok.ret (by rw [hw, hp.1])
      · rename_i hx; exact Ok.ret (by simp only [wantedA, hg, hd, hx])
      · exact Ok.stop
    · exact Ok.stop
theorem operF_ok {rec : RecF} (hrec : OkRec P cf rec) (ops : Array Oper) (o : Oper) (st : St) : Ok P cf (operF (View.of P) cf rec ops o st) (EvOper P cf ops o st) := by
  unfold operF
  refine Ok.bind wantedF_ok fun b hb => ?_
  cases b with
  | true =>
    simp only [cond_true]
    refine Ok.bind (doF_ok hrec _ _) fun r hr => ?_
    rw [forceV_eq]
    split
    · rename_i s hs; rw [forceS_eq]; exact Ok.ret (EvOper.run hb hr hs)
    · exact Ok.stop
  | false =>
    simp only [cond_false]
    split
    · rename_i s hs; rw [forceS_eq]; exact Ok.ret (EvOper.skip hb hs)
    · exact Ok.stop
theorem opsF_ok {rec : RecF} (hrec : OkRec P cf rec) (ops : Array Oper) : ∀ (l : List Nat) (st : St), Ok P cf (opsF (View.of P) cf rec ops l st) (EvOps P cf ops l st)
  | [], st => Ok.ret EvOps.nil
  | i :: l, st => by
    unfold opsF
    split
    · rename_i o ho
      refine Ok.bind (operF_ok hrec _ _ _) fun x hx => Ok.bind (opsF_ok hrec ops l _) fun y hy => Ok.ret (EvOps.cons ho hx hy)
    · exact Ok.stop
theorem codeF_ok : ∀ k, OkRec P cf (codeF (View.of P) cf k)
  | 0 => fun c st => Ok.stop
  | k + 1 => by
    have ih := codeF_ok k
    have hloop : ∀ (c : Code) (j : Nat) (base : Nat) (st : St), base ≤ st.H.nx → Ok P cf (loopF (codeF (View.of P) cf k) base c j st) (EvLoopB P cf base c st) := by
      intro c j
      induction j with
      | zero => exact fun base st _ => Ok.stop
      | succ j ihj =>
        intro base st hb
        unfold loopF
        refine Ok.bind (ih _ _) fun x hx => ?_
        obtain ⟨e, st1⟩ := x
        cases e with
        | normal =>
          simp only
          split
          · rename_i hb1
            exact fun hs y ps r he hp => EvLoopB.step hx (AbsB.refl hb1) (ihj base st1 hb1 hs y ps r he hp)
          · exact Ok.stop
        | _ => exact Ok.ret (EvLoopB.stop (by simp) hb hx)
    have hscope : ∀ (body : Code) (j : Nat) (c : Code) (st : St), Ok P cf (scopeF (codeF (View.of P) cf k) body j c st) (EvScope P cf body c st) := by
      intro body j
      induction j with
      | zero => exact fun c st => Ok.stop
      | succ j ihj =>
        intro c st
        unfold scopeF
        refine Ok.bind (ih _ _) fun x hx => ?_
        obtain ⟨e, st1⟩ := x
        cases e with
        | goto l =>
          simp only
          split
          · rename_i rest hf
            refine Ok.ask fun hi hp => ?_
            cases hi <;> simp only [propOf, All] at hp ⊢ <;> first | exact Ok.stop | skip
            · exact fun hs y ps r he hp => EvScope.goto hx hf (ihj rest st1 hs y ps r he hp)
            · refine Ok.bind (ih _ _) fun y hy => ?_
              obtain ⟨e2, st2⟩ := y
              cases e2 with
              | goto l' =>
                simp only
                split
                · exact Ok.stop
                · rename_i hn; exact Ok.ret (EvScope.goto hx hf (hp.1.2 _ (EvScopeB.out (fun l2 e => by injection e with e; subst e; exact hn) hp.1.1 hy)))
              | _ => exact Ok.ret (EvScope.goto hx hf (hp.1.2 _ (EvScopeB.out (fun l2 e => by cases e) hp.1.1 hy)))
          · rename_i hf; exact Ok.ret (EvScope.out (fun l' e => by injection e with e; subst e; exact hf) hx)
        | _ => exact Ok.ret (EvScope.out (fun l' e => by cases e) hx)
    intro c st
    cases c with
    | skip => exact Ok.ret (Ev.here fun F n Q a w hF hQ => wpIn_skip hQ)
    | label l => exact Ok.ret (Ev.here fun F n Q a w hF hQ => wpIn_label hQ)
    | ret => exact Ok.ret (Ev.here fun F n Q a w hF hQ => wpIn_ret hQ)
    | exit id => exact Ok.ret (Ev.here fun F n Q a w hF hQ => wpIn_exit hQ)
    | goto l => exact Ok.ret (Ev.here fun F n Q a w hF hQ => wpIn_goto hQ)
    | seq a b =>
      unfold codeF
      refine Ok.bind (ih _ _) fun x hx => ?_
      obtain ⟨e, st1⟩ := x
      cases e with
      | normal => exact fun hs y ps r he hp => Ev.seq hx (ih b st1 hs y ps r he hp)
      | _ => exact Ok.ret (Ev.seq' (by simp) hx)
    | cond c x y =>
      unfold codeF
      simp only
      split
      · rename_i t ht
        refine Ok.ask fun hi hp => ?_
        cases hi <;> simp only [propOf, All] at hp ⊢ <;> first | exact Ok.stop | skip
        · exact fun hs z ps r he hq => Ev.cond ht (ih _ _ hs z ps r he hq)
        · exact fun hs z ps r he hq => Ev.cond ht (by rw [hp.1]; exact ih _ _ hs z ps r he hq)
        · exact fun hs z ps r he hq => Ev.cond ht (by rw [hp.1]; exact ih _ _ hs z ps r he hq)
      · exact Ok.stop
    | block id c =>
      unfold codeF
      exact Ok.bind (ih _ _) fun x hx => Ok.ret (Ev.block hx)
    | loop c =>
      unfold codeF
      refine Ok.ask fun hi hp => ?_
      cases hi <;> simp only [propOf, All] at hp ⊢ <;> first | exact Ok.stop | skip
      · exact fun hs z ps r he hq => Ev.loop ⟨st, AbsB.refl (Nat.le_refl _), hloop c k st.H.nx st (Nat.le_refl _) hs z ps r he hq⟩
      · exact Ok.ret (Ev.loop hp.1)
      · refine Ok.bind (ih _ _) fun x hx => ?_
        obtain ⟨e, st1⟩ := x
        cases e with
        | normal => exact Ok.stop
        | _ => exact Ok.ret (Ev.loop (hp.1.2 _ (EvLoopB.stop (by simp) hp.1.1 hx)))
    | scope c =>
      unfold codeF
      exact fun hs z ps r he hq => Ev.scope (hscope c k c st hs z ps r he hq)
    | region id ops draw =>
      unfold codeF regF
      refine Ok.bind (opsF_ok ih ops _ _) fun x hx => ?_
      cases draw with
      | false => exact Ok.ret (Ev.region hx (.inl rfl))
      | true =>
        refine Ok.ask fun hi hp => ?_
        cases hi <;> simp only [propOf, All] at hp ⊢ <;> first | exact Ok.stop | skip
        · split
          · rename_i hd; exact Ok.ret (Ev.region hx (.inr hd))
          · exact Ok.stop
        · exact Ok.ret (Ev.region hx (.inr hp.1))
    | rangeFunc g ps asg body =>
      simp only [codeF]
      unfold rangeF
      split
      · exact Ok.stop
      · rename_i hq
        split
        · rename_i f cap hg
          split
          · exact Ok.stop
          · rename_i hj
            refine Ok.bind (enterF_ok ih _ _ _) fun x hx => ?_
            obtain ⟨v, h2⟩ := x
            simp only
            split
            · rename_i s p T n qs a b hl
              split
              · exact Ok.stop
              · rename_i hb
                exact Ok.of fun y hy => Ev.range (by simpa using hq) hg (by have hj : ¬ bodyJump P f = true := hj; simpa using hj) hx hl hb hy
            · exact Ok.stop
        · exact Ok.stop
    | refuse x => exact Ok.stop

/-- A path of a function's call. -/
theorem pathR {k : Nat} {fr : Bool} {f : FuncId} {args : List AV} {hs : List Hint} {v : AV} {ps : List Prop} {r : List Hint} (h : exec P cf (funR (View.of P) cf k fr f args) hs = some (v, ps, r)) (hp : All ps) : EvFr P cf fr f args v := by
  refine (Ok.bind (S := EvFr P cf fr f args) (enterF_ok (codeF_ok k) f args AH.empty) fun x hx => ?_) hs v ps r h hp
  refine purVF_ok _ _ _ _ fun q hq => Ok.ret ?_
  obtain ⟨q1, q2⟩ := q
  exact ⟨_, _, q2, hx, hq⟩
theorem pathO {k : Nat} {fr : Bool} {zss : List (List Nat)} {f : FuncId} {args : List AV} {H : AH} {hs : List Hint} {r : AV × AH} {ps : List Prop} {rest : List Hint} (h : exec P cf (funO (View.of P) cf k fr zss f args H) hs = some (r, ps, rest)) (hp : All ps) :
    ∃ v1 h1 h2, EvEnter P cf f args AH.empty (v1, h1) ∧ grab h1 v1 = some h2 ∧ thaw zss h1 h2 fr H v1 = some r := by
  refine (Ok.bind (S := fun r => ∃ v1 h1 h2, EvEnter P cf f args AH.empty (v1, h1) ∧ grab h1 v1 = some h2 ∧ thaw zss h1 h2 fr H v1 = some r) (enterF_ok (codeF_ok k) f args AH.empty) fun x hx => ?_) hs r ps rest h hp
  split
  · rename_i h2 hg
    exact thawF_ok fun q hq => Ok.ret ⟨_, _, h2, hx, hg, hq⟩
  · exact Ok.stop
theorem pathE {k : Nat} {f : FuncId} {args : List AV} {H : AH} {hs : List Hint} {v : AV × AH} {ps : List Prop} {r : List Hint} (h : exec P cf (enterF (View.of P) (codeF (View.of P) cf k) f args H) hs = some (v, ps, r)) (hp : All ps) : EvEnter P cf f args H v :=
  enterF_ok (codeF_ok k) f args H hs v ps r h hp
theorem pathC {k : Nat} {c : Code} {st : St} {hs : List Hint} {v : AX × St} {ps : List Prop} {r : List Hint} (h : exec P cf (codeF (View.of P) cf k c st) hs = some (v, ps, r)) (hp : All ps) : Ev P cf c st v :=
  codeF_ok k c st hs v ps r h hp
end
end Go.Proofs.Ytadipihpgcelmaa.Ab
