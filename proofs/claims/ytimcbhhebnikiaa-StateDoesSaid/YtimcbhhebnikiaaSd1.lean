/- The law 'StateDoes': it returns true, and nothing that was there changes. No condition. (Part 1 of 12.) -/
import Derived.KernelRfl
import Derived.RangeFuncLeaves
import Derived.RangeFuncIn
import Derived.OrdersIn
import Derived.LoopNIn
namespace Go.Proofs.Ytimcbhhebnikiaa.Ab
open Go
set_option linter.unusedVariables false
inductive AV where
 | top
 | i (n:Int)
 | y (b:UInt8)
 | b (b:Bool)
 | st (l:List UInt8)
 | sc (v:Value)
 | nl
 | sl (n:Nat) (cs:List AV)
 | rf (b z off n:Nat)
 | pt (b off:Nat)
 | ip (cs:List AV)
 | ag (xs:List AV)
 | tu (xs:List AV)
 | fn (f:FuncId) (cap:List AV)
 | yl (b:Nat)
 | mp (b:Nat)
 deriving Inhabited
abbrev Tm:=List (Nat×AV)
def Tm.get:Tm→Nat→AV
 | [],_=> .top
 | (j,v)::l,i=> bif Nat.beq j i then v else Tm.get l i
def Tm.set:Tm→Nat→AV→Tm
 | [],i,v=> [(i,v)]
 | (j,u)::l,i,v=> bif Nat.beq j i then (i,v)::l else (j,u)::Tm.set l i v
inductive AObj where
 | dead
 | cells (cs:List AV)
 | ro (cs:List AV)
 | map (es:List (AV×AV))
 | loop (state:LoopState) (pending:Option Code) (T:Tm) (n:Nat) (params:List Nat) (assign body:Code)
 deriving Inhabited
structure AH where
 nx:Nat
 l:List (Nat×AObj)
 deriving Inhabited
def z6e (o:AObj):Option AObj:=match o with | .dead=> none | o=> some o
def AH.look:List (Nat×AObj)→Nat→Option AObj
 | [],_=> none
 | (j,o)::l,i=> bif Nat.beq j i then z6e o else AH.look l i
def AH.get (h:AH) (b:Nat):Option AObj:=AH.look h.l b
def AH.putL:List (Nat×AObj)→Nat→AObj→List (Nat×AObj)
 | [],i,o=> [(i,o)]
 | (j,u)::l,i,o=> bif Nat.beq j i then (i,o)::l else (j,u)::AH.putL l i o
def AH.put (h:AH) (b:Nat) (o:AObj):AH:={h with l:=AH.putL h.l b o}
def AH.new (h:AH) (o:AObj):AH:={nx:=h.nx+1,l:=(h.nx,o)::h.l}
def AH.kill (h:AH) (b:Nat):AH:=h.put b .dead
def AH.empty:AH:=⟨0,[]⟩
def AH.cells (h:AH) (b:Nat):Option (List AV):=match h.get b with | some (.cells cs)=> some cs | some (.ro cs)=> some cs | _=> none
def AH.wcells (h:AH) (b:Nat):Option (List AV):=match h.get b with | some (.cells cs)=> some cs | _=> none
def AH.fix (h:AH) (b:Nat):AH:=match h.get b with | some (.cells cs)=> h.put b (.ro cs) | _=> h
def ofInt (k:IntKind) (n:Int):AV:=
 match k with
 | .i64=> .i n
 | .u8=> if 0≤n∧n < 256 then .y (UInt8.ofNat n.toNat) else .sc (.int .u8 n)
 | k=> .sc (.int k n)
def z2j (v:Value):AV:=
 match v with
 | .int k n=> ofInt k n
 | .bool b=> .b b
 | .string s=> .st s.data.toList
 | .slice none 0 0=> .nl
 | .func (.func f) fi ca=> if fi.size=0∧ca.size=0 then .fn f [] else .top
 | .nilFunc=> .sc .nilFunc
 | .pointer none=> .sc (.pointer none)
 | .map none=> .sc (.map none)
 | .nilIface=> .sc .nilIface
 | _=> .top
def ofV (v:Value):AV:=
 match v with
 | .agg cs=> if cs.toList.all (·.oneCell') then .ag (cs.toList.map z2j) else .top
 | .tuple cs=> if cs.size=0 then .tu [] else .top
 | v=> z2j v
def ev (T:Tm):Operand→AV
 | .tmp t=> T.get t
 | .const v=> ofV v
 | .global _=> .top
 | .func f=> .fn f []
inductive TK where
 | int (k:IntKind) | bool | string | slice (e:TypeId) | array (n:Nat) (e:TypeId)
 | struct (fs:List (Nat×Nat×Bool)) | ptr (e:TypeId) | func | map (k e:TypeId) | tuple | other
structure TI where
 size:Nat
 bytes:Nat
 zero:List AV
 zv:AV
 k:TK
def z2i:TypeDesc→Bool
 | .struct _ | .array _ _=> true
 | _=> false
def zb6 (P:Program) (f:Field):Option (Nat×Nat×Bool):=
 match P.info? f.type,P.underlying f.type with
 | some fi,some fd=> some (f.offset,fi.size,z2i fd)
 | _,_=> none
def z2r (P:Program):TypeDesc→Option TK
 | .int k=> some (.int k)
 | .bool=> some .bool
 | .string=> some .string
 | .slice e=> some (.slice e)
 | .array n e=> some (.array n e)
 | .struct fs=> (fs.toList.mapM (zb6 P)).map .struct
 | .pointer e=> some (.ptr e)
 | .func _ _ _=> some .func
 | .map k e=> some (.map k e)
 | .tuple _=> some .tuple
 | _=> some .other
def u9 (P:Program) (t:TypeId):Option TI:=
 match P.info? t,P.underlying t with
 | some i,some d=>
   match i.zero,z2r P d with
   | some z,some k=> if z.cells.toList.all (·.oneCell')=false then none else some {size:=i.size,bytes:=i.bytes,zero:=z.cells.toList.map z2j,zv:=ofV z,k}
   | _,_=> none
 | _,_=> none
def aggK:TK→Bool
 | .struct _ | .array _ _=> true
 | _=> false
def TI.agg (t:TI):Bool:=aggK t.k
structure AF where
 nt:Nat
 res:List ResultVar
 body:Code
def zas (P:Program) (f:FuncId):Option AF:=
 match P.funcs[f]? with
 | some fn=>
   match fn.body with
   | some c => if fn.name == "runtime.NumGoroutine" then none else some { nt := fn.ntmps, res := fn.results.toList, body := c }
   | none=> none
 | none=> none
/-! ### Cells -/
def z2v (h:AH) (a:AV) (n:Nat):Option (List AV×List Nat):=
 match a with
 | .pt b off=> match h.cells b with
   | some cs=> if off+n≤cs.length then some ((cs.drop off).take n,[b]) else none
   | none=> none
 | .ip cs=> if n≤cs.length then some (cs.take n,[]) else none
 | _=> none
def z0a (h:AH) (z:Nat) (v:AV):Option (Nat×List AV×List Nat):=
 match v with
 | .nl=> some (0,[],[])
 | .sl n cs=> if cs.length=n*z then some (n,cs,[]) else none
 | .rf b z' off n=> if z'=z then
    (match h.cells b with
     | some cs=> if off+n*z≤cs.length then some (n,(cs.drop off).take (n*z),[b]) else none
     | none=> none) else none
 | _=> none
def over (cs:List AV) (off:Nat) (vs:List AV):List AV:=cs.take off++vs++cs.drop (off+vs.length)
def z4o:AV→Option (List AV)
 | .ag xs=> some xs
 | .top | .tu _=> none
 | .sc v=> if v.oneCell' then some [.sc v] else none
 | v=> some [v]
def zfd (t:TI) (cs:List AV):Option AV:=if t.agg then some (.ag cs) else match cs with | [c]=> some c | _=> none
def zao (agg:Bool) (cs:List AV):Option AV:=if agg then some (.ag cs) else match cs with | [c]=> some c | _=> none
structure OR where
 v:AV
 h:AH
 rd:List Nat
 wr:List Nat
def g9 (h:AH) (v:AV):Option OR:=some ⟨v,h,[],[]⟩
def isI:AV→Option Int
 | .i n=> some n
 | .y b=> some b.toNat
 | .sc (.int _ n)=> some n
 | _=> none
def zdc (P:Program) (h:AH) (t:TypeId) (a v:AV):Option AH×List Nat:=
 match u9 P t,a,z4o v with
 | some ti,.pt b off,some vs=>
   match h.wcells b with
   | some cs=> if vs.length=ti.size∧off+vs.length≤cs.length then (some (h.put b (.cells (over cs off vs))),[b]) else (none,[])
   | none=> (none,[])
 | _,_,_=> (none,[])
def z7x (places:Nat→Option (Nat×Nat)) (cells:List AV):List (Nat×AV)→Option (List AV)
 | []=> some cells
 | (i,v)::rest=>
   match places i,z4o v with
   | some (off,size),some vs=> if vs.length=size∧off+vs.length≤cells.length then z7x places (over cells off vs) rest else none
   | _,_=> none
def zct (n:Nat) (z:List AV):List AV:=(List.replicate n z).flatten
def zio (k:IntKind) (op:BinOp) (a b:Int):Option AV:=
 match op with
 | .add=> some (ofInt k (k.wrap (a+b)))
 | .sub=> some (ofInt k (k.wrap (a - b)))
 | .mul=> some (ofInt k (k.wrap (a*b)))
 | .quo=> if b=0 then none else some (ofInt k (k.wrap (a.tdiv b)))
 | .rem=> if b=0 then none else some (ofInt k (a.tmod b))
 | .and=> some (ofInt k (k.wrap ((BitVec.ofInt k.bits a &&& BitVec.ofInt k.bits b).toNat:Int)))
 | .or=> some (ofInt k (k.wrap ((BitVec.ofInt k.bits a ||| BitVec.ofInt k.bits b).toNat:Int)))
 | .xor=> some (ofInt k (k.wrap ((BitVec.ofInt k.bits a ^^^ BitVec.ofInt k.bits b).toNat:Int)))
 | .eql=> some (.b (a==b))
 | .neq=> some (.b (a !=b))
 | .lss=> some (.b (decide (a < b)))
 | .leq=> some (.b (decide (a≤b)))
 | .gtr=> some (.b (decide (a > b)))
 | .geq=> some (.b (decide (a≥b)))
 | _=> none
def zih:AV→AV→Option Bool
 | .i a,.i b=> some (a==b)
 | .y a,.y b=> some (a==b)
 | _,_=> none
def z0n:List AV→List AV→Option Bool
 | [],[]=> some true
 | a::as,b::bs=> match zih a b,z0n as bs with
   | some x,some y=> some (x && y)
   | _,_=> none
 | _,_=> none
def zar (rec:TypeId→Option Nat):List Field→Nat→Option Nat
 | [],off=> some off
 | f::r,off=> match rec f.type with
   | some s => if f.offset = off ∧ f.name ≠ "_" then zar rec r (off + s) else none
   | none=> none
def z53 (P:Program):Nat→TypeId→Option Nat
 | 0,_=> none
 | d+1,t=>
   match P.info? t,P.underlying t with
   | some i,some (.int _)=> if i.size=1 then some 1 else none
   | some i,some (.array n e)=> match z53 P d e,P.info? e with
     | some s,some ie=> if s=ie.size∧i.size=n*s then some i.size else none
     | _,_=> none
   | some i,some (.struct fs)=>
     if zar (z53 P d) fs.toList 0=some i.size∧P.stoodInHeld t=false then some i.size else none
   | _,_=> none
def z5u:List AV→Option (List Bool)
 | []=> some []
 | .b x::r=> (z5u r).map (x::·)
 | _=> none
def ze2 (a b:List AV):Option Bool:=
 match z5u a,z5u b with
 | some x,some y=> some (x==y)
 | _,_=> none
def ze3 (P:Program) (t:TypeId):Option Nat:=
 match P.info? t,P.underlying t with
 | some i,some (.array n e)=> match P.info? e,P.underlying e with
   | some ie,some .bool=> if ie.size=1∧i.size=n then some n else none
   | _,_=> none
 | _,_=> none
def bin (P:Program) (op:BinOp) (t:TypeId) (x y:AV):Option AV:=
 match x,y with
 | .i a,.i b=> zio .i64 op a b
 | .y a,.y b=> zio .u8 op a.toNat b.toNat
 | .sc (.int k a),.sc (.int k' b)=> if k=k' then zio k op a b else none
 | .b a,.b b=> match u9 P t with
   | some ti=> match ti.k,op with | .bool,.eql=> some (.b (a==b)) | .bool,.neq=> some (.b (!(a==b))) | _,_=> none
   | none=> none
 | .st a,.st b=> match op with | .eql=> some (.b (a==b)) | .neq=> some (.b (!(a==b))) | _=> none
 | .ag a,.ag b=>
   match z53 P 8 t with
   | some s=> if a.length=s∧b.length=s∧P.eqGuardType P.depth t=false∧(P.underlying t).map z2i=some true then
      match op,z0n a b with
      | .eql,some r=> some (.b r)
      | .neq,some r=> some (.b !r)
      | _,_=> none
     else none
   | none=> match ze3 P t with
     | some s=> if a.length=s∧b.length=s∧P.eqGuardType P.depth t=false then
        match op,ze2 a b with
        | .eql,some r=> some (.b r)
        | .neq,some r=> some (.b !r)
        | _,_=> none
       else none
     | none=> none
 | _,_=> none
def un (op:UnOp) (x:AV):Option AV:=
 match op,x with
 | .not,.b a=> some (.b !a)
 | .neg,.i n=> some (.i (IntKind.i64.wrap (0 - n)))
 | _,_=> none
def g0:List AV→Option (List UInt8)
 | []=> some []
 | .y b::r=> (g0 r).map (b::·)
 | _=> none
def conv (P:Program) (h:AH) (src dst:TypeId) (x:AV):Option OR:=
 match u9 P src,u9 P dst with
 | some s,some d=>
   match d.k,s.k with
   | .int k,.int _=> match isI x with | some n=> g9 h (ofInt k (k.wrap n)) | none=> none
   | .string,.slice e=>
     match u9 P e with
     | some ei=> match ei.k with
       | .int .u8=> match z0a h 1 x with
         | some (_,cs,rd)=> match g0 cs with
           | some l=> some ⟨.st l,h,rd,[]⟩
           | none=> none
         | none=> none
       | _=> none
     | none=> none
   | _,_=> none
 | _,_=> none
def bnd (lo:Option AV) (d:Nat):Option Nat:=
 match lo with
 | none=> some d
 | some (.i n)=> if 0≤n then some n.toNat else none
 | _=> none
def zmo (lo hi mx:Option AV) (n:Nat):Option (Nat×Nat×Bool):=
 match bnd lo 0,bnd hi n,bnd mx n with
 | some l,some h',some m=> if l≤h'∧h'≤m∧m≤n∧(mx.isSome=true→hi.isSome=true) then some (l,h',mx.isSome && m==l) else none
 | _,_,_=> none
def z58 (P:Program) (h:AH) (t:TypeId) (x:AV) (lo hi mx:Option AV):Option OR:=
 match u9 P t with
 | none=> none
 | some ti=>
   match ti.k with
   | .array n e=>
     match u9 P e,bnd lo 0,bnd hi n with
     | some ei,some l,some h'=>
       if l≤h'∧h'≤n∧mx.isNone then
        match x with
        | .pt b off=> match h.cells b with
          | some cs=> if off+n*ei.size≤cs.length∧0 < n*ei.size then some ⟨.rf b ei.size (off+l*ei.size) (h' - l),h,[b],[]⟩ else none
          | none=> none
        | .ip cs=> if n*ei.size≤cs.length then g9 h (.sl (h' - l) ((cs.drop (l*ei.size)).take ((h' - l)*ei.size))) else none
        | _=> none
       else none
     | _,_,_=> none
   | .slice e=>
     match u9 P e with
     | none=> none
     | some ei=>
       match x with
       | .nl=> match zmo lo hi mx 0 with
         | some _=> g9 h .nl
         | none=> none
       | .sl n cs=> match zmo lo hi mx n with
         | some (l,h',q)=> if cs.length=n*ei.size then g9 h (bif q then .nl else .sl (h' - l) ((cs.drop (l*ei.size)).take ((h' - l)*ei.size))) else none
         | none=> none
       | .rf b z off n=> match zmo lo hi mx n with
         | some (l,h',q)=> if z=ei.size then g9 h (bif q then .nl else .rf b z (off+l*z) (h' - l)) else none
         | none=> none
       | _=> none
   | _=> none
def z5v (P:Program) (h:AH) (t:TypeId) (x ix:AV):Option OR:=
 match u9 P t,isI ix with
 | some ti,some i=>
   match ti.k with
   | .array n e=> match u9 P e with
     | some ei=> if 0≤i∧i < n then
        match x with
        | .pt b off=> g9 h (.pt b (off+i.toNat*ei.size))
        | .ip cs=> g9 h (.ip (cs.drop (i.toNat*ei.size)))
        | _=> none
       else none
     | none=> none
   | .slice e=> match u9 P e with
     | some ei=>
       match x with
       | .rf b z off n=> if 0≤i∧i < n∧z=ei.size then g9 h (.pt b (off+i.toNat*z)) else none
       | .sl n cs=> if 0≤i∧i < n then g9 h (.ip (cs.drop (i.toNat*ei.size))) else none
       | _=> none
     | none=> none
   | _=> none
 | _,_=> none
def zo1:AV→Option Nat
 | .nl=> some 0
 | .sl n _=> some n
 | .rf _ _ _ n=> some n
 | .st l=> some l.length
 | _=> none
def zs8:Int→List AV→Option Int
 | a,[]=> some a
 | a,.i b::r=> zs8 (if b < a then b else a) r
 | _,_=> none
def zsx:Int→List AV→Option Int
 | a,[]=> some a
 | a,.i b::r=> zsx (if b > a then b else a) r
 | _,_=> none
def zee (P:Program) (t:Option TypeId):Bool:=
 match t with
 | some t=> match u9 P t with | some ti=> (match ti.k with | .slice _=> true | .string=> true | _=> false) | none=> false
 | none=> true
def z4z (P:Program) (h:AH) (t:TypeId) (t1:Option TypeId) (s x:AV):Option OR:=
 match u9 P t with
 | some ti=> match ti.k with
   | .slice e=> match u9 P e with
     | some ei=>
       if zee P t1=false∨ei.zero.length≠ei.size then none else
       match z0a h ei.size x with
       | some (n,new,rd)=>
         match s with
         | .nl=> if n≤4294967296∧ei.bytes≤4096∧0 < ei.size then some ⟨.rf h.nx ei.size 0 n,h.new (.cells new),rd,[h.nx]⟩ else none
         | .rf b z 0 m=>
           match h.wcells b with
           | some old=>
             if z=ei.size∧old.length=m*z∧m+n≤4294967296∧ei.bytes≤4096∧0 < ei.size then
              some ⟨.rf h.nx z 0 (m+n),(h.kill b).new (.cells (old++new)),b::rd,[b,h.nx]⟩
             else none
           | none=> none
         | _=> none
       | none=> none
     | none=> none
   | _=> none
 | none=> none
def zje (P:Program) (h:AH) (t:TypeId) (d x:AV):Option OR:=
 match u9 P t with
 | some ti=> match ti.k with
   | .slice e=> match u9 P e with
     | some ei=>
       match z0a h ei.size x,d with
       | some (n,new,rd),.rf b z off m=>
         match h.wcells b with
         | some cs=>
           if z=ei.size∧off+m*z≤cs.length then
            let k:=min n m
            some ⟨.i k,h.put b (.cells (over cs off (new.take (k*z)))),b::rd,[b]⟩
           else none
         | none=> none
       | _,_=> none
     | none=> none
   | _=> none
 | none=> none
def z51 (P:Program) (h:AH) (bi:Builtin) (ts:Array TypeId) (args:List AV):Option OR:=
 match bi,args with
 | .len,[x]=> match ts[0]? with
   | some t=> match u9 P t with
     | some ti=> match ti.k,x with
       | .slice _,.st _=> none
       | .slice _,x=> (zo1 x).bind fun n=> g9 h (.i n)
       | .string,.st l=> g9 h (.i l.length)
       | _,_=> none
     | none=> none
   | none=> none
 | .append,[s,x]=> match ts[0]? with | some t=> z4z P h t ts[1]? s x | none=> none
 | .copy,[d,x]=> match ts[0]? with | some t=> zje P h t d x | none=> none
 | .min,.i a::r=> (zs8 a r).bind fun n=> g9 h (.i n)
 | .max,.i a::r=> (zsx a r).bind fun n=> g9 h (.i n)
 | _,_=> none
def zdm:List (AV×AV)→Int→Option (Option AV)
 | [],_=> some none
 | (.i a,v)::r,k=> if a=k then some (some v) else zdm r k
 | _::_,_=> none
def zjc:List (AV×AV)→Int→Bool
 | [],_=> true
 | (.i a,_)::r,k=> (a !=k) && zjc r k
 | _::_,_=> false
def aOp (P:Program) (h:AH) (T:Tm):Op→Option OR
 | .move x | .assign x=> g9 h (ev T x)
 | .pick c a b=> match ev T c with | .b t=> g9 h (bif t then ev T a else ev T b) | _=> none
 | .alloc e=> match u9 P e with | some ti=> if ti.zero.length=ti.size then some ⟨.pt h.nx 0,h.new (.cells ti.zero),[],[h.nx]⟩ else none | none=> none
 | .box _ x=> match z4o (ev T x) with | some cs=> some ⟨.pt h.nx 0,h.new (.cells cs),[],[h.nx]⟩ | none=> none
 | .build t parts=> match u9 P t with
   | some ti=> match ti.k with
     | .struct fs=> match z7x (fun i=> (fs[i]?).map fun f=> (f.1,f.2.1)) ti.zero (parts.toList.map fun p=> (p.1,ev T p.2)) with
       | some cs=> g9 h (.ag cs)
       | none=> none
     | .array _ e=> match u9 P e with
       | some ei=> match z7x (fun i=> some (i*ei.size,ei.size)) ti.zero (parts.toList.map fun p=> (p.1,ev T p.2)) with
         | some cs=> g9 h (.ag cs)
         | none=> none
       | none=> none
     | _=> none
   | none=> none
 | .buildSlice t len parts=> match u9 P t with
   | some ti=> match ti.k with
     | .slice e=> match u9 P e with
       | some ei=> if len*ei.size≤16777216∧ei.zero.length=ei.size∧0 < ei.size then
          if len=0 then (if parts.size=0 then g9 h .nl else none)
          else match z7x (fun i=> some (i*ei.size,ei.size)) (zct len ei.zero) (parts.toList.map fun p=> (p.1,ev T p.2)) with
           | some cs=> some ⟨.rf h.nx ei.size 0 len,h.new (.cells cs),[],[h.nx]⟩
           | none=> none
         else none
       | none=> none
     | _=> none
   | none=> none
 | .load t a=> match u9 P t with
   | some ti=> if ti.size=0 then none else match z2v h (ev T a) ti.size with
     | some (cs,rd)=> match zfd ti cs with | some v=> some ⟨v,h,rd,[]⟩ | none=> none
     | none=> none
   | none=> none
 | .store t a x=> match zdc P h t (ev T a) (ev T x) with
   | (some h',bs)=> some ⟨.top,h',bs,bs⟩
   | (none,_)=> none
 | .nilCheck x=> match ev T x with
   | .pt b o=> g9 h (.pt b o)
   | .ip cs=> g9 h (.ip cs)
   | .fn f c=> g9 h (.fn f c)
   | .yl l=> g9 h (.yl l)
   | _=> none
 | .binOp op t x y _=> match bin P op t (ev T x) (ev T y) with | some v=> g9 h v | none=> none
 | .unOp op _ x=> match un op (ev T x) with | some v=> g9 h v | none=> none
 | .convert s d x=> conv P h s d (ev T x)
 | .sliceToArrayPointer arr x=> match u9 P arr with
   | some ti=> match ti.k,ev T x with
     | .array n _,.sl m cs=> if n≤m∧0 < n then g9 h (.ip cs) else none
     | .array n _,.rf b _ off m=> if n≤m∧0 < n then g9 h (.pt b off) else none
     | _,_=> none
   | none=> none
 | .makeFunc (.func f) first cap=> if first.size=0 then g9 h (.fn f (cap.toList.map (ev T))) else none
 | .makeMap _ none=> some ⟨.mp h.nx,h.new (.map []),[],[h.nx]⟩
 | .insert t m k v=> match u9 P t,ev T m,ev T k with
   | some ti,.mp b,.i n=> match ti.k,h.get b with
     | .map kt _,some (.map es)=> match u9 P kt with
       | some ki=> match ki.k with
         | .int .i64=> if zjc es n then some ⟨.top,h.put b (.map (es++[(.i n,ev T v)])),[b],[b]⟩ else none
         | _=> none
       | none=> none
     | _,_=> none
   | _,_,_=> none
 | .lookup t x ix ok=> match u9 P t,ev T x,ev T ix with
   | some ti,.mp b,.i n=> match ti.k,h.get b with
     | .map kt et,some (.map es)=> match u9 P kt,u9 P et,zdm es n with
       | some ki,some ei,some r=> match ki.k with
         | .int .i64=> match r with
           | some v=> some ⟨if ok then .tu [v,.b true] else v,h,[b],[]⟩
           | none=> some ⟨if ok then .tu [ei.zv,.b false] else ei.zv,h,[b],[]⟩
         | _=> none
       | _,_,_=> none
     | _,_=> none
   | _,_,_=> none
 | .makeSlice t l c=> match u9 P t,ev T l,ev T c with
   | some ti,.i n,.i m=> match ti.k with
     | .slice e=> match u9 P e with
       | some ei=> if n=m∧0≤n∧n≤4294967296∧ei.bytes≤4096∧ei.zero.length=ei.size∧0 < ei.size then
          some ⟨.rf h.nx ei.size 0 n.toNat,h.new (.cells (zct n.toNat ei.zero)),[],[h.nx]⟩ else none
       | none=> none
     | _=> none
   | _,_,_=> none
 | .slice t x lo hi mx=> z58 P h t (ev T x) (lo.map (ev T)) (hi.map (ev T)) (mx.map (ev T))
 | .fieldAddr s x f=> match u9 P s with
   | some ti=> match ti.k with
     | .struct fs=> match fs[f]? with
       | some (off,sz,_)=> if sz=0 then none else
         match ev T x with
         | .pt b o=> g9 h (.pt b (o+off))
         | .ip cs=> g9 h (.ip (cs.drop off))
         | _=> none
       | none=> none
     | _=> none
   | none=> none
 | .field s x f=> match u9 P s with
   | some ti=> match ti.k,ev T x with
     | .struct fs,.ag cs=> match fs[f]? with
       | some (off,sz,ag)=> if off+sz≤cs.length then
          match zao ag ((cs.drop off).take sz) with | some v=> g9 h v | none=> none
         else none
       | none=> none
     | _,_=> none
   | none=> none
 | .indexAddr t x ix=> z5v P h t (ev T x) (ev T ix)
 | .index t x ix=> match u9 P t,isI (ev T ix) with
   | some ti,some i=> match ti.k,ev T x with
     | .array n e,.ag cs=> match u9 P e with
       | some ei=> if 0≤i∧i < n∧i.toNat*ei.size+ei.size≤cs.length then
          match zao ei.agg ((cs.drop (i.toNat*ei.size)).take ei.size) with | some v=> g9 h v | none=> none
         else none
       | none=> none
     | _,_=> none
   | _,_=> none
 | .extract t ix=> match ev T t with
   | .tu xs=> match xs[ix]? with | some v=> g9 h v | none=> none
   | _=> none
 | .call c=> match c.callee with
   | .builtin b=> z51 P h b c.argTypes (c.args.toList.map (ev T))
   | _=> none
 | _=> none
/-! ### Values without blocks of the call's own -/
def z0b {α β:Type} (f:α→Option (β×List Nat)):List α→Option (List β×List Nat)
 | []=> some ([],[])
 | v::r=> match f v with
   | some (v',b1)=> match z0b f r with
     | some (r',b2)=> some (v'::r',b1++b2)
     | none=> none
   | none=> none
def t7 (h:AH) (fr:Bool):Nat→AV→Option (AV×List Nat)
 | 0,_=> none
 | k+1,v=>
   match v with
   | .i n=> some (.i n,[])
   | .y n=> some (.y n,[])
   | .b n=> some (.b n,[])
   | .st n=> some (.st n,[])
   | .sc n=> some (.sc n,[])
   | .nl=> some (.sl 0 [],[])
   | .sl n cs=> if fr=true∧n≠0 then none else some (.sl n cs,[])
   | .rf b z off n=> match h.cells b with
     | some cs=> if off+n*z≤cs.length then
        match z0b (t7 h fr k) ((cs.drop off).take (n*z)) with
        | some (cs',bs)=> some (.sl n cs',b::bs)
        | none=> none
       else none
     | none=> none
   | .ag xs=> (z0b (t7 h fr k) xs).map fun r=> (.ag r.1,r.2)
   | .tu xs=> (z0b (t7 h fr k) xs).map fun r=> (.tu r.1,r.2)
   | .fn f cap=> match cap with | []=> some (.fn f [],[]) | _=> none
   | .ip cs=> if fr then none else some (.ip cs,[])
   | _=> none
def z1b:Nat:=12
def zfw (h:AH):AV→Option AH
 | .rf b _ _ _=> match h.wcells b with | some _=> some (h.kill b) | none=> none
 | .mp b=> match h.get b with | some (.map _)=> some (h.kill b) | _=> none
 | _=> some h
def zhq (h:AH):List AV→Option AH
 | []=> some h
 | v::r=> match zfw h v with | some h'=> zhq h' r | none=> none
def zqg (h:AH):List AV→Option AH
 | []=> some h
 | v::r=> match (match v with | .ag xs=> zhq h xs | v=> zfw h v) with | some h'=> zqg h' r | none=> none
def zpw (h:AH):AV→Option AH
 | .tu xs=> zqg h xs
 | .ag xs=> zhq h xs
 | v=> zfw h v
def zcf (h:AH) (fr:Bool):List (AV×AV)→Option (List (AV×AV))
 | []=> some []
 | (.i n,v)::r=> match t7 h fr z1b v,zcf h fr r with
   | some (v',_),some r'=> some ((.i n,v')::r')
   | _,_=> none
 | _=> none
def z4v (z:Nat) (h0 h1:AH) (fr:Bool) (h:AH) (v:AV):Option (AV×AH):=
 match v with
 | .nl=> if z=0 then some (.sl 0 [],h) else some (.rf h.nx z 0 0,h.new (.cells []))
 | .mp b=> match h0.get b with
   | some (.map es)=> match zcf h1 fr es with
     | some es'=> some (.mp h.nx,h.new (.map es'))
     | none=> none
   | _=> none
 | .rf b z off n=> match h0.cells b with
   | some cs=> if off=0∧cs.length=n*z then
      match z0b (t7 h1 fr z1b) cs with
      | some (cs',_)=> some (.rf h.nx z 0 n,h.new (.cells cs'))
      | none=> none
     else none
   | none=> none
 | v=> match t7 h1 fr z1b v with | some (v',_)=> some (v',h) | none=> none
def z64 (h0 h1:AH) (fr:Bool):List Nat→AH→List AV→Option (List AV×AH)
 | _,h,[]=> some ([],h)
 | zs,h,v::r=> match z4v (zs.headD 0) h0 h1 fr h v with
   | some (v',h')=> match z64 h0 h1 fr zs.tail h' r with
     | some (r',h'')=> some (v'::r',h'')
     | none=> none
   | none=> none
def z5b (zs:List Nat) (h0 h1:AH) (fr:Bool) (h:AH) (v:AV):Option (AV×AH):=
 match v with
 | .ag xs=> (z64 h0 h1 fr zs h xs).map fun r=> (.ag r.1,r.2)
 | v=> z4v (zs.headD 0) h0 h1 fr h v
def z62 (h0 h1:AH) (fr:Bool):List (List Nat)→AH→List AV→Option (List AV×AH)
 | _,h,[]=> some ([],h)
 | zss,h,v::r=> match z5b (zss.headD []) h0 h1 fr h v with
   | some (v',h')=> match z62 h0 h1 fr zss.tail h' r with
     | some (r',h'')=> some (v'::r',h'')
     | none=> none
   | none=> none
def thaw (zss:List (List Nat)) (h0 h1:AH) (fr:Bool) (h:AH) (v:AV):Option (AV×AH):=
 match v with
 | .tu xs=> (z62 h0 h1 fr zss h xs).map fun r=> (.tu r.1,r.2)
 | v=> z5b (zss.headD []) h0 h1 fr h v
def z3a (h:AH):List Nat→AH
 | []=> h
 | b::r=> z3a (h.fix b) r
structure Cfg where
 inl:List FuncId
 thaw:List (FuncId×List (List Nat))
 move:List FuncId
 clone:List (FuncId×Nat×Nat)
  /-- Regions that are told by themselves: number, operations, guarded ones. -/
 jn:List (Nat×Nat×Nat):=[]
inductive AX where
 | normal | exit (id:Nat) | goto (l:Nat) | ret
 deriving DecidableEq,Inhabited
structure St where
 T:Tm
 n:Nat
 H:AH
 q:Bool
abbrev Rec:=Code→St→Option (AX×St)
def zc1 (P:Program) (T:Tm) (h:AH):List ResultVar→Option (List AV)
 | []=> some []
 | .tmp t::r=> match zc1 P T h r with | some vs=> some (T.get t::vs) | none=> none
 | .cell a t::r=> match u9 P t with
   | some ti=> if ti.size=0 then none else match z2v h (T.get a) ti.size with
     | some (cs,_)=> match zfd ti cs,zc1 P T h r with
       | some v,some vs=> some (v::vs)
       | _,_=> none
     | none=> none
   | none=> none
def zor:List AV→AV
 | [v]=> v
 | vs=> .tu vs
def zkc:Nat→List AV→Tm
 | _,[]=> []
 | i,v::r=> (i,v)::zkc (i+1) r
def z8a (P:Program) (rec:Rec) (f:FuncId) (args:List AV) (h:AH):Option (AV×AH):=
 match zas P f with
 | some af=>
   match rec af.body ⟨zkc 0 args,max af.nt args.length,h,false⟩ with
   | some (.normal,st) | some (.ret,st)=> match zc1 P st.T st.H af.res with
     | some vs=> some (zor vs,st.H)
     | none=> none
   | _=> none
 | none=> none
def z7d (T:Tm):List Nat→List AV→Tm
 | p::ps,v::vs=> z7d (T.set p v) ps vs
 | _,_=> T
def z5i:AX→Option Code
 | .normal=> none
 | .ret=> some .ret
 | .exit id=> some (.exit id)
 | .goto l=> some (.goto l)
def z3b (h:AH) (b:Nat):Option (LoopState×Option Code×Tm×Nat×List Nat×Code×Code):=
 match h.get b with
 | some (.loop s p T n ps a c)=> some (s,p,T,n,ps,a,c)
 | _=> none
def zi2 (rec:Rec) (b:Nat) (args:List AV) (h:AH):Option (AV×AH):=
 match z3b h b with
 | some (_,_,T,n,ps,asg,body)=>
   if args.length=ps.length∧ps.all (· < n) then
    match rec asg ⟨z7d T ps args,n,h,true⟩ with
    | some (.normal,st)=>
      match z3b st.H b with
      | some (.ready,p2,T2,n2,ps2,a2,c2)=>
        match rec body {st with H:=st.H.put b (.loop .busy p2 T2 n2 ps2 a2 c2)} with
        | some (e,st')=>
          match z3b st'.H b with
          | some (_,_,T3,n3,ps3,a3,c3)=>
            some (.b (z5i e).isNone,st'.H.put b (.loop (if (z5i e).isNone then .ready else .done) (z5i e) T3 n3 ps3 a3 c3))
          | none=> none
        | none=> none
      | _=> none
    | _=> none
   else none
 | none=> none
structure CR where
 v:AV
 h:AH
 rd:Option (List Nat)
 wr:Option (List Nat)
def zev:List (FuncId×List (List Nat))→FuncId→Option (List (List Nat))
 | [],_=> none
 | (g,z)::l,f=> bif Nat.beq g f then some z else zev l f
def z8r (fr:Bool) (th:Option (List (List Nat))) (h:AH) (rd:List Nat) (v:AV) (h1:AH):Option CR:=
 let h':=if fr || rd.isEmpty then h else z3a h rd
 let wr:=if fr then [] else rd
 match th with
 | some zss=>
   match zpw h1 v with
   | some h2=> match thaw zss h1 h2 (fr && !rd.isEmpty) h' v with
     | some (r,h'')=> some ⟨r,h'',some rd,some (wr++(List.range (h''.nx - h'.nx)).map (h'.nx+·))⟩
     | none=> none
   | none=> none
 | none=> match t7 h1 (fr && !rd.isEmpty) z1b v with
   | some (r,_)=> some ⟨r,h',some rd,some wr⟩
   | none=> none
def z6o:List (FuncId×Nat×Nat)→FuncId→Option (Nat×Nat)
 | [],_=> none
 | (g,z,w)::l,f=> bif Nat.beq g f then some (z,w) else z6o l f
def ze8 (P:Program) (cf:Cfg) (rec:Rec) (f:AV) (args:List AV) (h:AH):Option CR:=
 match f with
 | .fn f cap=>
   match z6o cf.clone f with
   | some (z,w)=>
     match args with
     | [x]=> match z0a h z x with
       | some (n,cs,rd)=> if n≤4294967296∧w≤4096∧0 < z∧cap.isEmpty=true then some ⟨.rf h.nx z 0 n,h.new (.cells cs),some rd,some [h.nx]⟩ else none
       | none=> none
     | [.rf b z' off n,.i i,.i j]=> match h.wcells b with
       | some cs=> if w=5000∧z'=z∧0 < z∧off=0∧n≤4294967296∧cs.length=n*z∧0≤i∧i < n∧j=i+1∧cap.isEmpty=true then
          some ⟨.rf b z 0 (n - 1),h.put b (.cells (cs.take (i.toNat*z)++cs.drop ((i.toNat+1)*z))),some [b],some [b]⟩ else none
       | none=> none
     | _=> none
   | none=>
   if !cap.isEmpty || cf.inl.contains f then
    match z8a P rec f (args++cap) h with
    | some (v,h')=> some ⟨v,h',none,none⟩
    | none=> none
   else
    match z0b (t7 h false z1b) args with
    | some (pargs,rd)=>
      match z8a P rec f pargs AH.empty with
      | some (v,h1)=>
        z8r (!cf.move.contains f) (zev cf.thaw f) h rd v h1
      | none=> none
    | none=> none
 | .yl b=> match zi2 rec b args h with
   | some (v,h')=> some ⟨v,h',none,none⟩
   | none=> none
 | _=> none
abbrev Ft:=Option (List Nat)×Option (List Nat)
def z5w (ops:Array Oper) (T:Tm) (o:Oper):Option Bool:=
 match o.guard with
 | none=> some true
 | some (j,w)=> match (ops[j]?).bind (·.dst) with
   | some d=> match T.get d with | .b x=> some (x==w) | .tu []=> some false | _=> none
   | none=> none
def zop (st:St) (d:Option Tmp) (v:AV):Option St:=
 match d with
 | some d=> if d < st.n then some {st with T:=st.T.set d v} else none
 | none=> some st
def zjh (r:OR):CR:=⟨r.v,r.h,some r.rd,some r.wr⟩
def doA (P:Program) (cf:Cfg) (rec:Rec) (op:Op) (st:St):Option CR:=
 match op with
 | .call c=> match c.callee with
   | .value f=> ze8 P cf rec (ev st.T f) (c.args.toList.map (ev st.T)) st.H
   | _=> (aOp P st.H st.T op).map zjh
 | op=> (aOp P st.H st.T op).map zjh
def zjf (P:Program) (cf:Cfg) (rec:Rec) (ops:Array Oper) (o:Oper) (st:St):Option (St×Ft):=
 match z5w ops st.T o with
 | none=> none
 | some false=> match zop st o.dst (.tu []) with
   | some s=> some (s,(some [],some []))
   | none=> none
 | some true=>
   match doA P cf rec o.op st with
   | some r=> match zop {st with H:=r.h} o.dst r.v with
     | some s=> some (s,(r.rd,r.wr))
     | none=> none
   | none=> none
def zo3 (P:Program) (cf:Cfg) (rec:Rec) (ops:Array Oper):List Nat→St→Option (St×List Ft)
 | [],st=> some (st,[])
 | i::r,st=> match ops[i]? with
   | some o=> match zjf P cf rec ops o st with
     | some (st',ft)=> match zo3 P cf rec ops r st' with
       | some (st'',fts)=> some (st'',ft::fts)
       | none=> none
     | none=> none
   | none=> none
/-! ### A region that draws its order -/
def z9 (ops:Array Oper):Bool:=
 let b:=Region.before ops
 Region.noSelect ops &&
 (List.range ops.size).all fun j=>
   decide (b.getD j 0 < 2 ^ j) &&
   (List.range j).all fun i=>
     (b.getD j 0).testBit i ||
     match ops[i]?,ops[j]? with
     | some x,some y=> x.apart ops y
     | _,_=> false
def zwk (a b:Option (List Nat)):Bool:=
 match a,b with
 | some [],_ | _,some []=> true
 | some xs,some ys=> xs.all fun x=> !ys.contains x
 | _,_=> false
def zwb (x y:Ft):Bool:=zwk x.2 y.1 && zwk x.2 y.2 && zwk x.1 y.2
def ztu (bj:Nat) (y:Ft):Nat→List Ft→Bool
 | _,[]=> true
 | i,x::r=> (bj.testBit i || zwb x y) && ztu bj y (i+1) r
def w8 (b:Array Nat) (before:List Ft):Nat→List Ft→Bool
 | _,[]=> true
 | j,y::r=> ztu (b.getD j 0) y 0 before && w8 b (before++[y]) (j+1) r
def regA (P:Program) (cf:Cfg) (rec:Rec) (ops:Array Oper) (draw:Bool) (st:St):Option (AX×St):=
 match zo3 P cf rec ops (List.range ops.size) st with
 | some (st',fts)=> if draw=false∨(z9 ops=true∧w8 (Region.before ops) [] 0 fts=true) then some (.normal,st') else none
 | none=> none
def zjp (id:Nat):AX→AX
 | .exit j=> if j=id then .normal else .exit j
 | e=> e
def zn3 (rec:Rec) (body:Code):Nat→Code→St→Option (AX×St)
 | 0,_,_=> none
 | k+1,c,st=> match rec c st with
   | some (.goto l,st')=> match findLabel body l with
     | some rest=> zn3 rec body k rest st'
     | none=> some (.goto l,st')
   | r=> r
def zto (rec:Rec) (body:Code):Nat→St→Option (AX×St)
 | 0,_=> none
 | k+1,st=> match rec body st with
   | some (.normal,st')=> zto rec body k st'
   | r=> r
def zn0 (P:Program) (cf:Cfg) (rec:Rec) (g:Operand) (ps:Array Tmp) (asg body:Code) (st:St):Option (AX×St):=
 if st.q then none else
 let l:=st.H.nx
 let h1:=st.H.new (.loop .ready none st.T st.n ps.toList asg body)
 match ev st.T g with
 | .fn f cap=>
   match z8a P rec f (.yl l::cap) h1 with
   | some (_,h2)=>
     match z3b h2 l with
     | some (s,p,T,n,qs,a,b)=>
       if s=.busy then none else
       let st':St:={st with H:=h2.put l (.loop .exhausted p T n qs a b)}
       match p with
       | none=> some (.normal,st')
       | some c=> rec c st'
     | none=> none
   | none=> none
 | _=> none
def z30 (P:Program) (cf:Cfg):Nat→Code→St→Option (AX×St)
 | 0,_,_=> none
 | k+1,c,st=>
   match c with
   | .skip=> some (.normal,st)
   | .label _=> some (.normal,st)
   | .ret=> some (.ret,st)
   | .exit id=> some (.exit id,st)
   | .goto l=> some (.goto l,st)
   | .seq a b=> match z30 P cf k a st with
     | some (.normal,st')=> z30 P cf k b st'
     | r=> r
   | .cond c x y=> match ev st.T c with
     | .b t=> z30 P cf k (bif t then x else y) st
     | _=> none
   | .block id c=> (z30 P cf k c st).map fun r=> (zjp id r.1,r.2)
   | .loop c=> zto (z30 P cf k) c k st
   | .scope c=> zn3 (z30 P cf k) c k c st
   | .region _ ops draw=> regA P cf (z30 P cf k) ops draw st
   | .rangeFunc g ps asg body=> zn0 P cf (z30 P cf k) g ps asg body st
   | .refuse _=> none
def zu2 (P:Program) (cf:Cfg) (k:Nat) (f:FuncId) (args:List AV):Option AV:=
 match z8a P (z30 P cf k) f args AH.empty with
 | some (v,h)=> (t7 h false z1b v).map (·.1)
 | none=> none
end Go.Proofs.Ytimcbhhebnikiaa.Ab
