/- The law 'StateDoes': it returns true, and nothing that was there changes. No condition. (Part 7 of 12.) -/
import Derived.Test.YtimcbhhebnikiaaSd6
import Derived.OpenShut
import Derived.ChangeOld
import Derived.WideShapes
import Derived.ReadAgain
import Derived.Below
namespace Go.Proofs.Ytimcbhhebnikiaa.Ab
open Go
set_option linter.unusedVariables false
set_option linter.unusedSimpArgs false
def Opn (P:Program) (t:TypeId) {α:Type} (c:α→List AV) (ok:α→Prop):Prop:=
 ∀(H:Type) (enc:TypeId×Value→H) (W:World) (fuel:Nat) (cs:List Value) (x:DataW H×List MemPlace),DataW.trod enc P W 0 (fun _=> true) true fuel t cs=some x→∃a,ok a∧LRel (C0 W) W true (c a) cs
abbrev Ln {α:Type} (l:List α):Prop:=l.length≤9223372036854775807
def I64 (n:Int):Prop:= -9223372036854775808≤n∧n≤9223372036854775807
section
variable {P : Program} {α β : Type}
theorem z43 {t:TypeId} (h:P.underlying t=some (.int .i64)):Opn P t (fun n:Int=> [.i n]) I64:=by
 intro H enc W fuel cs x hx
 obtain ⟨n,rfl,_,hw⟩:=DataW.trod_int h hx
 exact ⟨n,bounds_i64 hw,LRel.cons (fun _=> rfl) (by simp only [x3]) LRel.nil⟩
theorem y2i {t:TypeId} (h:P.underlying t=some (.int .u8)):Opn P t (fun n:UInt8=> [.y n]) (fun _=> True):=by
 intro H enc W fuel cs x hx
 obtain ⟨n,rfl,_,hw⟩:=DataW.trod_int h hx
 have hb:=bounds_u8 hw
 refine ⟨UInt8.ofNat n.toNat,trivial,LRel.cons (fun _=> rfl) ?_ LRel.nil⟩
 simp only [x3,UInt8.toNat_ofNat']
 congr 1
 omega
theorem Opn.map {t:TypeId} {c:α→List AV} {ok:α→Prop} (h:Opn P t c ok) (f:α→β) (c':β→List AV) (ok':β→Prop) (hc:∀a,c' (f a)=c a) (ho:∀a,ok a→ok' (f a)):Opn P t c' ok':=by
 intro H enc W fuel cs x hx
 obtain ⟨a,h1,h2⟩:=h H enc W fuel cs x hx
 exact ⟨f a,ho a h1,by rw [hc];exact h2⟩
theorem opn_slice {t e z:TypeId} {c:α→List AV} {ok:α→Prop} (ht:P.underlying t=some (.slice e)) (hz:P.cellsOf e=z) (hpos:0 < z) (he:Opn P e c ok):
 Opn P t (fun l:List α=> [.sl l.length (l.flatMap c)]) (fun l=> Ln l∧∀a∈l,ok a):=by
 intro H enc W fuel cs x hx
 rcases DataW.trod_slice ht hx with ⟨rfl,_⟩ | ⟨a,len,cap,elems,rest,n,_,rfl,_,hb,hl,hm,hlen,hel,_,_⟩
 · refine ⟨[],⟨by simp [Ln],by simp⟩,LRel.cons (fun _=> rfl) ?_ LRel.nil⟩
   simp only [x3]
   exact ⟨none,0,rfl,Nat.le_refl _,.inl rfl⟩
 · have key:∀k,k≤len→∃(l:List α) (vs:List Value),l.length=k∧(∀a∈l,ok a)∧LRel (C0 W) W true (l.flatMap c) vs∧vs.length=k*z∧(0 < k→a.spot=none∧a.block < W.heap.size)∧∀j,j < k*z→W.cell? (a.add j)=vs[j]? :=by
    intro k
    induction k with
    | zero=> exact fun _=> ⟨[],[],rfl,by simp,by simpa using LRel.nil,by simp,fun h=> by omega,fun j hj=> by simp at hj⟩
    | succ k ih=>
      intro hk
      obtain ⟨l,vs,h1,h2,h3,h4,h5,h6⟩:=ih (by omega)
      have hkl:k < elems.length:=by omega
      have hy:=hel k (by omega)
      rw [List.getElem?_eq_getElem hkl,hz,Option.bind_eq_some_iff] at hy
      obtain ⟨cs',hcs,hy⟩:=hy
      obtain ⟨b,hb1,hb2⟩:=he H enc W _ _ _ hy
      obtain ⟨_,hc1,hc2⟩:=World.cells?_some hcs
      have hblk:=World.cells?_block hcs hpos
      obtain ⟨v0,hv0⟩:∃v0,cs'[0]? =some v0:=⟨cs'[0]'(by rw [hc1];exact hpos),List.getElem?_eq_getElem _⟩
      have hspot:=World.cell?_spot ((hc2 0 hpos).trans hv0)
      have hsp:a.spot=none:=by
       rcases Nat.eq_zero_or_pos k with hk0 | hk0
       · subst hk0;simpa [Addr.add] using hspot
       · exact (h5 hk0).1
      obtain ⟨b1,b2,b3⟩:=a
      simp only at hsp
      subst hsp
      simp only [Go.WideShapes.add_plain] at hblk hc2 h6⊢
      refine ⟨l++[b],vs++cs',by simp [h1],?_,?_,by rw [List.length_append,h4,hc1,Nat.add_mul,Nat.one_mul],fun _=> ⟨trivial,hblk⟩,fun j hj=> ?_⟩
      · intro u hu
        rcases List.mem_append.1 hu with hu | hu
        · exact h2 u hu
        · simp only [List.mem_singleton] at hu;subst hu;exact hb1
      · simp only [List.flatMap_append,List.flatMap_cons,List.flatMap_nil,List.append_nil]
        exact h3.append hb2
      · by_cases hj':j < k*z
        · rw [List.getElem?_append_left (by omega)];exact h6 j hj'
        · rw [List.getElem?_append_right (by omega),h4]
          have hj2:j < k*z+z:=by rw [Nat.add_mul,Nat.one_mul] at hj;exact hj
          have:=hc2 (j - k*z) (by omega)
          rw [show b2+k*z+(j - k*z)=b2+j by omega] at this
          exact this
   obtain ⟨l,vs,h1,h2,h3,h4,h5,h6⟩:=key len (Nat.le_refl _)
   have hm':cap≤9223372036854775807:=hm
   refine ⟨l,⟨by show l.length≤_;omega,h2⟩,LRel.cons (fun _=> rfl) ?_ LRel.nil⟩
   simp only [x3]
   refine ⟨some a,cap,by rw [h1],by omega,?_⟩
   by_cases hl0:l.length=0
   · exact .inl hl0
   · obtain ⟨g1,g2⟩:=h5 (by omega)
     refine .inr ⟨a,vs,rfl,g1,g2,?_,?_⟩
     · have:(C0 W).pure=C0 W:=rfl
       rw [this];exact h3
     · intro i v hv
       have hi:i < vs.length:=by
        rcases Nat.lt_or_ge i vs.length with g | g
        · exact g
        · rw [List.getElem?_eq_none g] at hv;cases hv
       obtain ⟨b1,b2,b3⟩:=a
       simp only at g1
       subst g1
       simp only [Go.WideShapes.add_plain] at h6
       rw [h6 i (by omega)];exact hv
def OpnF (P:Program) (fs:List Field) (off n:Nat) {α:Type} (c:α→List AV) (ok:α→Prop):Prop:=
 ∀(H:Type) (enc:TypeId×Value→H) (W:World) (fuel:Nat) (cs:List Value),cs.length=n→(∀f∈fs,∃y,DataW.trod enc P W 0 (fun _=> true) true fuel f.type ((cs.drop f.offset).take (P.cellsOf f.type))=some y)→∃a,ok a∧LRel (C0 W) W true (c a) (cs.drop off)
theorem ze1 {n:Nat}:OpnF P [] n n (fun _:Unit=> []) (fun _=> True):=by
 intro H enc W fuel cs hn _
 refine ⟨(),trivial,?_⟩
 rw [List.drop_eq_nil_of_le (by omega)]
 exact LRel.nil
theorem z0d {f:Field} {fs:List Field} {off z n:Nat} {c1:α→List AV} {ok1:α→Prop} {c2:β→List AV} {ok2:β→Prop} (ho:f.offset=off) (hz:P.cellsOf f.type=z) (h1:Opn P f.type c1 ok1) (h2:OpnF P fs (off+z) n c2 ok2):
 OpnF P (f::fs) off n (fun a:α×β=> c1 a.1++c2 a.2) (fun a=> ok1 a.1∧ok2 a.2):=by
 intro H enc W fuel cs hn hf
 obtain ⟨y,hy⟩:=hf f (by simp)
 obtain ⟨a,ha1,ha2⟩:=h1 H enc W fuel _ _ hy
 obtain ⟨b,hb1,hb2⟩:=h2 H enc W fuel cs hn fun g hg=> hf g (by simp [hg])
 refine ⟨(a,b),⟨ha1,hb1⟩,?_⟩
 have:cs.drop off=(cs.drop off).take z++cs.drop (off+z):=by rw [←List.drop_drop,List.take_append_drop]
 rw [this]
 rw [ho,hz] at ha2
 exact ha2.append hb2
theorem z9o {t:TypeId} {fs:Array Field} {n:Nat} {c:α→List AV} {ok:α→Prop} (ht:P.underlying t=some (.struct fs)) (hn:P.cellsOf t=n) (h:OpnF P fs.toList 0 n c ok):Opn P t c ok:=by
 intro H enc W fuel cs x hx
 obtain ⟨xs,m,rfl,_,hl,hxs,hf⟩:=DataW.trod_struct ht hx
 obtain ⟨a,h1,h2⟩:=h H enc W m cs (by rw [hl,hn]) fun f hfm=> by
  obtain ⟨i,hi⟩:=List.getElem?_of_mem hfm
  have hi':fs[i]? =some f:=by simpa using hi
  have hlt:i < xs.length:=by
   rw [hxs]
   exact (Array.getElem?_eq_some_iff.1 hi').1
  exact ⟨xs[i],by rw [hf i f hi',List.getElem?_eq_getElem hlt]⟩
 exact ⟨a,h1,by simpa using h2⟩
/-! ### A parameter -/
section
variable {H : Type} {enc : TypeId × Value → H} {W : World} {r : _root_.Go.Reach} {b0 : Nat} {t : TypeId} {v : Value} {d : DataW H} {p : List MemPlace}
theorem arg_slice {e:TypeId} {x:α→AV} {ok:α→Prop} (ht:P.underlying t=some (.slice e)) (ho:Opn P t (fun a=> [x a]) ok) (hval:Value.okWide P W r b0 t v) (hd:DataW.Trod enc P W 0 (fun _=> true) true t v d p):∃a,ok a∧x3 (C0 W) W (x a) v:=by
 obtain ⟨a,len,cap,rfl⟩:=WideShapes.okWide_slice ht hval
 obtain ⟨fuel,hd⟩:=hd
 obtain ⟨m,hm,h2⟩:=ho H enc W fuel _ _ hd
 exact ⟨m,hm,(LRel.one1 (by simpa [Value.cells] using h2)).elim fun v h=> by obtain ⟨e,h,_⟩:=h;simp only [List.cons.injEq,and_true] at e;rw [e];exact h⟩
theorem arg_struct {fs:Array Field} {c:α→List AV} {ok:α→Prop} (ht:P.underlying t=some (.struct fs)) (ho:Opn P t c ok) (hval:Value.okWide P W r b0 t v) (hd:DataW.Trod enc P W 0 (fun _=> true) true t v d p):∃a,ok a∧x3 (C0 W) W (.ag (c a)) v:=by
 obtain ⟨cs,rfl,_⟩:=WideShapes.okWide_struct ht hval
 obtain ⟨fuel,hd⟩:=hd
 obtain ⟨m,hm,h2⟩:=ho H enc W fuel _ _ hd
 refine ⟨m,hm,?_⟩
 simp only [x3]
 exact ⟨cs.toList,by simp,by simpa [Value.cells] using h2⟩
end
theorem again_of {H:Type} {enc:TypeId×Value→H} {W W':World} (hl:((List.range P.types.size).all fun t=> match P.underlying t with | some (.slice e)=> decide (0 < P.cellsOf e) | _=> true)=true) (hlo:laidOutB P=true) (hmr:mapsRowed P=true)
 {ts:List TypeId} {vs:List Value} {ds:List (DataW H)} {ps:List MemPlace} (hts:(ts.all fun t=> decide (t < P.types.size))=true) (h:DataW.TrodAll enc P W 0 (fun _=> true) true ts vs ds ps) (hb:RowKit.Below W.heap.size W W'):
 DataW.TrodAll enc P W' 0 (fun b=> decide (b < W.heap.size)) true ts vs ds ps:=by
 have hlt:=h.lt
 have h2:=DataW.TrodAll.respare (spare':=fun b=> decide (b < W.heap.size)) (kids_rows hlo hmr) (slices_full_of P hl) (fun t ht=> of_decide_eq_true (List.all_eq_true.1 hts t ht)) h fun p hp=> by simpa using hlt p hp
 have carry:∀(ts:List TypeId) (vs:List Value) (ds:List (DataW H)) (ps:List MemPlace),(∀p∈ps,p.block < W.heap.size)→DataW.TrodAll enc P W 0 (fun b=> decide (b < W.heap.size)) true ts vs ds ps→DataW.TrodAll enc P W' 0 (fun b=> decide (b < W.heap.size)) true ts vs ds ps:=by
  intro ts
  induction ts with
  | nil=> intro vs ds ps _ h;cases vs <;> cases ds <;> simp [DataW.TrodAll] at h⊢<;> exact h
  | cons t ts ih=>
    intro vs ds ps hp h
    cases vs <;> cases ds <;> simp only [DataW.TrodAll] at h⊢
    obtain ⟨p,q,⟨n,h1⟩,h2,rfl⟩:=h
    refine ⟨p,q,⟨n,DataW.trod_carry n _ _ _ h1 fun x hx=> hb.same (hp x (List.mem_append_left _ hx))⟩,ih _ _ _ (fun x hx=> hp x (List.mem_append_right _ hx)) h2,rfl⟩
 exact carry ts vs ds ps hlt h2
/-! ### Kinds -/
theorem y21 (l:List UInt8):l.flatMap (fun b=> [AV.y b])=l.map .y:=by
 induction l with
 | nil=> rfl
 | cons b l ih=> simp [ih]
theorem opn_bys {t e:TypeId} (ht:P.underlying t=some (.slice e)) (he:P.underlying e=some (.int .u8)) (hz:P.cellsOf e=1):Opn P t (fun l:List UInt8=> [bys l]) (fun l=> Ln l):=
 (opn_slice ht hz Nat.one_pos (y2i he)).map id _ _ (fun l=> by simp [y21]) (fun _ h=> h.1)
def Zo.ok (z:Zo):Prop:=I64 z.st∧I64 z.rs∧I64 z.la
def Ex.ok (x:Ex):Prop:=I64 x.lba∧I64 x.len∧I64 x.kind∧I64 x.gen∧Ln x.d
theorem opn_ex {t:TypeId} {f1 f2 f3 f4 f5:Field} (ht:P.underlying t=some (.struct #[f1,f2,f3,f4,f5])) (hn:P.cellsOf t=5) (o1:f1.offset=0) (o2:f2.offset=1) (o3:f3.offset=2) (o4:f4.offset=3) (o5:f5.offset=4)
 (z1:P.cellsOf f1.type=1) (z2:P.cellsOf f2.type=1) (z3:P.cellsOf f3.type=1) (z4:P.cellsOf f4.type=1) (z5:P.cellsOf f5.type=1) (h1:P.underlying f1.type=some (.int .i64)) (h2:P.underlying f2.type=some (.int .i64)) (h3:P.underlying f3.type=some (.int .i64)) (h4:P.underlying f4.type=some (.int .i64)) (h5:Opn P f5.type (fun l:List UInt8=> [bys l]) (fun l=> Ln l)):
 Opn P t Ex.cells Ex.ok:=
 (z9o ht hn (z0d o1 z1 (z43 h1) (z0d o2 z2 (z43 h2) (z0d o3 z3 (z43 h3) (z0d o4 z4 (z43 h4) (z0d o5 z5 h5 ze1)))))).map (fun a=> (⟨a.1,a.2.1,a.2.2.1,a.2.2.2.1,a.2.2.2.2.1⟩:Ex)) _ _ (fun a=> rfl) (fun a h=> ⟨h.1,h.2.1,h.2.2.1,h.2.2.2.1,h.2.2.2.2.1⟩)
def Ce.ok (x:Ce):Prop:=I64 x.kind∧I64 x.gen∧x.d.length=32
def Sp.ok (x:Sp):Prop:=I64 x.k∧I64 x.n
/-! Checkpoints, states, changes. -/
def Po.ok (x:Po):Prop:=I64 x.id∧I64 x.gen∧Ln x.map∧(∀a∈x.map,Ex.ok a)
theorem opn_po {t:TypeId} {f1 f2 f3:Field} (ht:P.underlying t=some (.struct #[f1,f2,f3])) (hn:P.cellsOf t=3) (o1:f1.offset=0) (o2:f2.offset=1) (o3:f3.offset=2) (z1:P.cellsOf f1.type=1) (z2:P.cellsOf f2.type=1) (z3:P.cellsOf f3.type=1) (h1:P.underlying f1.type=some (.int .i64)) (h2:P.underlying f2.type=some (.int .i64)) (h3:Opn P f3.type (fun l:List Ex=> [exs l]) (fun l=> Ln l∧∀a∈l,Ex.ok a)):
 Opn P t Po.cells Po.ok:=
 (z9o ht hn (z0d o1 z1 (z43 h1) (z0d o2 z2 (z43 h2) (z0d o3 z3 h3 ze1)))).map (fun a=> (⟨a.1,a.2.1,a.2.2.1⟩:Po)) _ _ (fun a=> rfl) (fun a h=> ⟨h.1,h.2.1,h.2.2.1⟩)
def Sa.ok (x:Sa):Prop:=I64 x.blocks∧I64 x.gen∧(Ln x.map∧∀a∈x.map,Ex.ok a)∧(Ln x.points∧∀a∈x.points,Po.ok a)∧I64 x.last∧Ln x.staged
theorem opn_sa {t:TypeId} {f1 f2 f3 f4 f5 f6:Field} (ht:P.underlying t=some (.struct #[f1,f2,f3,f4,f5,f6])) (hn:P.cellsOf t=6) (o1:f1.offset=0) (o2:f2.offset=1) (o3:f3.offset=2) (o4:f4.offset=3) (o5:f5.offset=4) (o6:f6.offset=5) (z1:P.cellsOf f1.type=1) (z2:P.cellsOf f2.type=1) (z3:P.cellsOf f3.type=1) (z4:P.cellsOf f4.type=1) (z5:P.cellsOf f5.type=1) (z6:P.cellsOf f6.type=1) (h1:P.underlying f1.type=some (.int .i64)) (h2:P.underlying f2.type=some (.int .i64)) (h3:Opn P f3.type (fun l:List Ex=> [exs l]) (fun l=> Ln l∧∀a∈l,Ex.ok a)) (h4:Opn P f4.type (fun l:List Po=> [pos l]) (fun l=> Ln l∧∀a∈l,Po.ok a)) (h5:P.underlying f5.type=some (.int .i64)) (h6:Opn P f6.type (fun l:List UInt8=> [bys l]) (fun l=> Ln l)):
 Opn P t Sa.cells Sa.ok:=
 (z9o ht hn (z0d o1 z1 (z43 h1) (z0d o2 z2 (z43 h2) (z0d o3 z3 h3 (z0d o4 z4 h4 (z0d o5 z5 (z43 h5) (z0d o6 z6 h6 ze1))))))).map (fun a=> (⟨a.1,a.2.1,a.2.2.1,a.2.2.2.1,a.2.2.2.2.1,a.2.2.2.2.2.1⟩:Sa)) _ _ (fun a=> rfl) (fun a h=> ⟨h.1,h.2.1,h.2.2.1,h.2.2.2.1,h.2.2.2.2.1,h.2.2.2.2.2.1⟩)
def Ch.ok (x:Ch):Prop:=I64 x.kind∧I64 x.lba∧I64 x.n∧I64 x.id∧Ln x.d∧Ln x.list∧(∀a∈x.list,Ex.ok a)
theorem opn_ch {t:TypeId} {f1 f2 f3 f4 f5 f6:Field} (ht:P.underlying t=some (.struct #[f1,f2,f3,f4,f5,f6])) (hn:P.cellsOf t=6) (o1:f1.offset=0) (o2:f2.offset=1) (o3:f3.offset=2) (o4:f4.offset=3) (o5:f5.offset=4) (o6:f6.offset=5) (z1:P.cellsOf f1.type=1) (z2:P.cellsOf f2.type=1) (z3:P.cellsOf f3.type=1) (z4:P.cellsOf f4.type=1) (z5:P.cellsOf f5.type=1) (z6:P.cellsOf f6.type=1) (h1:P.underlying f1.type=some (.int .i64)) (h2:P.underlying f2.type=some (.int .i64)) (h3:P.underlying f3.type=some (.int .i64)) (h4:P.underlying f4.type=some (.int .i64)) (h5:Opn P f5.type (fun l:List UInt8=> [bys l]) (fun l=> Ln l)) (h6:Opn P f6.type (fun l:List Ex=> [exs l]) (fun l=> Ln l∧∀a∈l,Ex.ok a)):
 Opn P t Ch.cells Ch.ok:=
 (z9o ht hn (z0d o1 z1 (z43 h1) (z0d o2 z2 (z43 h2) (z0d o3 z3 (z43 h3) (z0d o4 z4 (z43 h4) (z0d o5 z5 h5 (z0d o6 z6 h6 ze1))))))).map (fun a=> (⟨a.1,a.2.1,a.2.2.1,a.2.2.2.1,a.2.2.2.2.1,a.2.2.2.2.2.1⟩:Ch)) _ _ (fun a=> rfl) (fun a h=> ⟨h.1,h.2.1,h.2.2.1,h.2.2.2.1,h.2.2.2.2.1,h.2.2.2.2.2.1⟩)
end
end Go.Proofs.Ytimcbhhebnikiaa.Ab
namespace Go.Proofs.Ytimcbhhebnikiaa.Ab
open Go
set_option linter.unusedVariables false
set_option linter.unusedSimpArgs false
theorem z4s {P:Program} {ops:Array Oper} {o:Oper} {v:Value} {a:Act} (hg:o.guard=none) (he:∀w,(execOp a.eval o).run P w=.ok (.value v) w) (hab:∀w,o.about P w a.eval=none):YieldsFenced P ops o v a:=
 ⟨.inl ⟨by unfold Region.wanted;rw [hg],he⟩,hab⟩
theorem z05 {P:Program} {m:Nat} {ops:Array Oper} {Q:Exit→Act→World→Prop} {i:Nat} {o:Oper} {v:Value} {a:Act} {w:World} {K:Act→World→Prop} (ho:ops[i]? =some o) (hg:o.guard=none) (he:∀w,(execOp a.eval o).run P w=.ok (.value v) w) (hab:∀w,o.about P w a.eval=none) (h:K (a.put o.dst v) w):wpOpIn Fence.wide m P ops Q i K a w:=
 (z4s hg he hab).wpOpIn rfl ho h
theorem zgh {P:Program} {t e z:Nat} (hu:∀w,(underlying t).run P w=.ok (.slice e) w) (hz:∀w,(sizeOf e).run P w=.ok z w) {rb n c l h m:Nat} {lo hi mx:Option Value} (hb:∀w,(Instr.sliceBounds true n c lo hi mx).run P w=.ok (l,h,m) w) (w:World):
 (Instr.sliceAt t (.slice (some ⟨rb,0,none⟩) n c) lo hi mx).run P w=.ok (.slice (some (if m=l then ⟨rb,0,none⟩ else ⟨rb,l*z,none⟩)) (h - l) (m - l)) w:=by
 by_cases em:m=l
 · subst em
   simp [Instr.sliceAt,Instr.slice,hu,hb,hz]
 · simp [Instr.sliceAt,Instr.slice,hu,hb,hz,em,z7c]
theorem bnds {P:Program} {n c:Nat} {lo hi:Option Nat} {l h:Nat} (hl:lo.getD 0=l) (hh:hi.getD n=h) (h1:l≤h) (h2:h≤c) (w:World):
 (Instr.sliceBounds true n c (lo.map fun x=> .int .i64 x) (hi.map fun x=> .int .i64 x) none).run P w=.ok (l,h,c) w:=by
 refine z2x (C:=⟨fun _=> none,fun _=> False⟩) (n:=n) (lo:=lo.map fun x=> .i x) (hi:=hi.map fun x=> .i x) (mx:=none) ?_ ?_ (by trivial) ?_ ?_ (fun e=> by cases e) (fun _=> rfl) h1 h2 (Nat.le_refl _) (fun e=> by cases e)
 · cases lo <;> simp [OV,x3]
 · cases hi <;> simp [OV,x3]
 · cases lo <;> simp_all [bnd]
 · cases hi <;> simp_all [bnd]
theorem bnds3 {P:Program} {n c:Nat} {l h m:Nat} (h1:l≤h) (h2:h≤m) (h3:m≤c) (w:World):
 (Instr.sliceBounds true n c (some (.int .i64 l)) (some (.int .i64 h)) (some (.int .i64 m))).run P w=.ok (l,h,m) w:=by
 refine z2x (C:=⟨fun _=> none,fun _=> False⟩) (n:=n) (lo:=some (.i l)) (hi:=some (.i h)) (mx:=some (.i m)) ?_ ?_ ?_ ?_ ?_ (fun _=> ?_) (fun e=> by cases e) h1 h2 h3 (fun _=> rfl)
 · simp [OV,x3]
 · simp [OV,x3]
 · simp [OV,x3]
 · simp [bnd]
 · simp [bnd]
 · simp [bnd]
theorem zxs {P:Program} {t e:Nat} (hu:∀w,(underlying t).run P w=.ok (.slice e) w) {ty:TypeId} {a:Option Addr} {n c:Nat} (w:World):(Builtin.len_ #[t] ty #[.slice a n c]).run P w=.ok (.int .i64 n) w:=by
 simp [Builtin.len_,hu,goInt]
section
variable {P : Program} {a : Act} {d : Option Tmp} {ty : TypeId} {p : String} {es : Array Edge} {g : Option (Nat × Bool)}
theorem z13 {x:Operand} {v:Value} (h:a.eval x=v) (w:World):(execOp a.eval ⟨d,.move x,ty,p,es,g⟩).run P w=.ok (.value v) w:=by subst h;rfl
theorem z7z {x:Operand} {v:Value} (h:a.eval x=v) (w:World):(execOp a.eval ⟨d,.assign x,ty,p,es,g⟩).run P w=.ok (.value v) w:=by subst h;rfl
theorem zgs {t:TypeId} {x:Operand} {lo hi mx:Option Operand} {vx v:Value} {vlo vhi vmx:Option Value} (hx:a.eval x=vx) (h1:lo.map a.eval=vlo) (h2:hi.map a.eval=vhi) (h3:mx.map a.eval=vmx) {w:World} (h:(Instr.sliceAt t vx vlo vhi vmx).run P w=.ok v w):(execOp a.eval ⟨d,.slice t x lo hi mx,ty,p,es,g⟩).run P w=.ok (.value v) w:=by
 subst hx h1 h2 h3
 simp only [execOp,Sem.run_bind,h,Result.andThen_ok,Sem.run_pure]
theorem zh5 {x:Operand} {t e:TypeId} (hu:∀w,(underlying t).run P w=.ok (.slice e) w) {ad:Option Addr} {n c:Nat} (h:a.eval x=.slice ad n c) (w:World):(execOp a.eval ⟨d,.call ⟨.builtin .len,#[x],#[t]⟩,ty,p,es,g⟩).run P w=.ok (.value (.int .i64 n)) w:=by
 simp [execOp,resolve,invoke,builtin,h,zxs hu]
theorem zyf {x y:Operand} {vx vy:Value} {ts:Array TypeId} {v:Value} {w w':World} (hx:a.eval x=vx) (hy:a.eval y=vy) (h:(Builtin.append_ ts ty #[vx,vy]).run P w=.ok v w'):(execOp a.eval ⟨d,.call ⟨.builtin .append,#[x,y],ts⟩,ty,p,es,g⟩).run P w=.ok (.value v) w':=by
 subst hx hy
 simp [execOp,resolve,invoke,builtin,h]
theorem zw9 {x:Operand} {vx:Value} {ts:Array TypeId} {v:Value} {w w':World} (hx:a.eval x=vx) (h:(Builtin.clear_ ts ty #[vx]).run P w=.ok v w'):(execOp a.eval ⟨d,.call ⟨.builtin .clear,#[x],ts⟩,ty,p,es,g⟩).run P w=.ok (.value v) w':=by
 subst hx
 simp [execOp,resolve,invoke,builtin,h]
theorem zx2 {x y:Operand} {m n:Int} (hx:a.eval x=.int .i64 m) (hy:a.eval y=.int .i64 n) (hg:∀w,(binOp .eql 3 (.int .i64 m) (.int .i64 n)).run P w=.ok (.bool (m==n)) w) (w:World):(execOp a.eval ⟨d,.binOp .eql 3 x y 3,ty,p,es,g⟩).run P w=.ok (.value (.bool (m==n))) w:=by
 simp [execOp,hx,hy,eqGuard,hg]
end
theorem zsh {P:Program} {e:Nat} {ei:TI} (hE:TSpec P e ei) (h0:0 < hE.z.cells.size):(Builtin.zeroCells hE.z.cells 1).toList=hE.z.cells.toList:=by
 have:=zet hE.z.cells h0 1
 simpa [Builtin.zeroCells] using this
section
variable {P : Program} {C : Ctx} {K : Nat → Option AObj} {w : World}
theorem y0g {b n i rb c z t e:Nat} {cs:List AV} {ti ei:TI} (hS:Sim C K w) (hK:K b=some (.cells cs)) (hl:cs.length=n*z) (hi:i < n) (hn:n≤4294967296) (hz:0 < z) (hφ:C.φ b=some rb) (hc:n≤c) (hR:Reach w rb (c*z))
 (ht:u9 P t=some ti) (hT:TSpec P t ti) (hk:ti.k=.slice e) (hE:TSpec P e ei) (es:ei.size=z) (ezl:ei.zero.length=z) (hwd:ei.bytes≤4096):
 ∃W1 W2 C',(∀ty,(Builtin.append_ #[t,t] ty #[.slice (some ⟨rb,0,none⟩) i c,.slice (some (if c=i+1 then ⟨rb,0,none⟩ else ⟨rb,(i+1)*z,none⟩)) (n - (i+1)) (c - (i+1))]).run P w=.ok (.slice (some ⟨rb,0,none⟩) (n - 1) c) W1)∧
  (∀ty,(Builtin.clear_ #[t] ty #[.slice (some ⟨rb,(n - 1)*z,none⟩) 1 (c - (n - 1))]).run P W1=.ok (.tuple #[]) W2)∧
  x3 C' W2 (.rf b z 0 (n - 1)) (.slice (some ⟨rb,0,none⟩) (n - 1) c)∧Step C w C' W2∧Sim C' (z1i K b (some (.cells (cs.take (i*z)++cs.drop ((i+1)*z))))) W2∧∀x,C.φ x=none→C'.φ x=none:=by
 subst es
 obtain ⟨k,rfl⟩:∃k,n=i+1+k:=⟨n - (i+1),by omega⟩
 have ek:i+1+k - (i+1)=k:=by omega
 have en:i+1+k - 1=i+k:=by omega
 rw [ek,en]
 have m1:(i+1+k)*ei.size=i*ei.size+(ei.size+k*ei.size):=by rw [Nat.add_mul,Nat.add_mul,Nat.one_mul,Nat.add_assoc]
 have m2:(i+1)*ei.size=i*ei.size+ei.size:=by rw [Nat.add_mul,Nat.one_mul]
 have m3:(i+k)*ei.size=i*ei.size+k*ei.size:=Nat.add_mul _ _ _
 have m4:(i+1+k)*ei.size≤c*ei.size:=Nat.mul_le_mul_right _ hc
 let h:AH:=⟨0,[(b,.cells cs)]⟩
 have hget:h.get b=some (.cells cs):=by simp [h,AH.get,AH.look,zb3,z6e]
 have hcells:h.cells b=some cs:=by unfold AH.cells;rw [hget]
 have hrd:∀b'∈[b],K b'=h.get b':=by intro b' hb';simp at hb';subst hb';rw [hK,hget]
 have v2:x3 C w (.rf b ei.size 0 i) (.slice (some ⟨rb,0,none⟩) i c):=by
  simp only [x3];exact ⟨_,c,rfl,by omega,.inr ⟨rb,hφ,rfl,by rwa [Nat.zero_add]⟩⟩
 have v3:x3 C w (.rf b ei.size ((i+1)*ei.size) k) (.slice (some (if c=i+1 then ⟨rb,0,none⟩ else ⟨rb,(i+1)*ei.size,none⟩)) k (c - (i+1))):=by
  simp only [x3]
  refine ⟨_,_,rfl,by omega,?_⟩
  by_cases e:c=i+1
  · exact .inl (by omega)
  · refine .inr ⟨rb,hφ,by rw [if_neg e],?_⟩
    rw [←Nat.add_mul,show i+1+(c - (i+1))=c by omega];exact hR
 have s2:z0a h ei.size (.rf b ei.size 0 i)=some (i,cs.take (i*ei.size),[b]):=by
  simp only [z0a,if_true,hcells,Nat.zero_add,List.drop_zero];rw [if_pos (by omega)]
 have s3:z0a h ei.size (.rf b ei.size ((i+1)*ei.size) k)=some (k,cs.drop ((i+1)*ei.size),[b]):=by
  simp only [z0a,if_true,hcells];rw [if_pos (by omega),List.take_of_length_le (by simp;omega)]
 obtain ⟨old,o1,o2,o3,o4⟩:=z3q (P:=P) hS s2 hrd v2
 obtain ⟨new,n1,n2,n3,n4⟩:=z3q (P:=P) hS s3 hrd v3
 have ol:old.length=i*ei.size:=by rw [←o1.length,o2]
 have nl:new.length=k*ei.size:=by rw [←n1.length,n2]
 obtain ⟨h1,_⟩:=z9i (w:=w) hT hE hk (ts:=#[t,t]) rfl (by simp [zee,ht,hk]) (a:=some ⟨rb,0,none⟩) (m:=i) (c:=c) (n:=k) (x:=.slice (some (if c=i+1 then ⟨rb,0,none⟩ else ⟨rb,(i+1)*ei.size,none⟩)) k (c - (i+1))) (old:=old) (new:=new) n3 (fun w' hw'=> by have:=n4 k (Nat.le_refl _) w' hw';rwa [←nl,List.take_length] at this) (fun w' hw'=> by have:=o4 i (Nat.le_refl _) w' hw';rwa [←ol,List.take_length] at this) (by omega) hwd (ty:=t)
 have h1':=fun ty=> (z9i (w:=w) hT hE hk (ts:=#[t,t]) rfl (by simp [zee,ht,hk]) (a:=some ⟨rb,0,none⟩) (m:=i) (c:=c) (n:=k) (x:=.slice (some (if c=i+1 then ⟨rb,0,none⟩ else ⟨rb,(i+1)*ei.size,none⟩)) k (c - (i+1))) (old:=old) (new:=new) n3 (fun w' hw'=> by have:=n4 k (Nat.le_refl _) w' hw';rwa [←nl,List.take_length] at this) (fun w' hw'=> by have:=o4 i (Nat.le_refl _) w' hw';rwa [←ol,List.take_length] at this) (by omega) hwd (ty:=ty)).1 (by omega)
 rcases hS.at_ b _ hK with ⟨g,_⟩ | ⟨rb',g1,g2,_⟩
 · rw [g] at hφ;cases hφ
 rw [g1] at hφ;injection hφ with hφ;subst hφ
 obtain ⟨vs,rest,T,e1,e2⟩:=g2
 have vl:vs.length=(i+1+k)*ei.size:=by rw [←e2.length,hl]
 obtain ⟨c1,T1,f1,e3,hRl⟩:=hR
 rw [e1] at e3
 injection e3 with e3
 injection e3 with e4 e5 e6
 subst e4
 have asz:(vs++rest).toArray.size=vs.length+rest.length:=by simp
 have hst:=z3j P rb' new w (i*ei.size) 0 (vs++rest).toArray T n1.cells e1 (by rw [asz];omega)
 simp only [Nat.add_zero] at hst
 have hadd:(⟨rb',0,none⟩:Addr).add (i*ei.size)=⟨rb',i*ei.size,none⟩:=by rw [z7c,Nat.zero_add]
 -- the block behind the append
 obtain ⟨A,hA⟩:∃A,A=(List.take (i*ei.size) (vs++rest).toArray.toList++new++List.drop (i*ei.size+new.length) (vs++rest).toArray.toList):=⟨_,rfl⟩
 rw [←hA] at hst
 have hA':A=(vs.take (i*ei.size)++new)++(vs++rest).drop (i*ei.size+new.length):=by
  rw [hA];simp only [List.take_append_of_le_length (show i*ei.size≤vs.length by omega)]
 have tl:(vs.take (i*ei.size)++new).length=(i+k)*ei.size:=by simp;omega
 have hAl:A.length=vs.length+rest.length:=by rw [hA'];simp;omega
 have w1e:(d8 w rb' (Obj.cells A.toArray T (0,0))).heap[rb']? =some (Obj.cells A.toArray T (0,0)):=by rw [t5,if_pos ⟨rfl,z0i w e1⟩]
 have zs:hE.z.cells.size=ei.size:=by rw [←ezl,hE.zeros];simp
 have hst2:=z3j P rb' hE.z.cells.toList (d8 w rb' (Obj.cells A.toArray T (0,0))) ((i+k)*ei.size) 0 A.toArray T hE.ones w1e (by simp;omega)
 simp only [Nat.add_zero] at hst2
 rw [z83] at hst2
 have hfin:List.take ((i+k)*ei.size) A++hE.z.cells.toList++List.drop ((i+k)*ei.size+hE.z.cells.toList.length) A=(vs.take (i*ei.size)++new)++(hE.z.cells.toList++List.drop ((i+k)*ei.size+hE.z.cells.toList.length) A):=by
  rw [List.append_assoc]
  congr 1
  rw [hA',←tl,List.take_left]
 rw [hfin] at hst2
 have hsz:((vs.take (i*ei.size)++new)++(hE.z.cells.toList++List.drop ((i+k)*ei.size+hE.z.cells.toList.length) A)).toArray.size=(vs++rest).toArray.size:=by
  simp [-List.length_take,hAl]
  have:=tl
  simp [-List.length_take] at this
  omega
 have hstep:=zej hS hK g1 (n:=b) (.inl rfl) e1 hsz
 have hsim:=zn1 hS hK g1 (n:=b) (.inl rfl) e1 hsz (o:=.cells (cs.take (i*ei.size)++cs.drop ((i+1)*ei.size))) rfl ⟨vs.take (i*ei.size)++new,_,T,by rw [t5,if_pos ⟨rfl,z0i w e1⟩],((e2.step hstep).take _).append (n1.step hstep)⟩
 refine ⟨d8 w rb' (Obj.cells A.toArray T (0,0)),_,_,fun ty=> ?_,fun ty=> ?_,?_,hstep,hsim.congr fun x=> ?_,fun x hx=> ?_⟩
 · rw [h1' ty]
   simp only [hadd,hst,Result.andThen_ok]
 · have hd:=z0v (hk▸hT.kind)
   have hu:∀w,(underlying t).run P w=.ok (.slice e) w:=fun w=> by rw [hT.run_und,hd]
   have h1z:=zsh hE (by omega)
   simp [Builtin.clear_,hu,hE.run_zero,h1z,hst2]
 · simp only [x3]
   refine ⟨_,c,rfl,by omega,.inr ⟨rb',Ctx.with_at C _ _,rfl,_,T,(0,0),by rw [t5,if_pos ⟨rfl,z0i w e1⟩],?_⟩⟩
   rw [hsz,Nat.zero_add];exact hRl
 · simp only [z1i]
   by_cases e:x=b <;> simp [e]
 · have hxb:x≠b:=fun e=> by rw [e,g1] at hx;cases hx
   simp [Ctx.with,hxb,hx]
end
def zu0 (t : TypeId) : Array Oper := #[⟨some 20, .move (.tmp 0), t, "slices.go:232", #[], none⟩, ⟨some 21, .move (.tmp 1), 3, "slices.go:232", #[], none⟩,
 ⟨some 22, .slice t (.tmp 20) none (some (.tmp 21)) none, t, "slices.go:232", #[⟨0, .data⟩, ⟨1, .data⟩], none⟩, ⟨some 23, .move (.tmp 0), t, "slices.go:232", #[], none⟩, ⟨some 24, .move (.tmp 2), 3, "slices.go:232", #[], none⟩,
 ⟨some 25, .slice t (.tmp 23) (some (.tmp 24)) none none, t, "slices.go:232", #[⟨3, .data⟩, ⟨4, .data⟩], none⟩,
 ⟨some 26, .call ⟨.builtin .append, #[.tmp 22, .tmp 25], #[t, t]⟩, t, "slices.go:232", #[⟨2, .data⟩, ⟨5, .data⟩], none⟩,
 ⟨some 0, .assign (.tmp 26), t, "slices.go:232", #[⟨6, .data⟩, ⟨6, .chain⟩, ⟨0, .phase⟩, ⟨1, .phase⟩, ⟨2, .phase⟩, ⟨3, .phase⟩, ⟨4, .phase⟩, ⟨5, .phase⟩, ⟨6, .phase⟩], none⟩]
def ztt (t : TypeId) : Array Oper := #[⟨some 27, .move (.tmp 0), t, "slices.go:233", #[], none⟩, ⟨some 28, .move (.tmp 0), t, "slices.go:233", #[], none⟩, ⟨some 29, .call ⟨.builtin .len, #[.tmp 28], #[t]⟩, 3, "slices.go:233", #[⟨1, .data⟩], none⟩,
 ⟨some 30, .move (.tmp 7), 3, "slices.go:233", #[], none⟩, ⟨some 31, .slice t (.tmp 27) (some (.tmp 29)) (some (.tmp 30)) none, t, "slices.go:233", #[⟨0, .data⟩, ⟨2, .data⟩, ⟨3, .data⟩], none⟩,
 ⟨none, .call ⟨.builtin .clear, #[.tmp 31], #[t]⟩, 0, "slices.go:233", #[⟨4, .data⟩], none⟩]
def zu4 (t : TypeId) : Array Oper := #[⟨some 8, .move (.tmp 0), t, "slices.go:225", #[], none⟩, ⟨some 9, .move (.tmp 1), 3, "slices.go:225", #[], none⟩, ⟨some 10, .move (.tmp 2), 3, "slices.go:225", #[], none⟩, ⟨some 11, .move (.tmp 0), t, "slices.go:225", #[], none⟩,
 ⟨some 12, .call ⟨.builtin .len, #[.tmp 11], #[t]⟩, 3, "slices.go:225", #[⟨3, .data⟩], none⟩, ⟨some 13, .slice t (.tmp 8) (some (.tmp 9)) (some (.tmp 10)) (some (.tmp 12)), t, "slices.go:225", #[⟨0, .data⟩, ⟨1, .data⟩, ⟨2, .data⟩, ⟨4, .data⟩], none⟩]
def ztl (t:TypeId):Code:=
 .seq (.region 0 #[⟨some 6, .assign (.const (.slice none 0 0)), t, "slices.go:224", #[], none⟩] false)
 (.seq (.region 1 (zu4 t) false)
 (.seq (.seq (.region 2 #[⟨some 14, .move (.tmp 1), 3, "slices.go:227", #[], none⟩, ⟨some 15, .move (.tmp 2), 3, "slices.go:227", #[], none⟩, ⟨some 16, .binOp .eql 3 (.tmp 14) (.tmp 15) 3, 4, "slices.go:227", #[⟨0, .data⟩, ⟨1, .data⟩], none⟩] false)
   (.cond (.tmp 16) (.seq (.region 3 #[⟨some 17, .move (.tmp 0), t, "slices.go:228", #[], none⟩, ⟨some 6, .assign (.tmp 17), t, "slices.go:228", #[⟨0, .data⟩, ⟨0, .phase⟩], none⟩] false) .ret) .skip))
 (.seq (.region 4 #[⟨some 18, .move (.tmp 0), t, "slices.go:231", #[], none⟩, ⟨some 19, .call ⟨.builtin .len, #[.tmp 18], #[t]⟩, 3, "slices.go:231", #[⟨0, .data⟩], none⟩, ⟨some 7, .assign (.tmp 19), 3, "slices.go:231", #[⟨1, .data⟩, ⟨0, .phase⟩, ⟨1, .phase⟩], none⟩] false)
 (.seq (.region 5 (zu0 t) true)
 (.seq (.region 6 (ztt t) false)
 (.seq (.region 7 #[⟨some 32, .move (.tmp 0), t, "slices.go:234", #[], none⟩, ⟨some 6, .assign (.tmp 32), t, "slices.go:234", #[⟨0, .data⟩, ⟨0, .phase⟩], none⟩] false) .ret))))))
theorem y3q {P : Program} (hm : P.follows .mixedOrders = true) {f t z wd : Nat} {fn : Func} (hf : P.funcs[f]? = some fn) (hb : fn.body = some (ztl t)) (hr : fn.results = #[.tmp 6]) (hnt : fn.ntmps = 33) (hname : (fn.name == "runtime.NumGoroutine") = false) (ht : zgg P t z wd = true) (hwd : (decide (wd ≤ 4096)) = true := by decide) : zmj P f z 5000 := by
 refine ⟨⟨fn,hf,hname,by rw [hb];rfl⟩,fun _ C K w b n i cs v m R hS hK hl hi hn hz hv hR=> ?_,fun _ _ _ _ _ _ _ _ _ _ _ _ _ _ _ h=> by omega⟩
 obtain ⟨e,ti,ei,h1,h2,h3,h4,h5,h6⟩:=zdp ht
 obtain ⟨hT⟩:=u5 h1
 obtain ⟨hE⟩:=u5 h3
 simp only [x3] at hv
 obtain ⟨a,c,rfl,hc,hv⟩:=hv
 obtain ⟨rb,hφ,rfl,hRe⟩:=hv.resolve_left (by omega)
 rw [Nat.zero_add] at hRe
 have hd:=z0v (h2▸hT.kind)
 have hu:∀w,(underlying t).run P w=.ok (.slice e) w:=fun w=> by rw [hT.run_und,hd]
 have hsz:∀w,(sizeOf e).run P w=.ok z w:=fun w=> by rw [hE.run_size,h4]
 refine callsIn_of_wp hf hb trivial ?_
 rw [hnt]
 have hrep:(#[Value.slice (some ⟨rb,0,none⟩) n c,.int .i64 i,.int .i64 ((i:Int)+1)]++Array.replicate (33 - #[Value.slice (some ⟨rb,0,none⟩) n c,.int .i64 i,.int .i64 ((i:Int)+1)].size) undef)=#[.slice (some ⟨rb,0,none⟩) n c,.int .i64 i,.int .i64 ((i:Int)+1),undef,undef,undef,undef,undef,undef,undef,undef,undef,undef,undef,undef,undef,undef,undef,undef,undef,undef,undef,undef,undef,undef,undef,undef,undef,undef,undef,undef,undef,undef]:=by kernel_rfl
 rw [hrep]
 unfold ztl
 have r1:List.range 1=[0]:=by decide
 have r2:List.range 2=[0,1]:=by decide
 have r3:List.range 3=[0,1,2]:=by decide
 have r6:List.range 6=[0,1,2,3,4,5]:=by decide
 have a1:((i:Int)+1)=((i+1:Nat):Int):=by omega
 -- 0
 refine wpIn_seq (wpIn_region ?_)
 simp only [List.size_toArray,List.length_cons,List.length_nil,Nat.zero_add,r1]
 rw [wpOpsIn_cons]
 refine z05 (v:=(.slice none 0 0)) rfl rfl (fun w=> z7z (by kernel_rfl) w) (fun _=> by kernel_rfl) ?_
 -- 1
 refine wpIn_seq (wpIn_region ?_)
 unfold zu4
 simp only [List.size_toArray,List.length_cons,List.length_nil,Nat.zero_add,Nat.reduceAdd,r6]
 rw [wpOpsIn_cons]
 refine z05 (v:=(.slice (some ⟨rb,0,none⟩) n c)) rfl rfl (fun w=> z13 (by kernel_rfl) w) (fun _=> by kernel_rfl) ?_
 rw [wpOpsIn_cons]
 refine z05 (v:=(.int .i64 i)) rfl rfl (fun w=> z13 (by kernel_rfl) w) (fun _=> by kernel_rfl) ?_
 rw [wpOpsIn_cons]
 refine z05 (v:=(.int .i64 ((i:Int)+1))) rfl rfl (fun w=> z13 (by kernel_rfl) w) (fun _=> by kernel_rfl) ?_
 rw [wpOpsIn_cons]
 refine z05 (v:=(.slice (some ⟨rb,0,none⟩) n c)) rfl rfl (fun w=> z13 (by kernel_rfl) w) (fun _=> by kernel_rfl) ?_
 rw [wpOpsIn_cons]
 refine z05 (v:=(.int .i64 n)) rfl rfl (fun w=> zh5 (n:=n) (c:=c) (ad:=some ⟨rb,0,none⟩) hu (by kernel_rfl) w) (fun _=> by kernel_rfl) ?_
 rw [wpOpsIn_cons]
 refine z05 rfl rfl (fun w=> zgs (vx:=.slice (some ⟨rb,0,none⟩) n c) (vlo:=some (.int .i64 i)) (vhi:=some (.int .i64 ((i:Int)+1))) (vmx:=some (.int .i64 n)) (by kernel_rfl) (by kernel_rfl) (by kernel_rfl) (by kernel_rfl) (zgh (rb:=rb) (n:=n) (c:=c) hu hsz (fun w=> (by rw [a1];exact bnds3 (by omega) (by omega) (by omega) w:(Instr.sliceBounds true n c (some (.int .i64 i)) (some (.int .i64 ((i:Int)+1))) (some (.int .i64 n))).run P w=.ok (i,i+1,n) w)) w)) (fun _=> by kernel_rfl) ?_
 -- 2
 refine wpIn_seq (wpIn_seq (wpIn_region ?_))
 simp only [List.size_toArray,List.length_cons,List.length_nil,Nat.zero_add,Nat.reduceAdd,r3]
 rw [wpOpsIn_cons]
 refine z05 (v:=(.int .i64 i)) rfl rfl (fun w=> z13 (by kernel_rfl) w) (fun _=> by kernel_rfl) ?_
 rw [wpOpsIn_cons]
 refine z05 (v:=(.int .i64 ((i:Int)+1))) rfl rfl (fun w=> z13 (by kernel_rfl) w) (fun _=> by kernel_rfl) ?_
 rw [wpOpsIn_cons]
 have hne:((i:Int)==(i:Int)+1)=false:=by rw [beq_eq_false_iff_ne];omega
 refine z05 (v:=.bool false) rfl rfl (fun w=> by rw [←hne];exact zx2 (m:=i) (n:=(i:Int)+1) (by kernel_rfl) (by kernel_rfl) (fun w=> by simp [binOp,Op.intCmp]) w) (fun _=> by kernel_rfl) ?_
 refine wpIn_cond (t:=false) (by kernel_rfl) ?_
 rw [if_neg (by simp)]
 refine wpIn_skip ?_
 -- 4
 refine wpIn_seq (wpIn_region ?_)
 simp only [List.size_toArray,List.length_cons,List.length_nil,Nat.zero_add,Nat.reduceAdd,r3]
 rw [wpOpsIn_cons]
 refine z05 (v:=(.slice (some ⟨rb,0,none⟩) n c)) rfl rfl (fun w=> z13 (by kernel_rfl) w) (fun _=> by kernel_rfl) ?_
 rw [wpOpsIn_cons]
 refine z05 (v:=(.int .i64 n)) rfl rfl (fun w=> zh5 (n:=n) (c:=c) (ad:=some ⟨rb,0,none⟩) hu (by kernel_rfl) w) (fun _=> by kernel_rfl) ?_
 rw [wpOpsIn_cons]
 refine z05 (v:=(.int .i64 n)) rfl rfl (fun w=> z7z (by kernel_rfl) w) (fun _=> by kernel_rfl) ?_
 have x22:∀w,(Instr.sliceAt t (.slice (some ⟨rb,0,none⟩) n c) none (some (.int .i64 i)) none).run P w=.ok (.slice (some ⟨rb,0,none⟩) i c) w:=fun w=> by
  have:=zgh (rb:=rb) (n:=n) (c:=c) hu hsz (bnds (P:=P) (n:=n) (c:=c) (lo:=none) (hi:=some i) (l:=0) (h:=i) rfl rfl (by omega) (by omega)) w
  simpa using this
 have x25:∀w,(Instr.sliceAt t (.slice (some ⟨rb,0,none⟩) n c) (some (.int .i64 ((i:Int)+1))) none none).run P w=.ok (.slice (some (if c=i+1 then ⟨rb,0,none⟩ else ⟨rb,(i+1)*z,none⟩)) (n - (i+1)) (c - (i+1))) w:=fun w=> by
  rw [a1]
  exact zgh (rb:=rb) (n:=n) (c:=c) hu hsz (bnds (P:=P) (n:=n) (c:=c) (lo:=some (i+1)) (hi:=none) (l:=i+1) (h:=n) rfl rfl (by omega) (by omega)) w
 have x31:∀w,(Instr.sliceAt t (.slice (some ⟨rb,0,none⟩) (n - 1) c) (some (.int .i64 ((n - 1:Nat):Int))) (some (.int .i64 n)) none).run P w=.ok (.slice (some ⟨rb,(n - 1)*z,none⟩) 1 (c - (n - 1))) w:=fun w=> by
  have:=zgh (rb:=rb) (n:=n - 1) (c:=c) hu hsz (bnds (P:=P) (n:=n - 1) (c:=c) (lo:=some (n - 1)) (hi:=some n) (l:=n - 1) (h:=n) rfl rfl (by omega) (by omega)) w
  rw [if_neg (by omega),show n - (n - 1)=1 by omega] at this
  exact this
 -- 5
 refine wpIn_seq (wpIn_region_any hm ?_)
 unfold zu0
 obtain ⟨W1,W2,C',y1,y2,y3,y4,y5,y6⟩:=y0g (w:={w with drawn:=w.drawn+1}) (Sim.heap (w:=w) rfl rfl hS) hK hl hi hn hz hφ hc hRe h1 hT h2 hE h4 (h5.trans rfl) (by rw [h6];exact of_decide_eq_true hwd)
 simp only [List.size_toArray,List.length_cons,List.length_nil,Nat.zero_add,Nat.reduceAdd]
 refine wpAnyIn_take (i:=0) (v:=(.slice (some ⟨rb,0,none⟩) n c)) rfl rfl (by kernel_rfl) (by kernel_rfl) (by kernel_rfl) (fun _ _ _ h=> h) (z4s rfl (fun w=> z13 (by kernel_rfl) w) (fun _=> by kernel_rfl)) ?_
 refine wpAnyIn_take (i:=1) (v:=(.int .i64 i)) rfl rfl (by kernel_rfl) (by kernel_rfl) (by kernel_rfl) (fun _ _ _ h=> h) (z4s rfl (fun w=> z13 (by kernel_rfl) w) (fun _=> by kernel_rfl)) ?_
 refine wpAnyIn_take (i:=2) (v:=(.slice (some ⟨rb,0,none⟩) i c)) rfl rfl (by kernel_rfl) (by kernel_rfl) (by kernel_rfl) (fun _ _ _ h=> h) (z4s rfl (fun w=> zgs (by kernel_rfl) (by kernel_rfl) (by kernel_rfl) (by kernel_rfl) (x22 w)) (fun _=> by kernel_rfl)) ?_
 refine wpAnyIn_take (i:=3) (v:=(.slice (some ⟨rb,0,none⟩) n c)) rfl rfl (by kernel_rfl) (by kernel_rfl) (by kernel_rfl) (fun _ _ _ h=> h) (z4s rfl (fun w=> z13 (by kernel_rfl) w) (fun _=> by kernel_rfl)) ?_
 refine wpAnyIn_take (i:=4) (v:=(.int .i64 ((i:Int)+1))) rfl rfl (by kernel_rfl) (by kernel_rfl) (by kernel_rfl) (fun _ _ _ h=> h) (z4s rfl (fun w=> z13 (by kernel_rfl) w) (fun _=> by kernel_rfl)) ?_
 refine wpAnyIn_take (i:=5) (v:=(.slice (some (if c=i+1 then ⟨rb,0,none⟩ else ⟨rb,(i+1)*z,none⟩)) (n - (i+1)) (c - (i+1)))) rfl rfl (by kernel_rfl) (by kernel_rfl) (by kernel_rfl) (fun _ _ _ h=> h) (z4s rfl (fun w=> zgs (by kernel_rfl) (by kernel_rfl) (by kernel_rfl) (by kernel_rfl) (x25 w)) (fun _=> by kernel_rfl)) ?_
 refine wpAnyIn_all (rs:=[6]) (by kernel_rfl) (by simp) fun j hj=> ?_
 obtain rfl:j=6:=by simpa using hj
 refine z6w (o := ⟨some 26, .call ⟨.builtin .append, #[.tmp 22, .tmp 25], #[t, t]⟩, t, "slices.go:232", #[⟨2, .data⟩, ⟨5, .data⟩], none⟩) rfl rfl ?_ (fun _ e => by cases e)
 rw [zyf (by kernel_rfl) (by kernel_rfl) (y1 t),Oper.uponIn_value]
 refine wpAnyIn_take (i:=7) (v:=(.slice (some ⟨rb,0,none⟩) (n - 1) c)) rfl rfl (by kernel_rfl) (by kernel_rfl) (by kernel_rfl) (fun _ _ _ h=> h) (z4s rfl (fun w=> z7z (by kernel_rfl) w) (fun _=> by kernel_rfl)) ?_
 refine wpAnyIn_done (by kernel_rfl) ?_ _
 -- 6
 refine wpIn_seq (wpIn_region ?_)
 unfold ztt
 simp only [List.size_toArray,List.length_cons,List.length_nil,Nat.zero_add,Nat.reduceAdd,r6]
 rw [wpOpsIn_cons]
 refine z05 (v:=(.slice (some ⟨rb,0,none⟩) (n - 1) c)) rfl rfl (fun w=> z13 (by kernel_rfl) w) (fun _=> by kernel_rfl) ?_
 rw [wpOpsIn_cons]
 refine z05 (v:=(.slice (some ⟨rb,0,none⟩) (n - 1) c)) rfl rfl (fun w=> z13 (by kernel_rfl) w) (fun _=> by kernel_rfl) ?_
 rw [wpOpsIn_cons]
 refine z05 (v:=(.int .i64 ((n - 1:Nat):Int))) rfl rfl (fun w=> zh5 (n:=n - 1) (c:=c) (ad:=some ⟨rb,0,none⟩) hu (by kernel_rfl) w) (fun _=> by kernel_rfl) ?_
 rw [wpOpsIn_cons]
 refine z05 (v:=(.int .i64 n)) rfl rfl (fun w=> z13 (by kernel_rfl) w) (fun _=> by kernel_rfl) ?_
 rw [wpOpsIn_cons]
 refine z05 (v:=(.slice (some ⟨rb,(n - 1)*z,none⟩) 1 (c - (n - 1)))) rfl rfl (fun w=> zgs (by kernel_rfl) (by kernel_rfl) (by kernel_rfl) (by kernel_rfl) (x31 w)) (fun _=> by kernel_rfl) ?_
 rw [wpOpsIn_cons]
 refine z6w (o := ⟨none, .call ⟨.builtin .clear, #[.tmp 31], #[t]⟩, 0, "slices.go:233", #[⟨4, .data⟩], none⟩) rfl rfl ?_ (fun _ e => by cases e)
 rw [zw9 (by kernel_rfl) (y2 0),Oper.uponIn_value]
 -- 7
 refine wpIn_seq (wpIn_region ?_)
 simp only [List.size_toArray,List.length_cons,List.length_nil,Nat.zero_add,Nat.reduceAdd,r2]
 rw [wpOpsIn_cons]
 refine z05 (v:=(.slice (some ⟨rb,0,none⟩) (n - 1) c)) rfl rfl (fun w=> z13 (by kernel_rfl) w) (fun _=> by kernel_rfl) ?_
 rw [wpOpsIn_cons]
 refine z05 (v:=(.slice (some ⟨rb,0,none⟩) (n - 1) c)) rfl rfl (fun w=> z7z (by kernel_rfl) w) (fun _=> by kernel_rfl) ?_
 refine wpIn_ret ⟨rfl,.slice (some ⟨rb,0,none⟩) (n - 1) c,?_,hR C' W2 _ y3 ((Step.heap (w:=w) (w':={w with drawn:=w.drawn+1}) rfl rfl:Step C w C {w with drawn:=w.drawn+1}).trans y4) y5 y6⟩
 · simp [results,hr,Act.put]
end Go.Proofs.Ytimcbhhebnikiaa.Ab
