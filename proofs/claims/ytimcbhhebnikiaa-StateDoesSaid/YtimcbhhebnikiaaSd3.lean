/- The law 'StateDoes': it returns true, and nothing that was there changes. No condition. (Part 3 of 12.) -/
import Derived.Test.YtimcbhhebnikiaaSd2
import Derived.Laws.BytesString
import Derived.Laws.Strings
import Derived.MapKept
namespace Go.Proofs.Ytimcbhhebnikiaa.Ab
open Go
set_option linter.unusedVariables false
set_option linter.unusedSimpArgs false
section
variable {P : Program} {C : Ctx} {K : Nat → Option AObj} {w : World} {h : AH}
theorem zpf {α β:Type} {f:α→Option β}:∀{l:List α} {r:List β} {i:Nat} {y:β},l.mapM f=some r→r[i]? =some y→∃x,l[i]? =some x∧f x=some y
 | [],r,i,y,h,e=> by
   simp at h;subst h;simp at e
 | a::l,r,i,y,h,e=> by
   rw [List.mapM_cons] at h
   cases ha:f a with
   | none=> rw [ha] at h;simp at h
   | some b=>
     rw [ha] at h
     cases hl:l.mapM f with
     | none=> rw [hl] at h;simp at h
     | some r'=>
       rw [hl] at h
       simp at h;subst h
       cases i with
       | zero=> simp at e;subst e;exact ⟨a,rfl,ha⟩
       | succ i=>
         simp at e
         obtain ⟨x,h1,h2⟩:=zpf hl e
         exact ⟨x,by simpa using h1,h2⟩
theorem zid {s:TypeId} {ti:TI} (hT:TSpec P s ti) {fs:List (Nat×Nat×Bool)} (hk:ti.k=.struct fs) {f off sz:Nat} {ag:Bool} (hf:fs[f]? =some (off,sz,ag)):
 ∃(gs:Array Field) (g:Field) (fi:TypeInfo) (fd:TypeDesc),hT.d=.struct gs∧gs[f]? =some g∧P.info? g.type=some fi∧P.underlying g.type=some fd∧g.offset=off∧fi.size=sz∧z2i fd=ag:=by
 obtain ⟨gs,hd,hm⟩:=zcc (hk▸hT.kind)
 obtain ⟨g,hg,hfi⟩:=zpf hm hf
 unfold zb6 at hfi
 split at hfi
 · rename_i fi fd h1 h2
   simp only [Option.some.injEq,Prod.mk.injEq] at hfi
   exact ⟨gs,g,fi,fd,hd,by simpa using hg,h1,h2,hfi.1,hfi.2.1,hfi.2.2⟩
 · cases hfi
theorem z7c (b o n:Nat):(⟨b,o,none⟩:Addr).add n=⟨b,o+n,none⟩:=by
 unfold Addr.add
 split
 · rename_i h0;simp [h0]
 · rfl
theorem zdj {a:Addr} (h:a.spot=none) (n:Nat):a.add n=⟨a.block,a.off+n,none⟩:=by
 cases a with
 | mk b o s=> simp only at h;subst h;exact z7c b o n
theorem z97 {t:TypeId} {d:TypeDesc} (e:P.underlying t=some d):(underlying t).run P w=.ok d w:=by simp [underlying,e]
theorem zbs {t:TypeId} {i:TypeInfo} (e:P.info? t=some i):(sizeOf t).run P w=.ok i.size w:=by simp [sizeOf,typeInfo,e]
def zud (x:AV) (n:Nat):AV:=match x with | .pt b o=> .pt b (o+n) | .ip cs=> .ip (cs.drop n) | _=> .top
theorem zu1 {x:AV} {v:Value} {n:Nat} {r:AV} (hv:x3 C w x v) (hr:r=zud x n) (hx:(∃b o,x=.pt b o)∨∃cs,x=.ip cs):
 ∃ad:Addr,v=.pointer (some ad)∧x3 C w r (.pointer (some (ad.add n))):=by
 rcases hx with ⟨b,o,rfl⟩ | ⟨cs,rfl⟩
 · simp only [x3] at hv
   obtain ⟨rb,h1,rfl⟩:=hv
   refine ⟨_,rfl,?_⟩
   rw [hr,z7c];simp only [zud,x3]
   exact ⟨rb,h1,rfl⟩
 · simp only [x3] at hv
   obtain ⟨ad,vs,rfl,h1,h2,h3,h4⟩:=hv
   refine ⟨_,rfl,?_⟩
   rw [hr,zdj h1];simp only [zud,x3]
   exact ⟨_,vs.drop n,rfl,rfl,h2,h3.drop n,h4.drop n⟩
theorem zg1 {s:TypeId} {ti:TI} (hT:TSpec P s ti) {fs:List (Nat×Nat×Bool)} (hk:ti.k=.struct fs) {f off sz:Nat} {ag:Bool} (hf:fs[f]? =some (off,sz,ag)) (hsz:sz≠0)
 {x r:AV} {v:Value} (hS:Sim C K w) (hv:x3 C w x v) (hr:r=zud x off) (hx:(∃b o,x=.pt b o)∨∃cs,x=.ip cs) {n:Nat} {rd:List Nat}:
 z5a P C K w n ⟨r,h,rd,[]⟩ (Instr.fieldAt s v f):=by
 obtain ⟨gs,g,fi,fd,hd,hg,h1,h2,h3,h4,h5⟩:=zid hT hk hf
 obtain ⟨ad,rfl,hrel⟩:=zu1 hv hr hx
 refine d4 hS ?_ hrel
 have hu:(underlying s).run P w=.ok (.struct gs) w:=by rw [hT.run_und,hd]
 simp [Instr.fieldAt,hu,hg,Instr.sureAddr,fieldPlace,zbs h1,h4,hsz,h3]
theorem zmd {x:AV} {v:Value} {i:Int} (hi:isI x=some i) (hv:x3 C w x v):∃k,v=.int k i:=by
 cases x with
 | i n=> simp only [isI,Option.some.injEq] at hi;subst hi;exact ⟨.i64,by simpa only [x3] using hv⟩
 | y b=> simp only [isI,Option.some.injEq] at hi;subst hi;exact ⟨.u8,by simpa only [x3] using hv⟩
 | sc u=>
   cases u with
   | int k n=> simp only [isI,Option.some.injEq] at hi;subst hi;exact ⟨k,by simpa only [x3] using hv⟩
   | _=> simp [isI] at hi
 | _=> simp [isI] at hi
theorem znr {t:TypeId} {x ix:AV} {vx vi:Value} {r:OR} (hS:Sim C K w) (hr:z5v P h t x ix=some r) (hvx:x3 C w x vx) (hvi:x3 C w ix vi) {n:Nat}:z5a P C K w n r (Instr.indexAt t vx vi):=by
 unfold z5v at hr
 split at hr
 · rename_i ti i ht hi
   obtain ⟨hT⟩:=u5 ht
   obtain ⟨ki,rfl⟩:=zmd hi hvi
   split at hr
   · rename_i m e hk
     have hd:=z3x (hk▸hT.kind)
     have hu:(underlying t).run P w=.ok (.array m e) w:=by rw [hT.run_und,hd]
     split at hr
     · rename_i ei he
       obtain ⟨hE⟩:=u5 he
       split at hr
       · rename_i hb
         have hx:(∃b o,x=.pt b o)∨∃cs,x=.ip cs:=by
          split at hr
          · exact .inl ⟨_,_,rfl⟩
          · exact .inr ⟨_,rfl⟩
          · cases hr
         have hr':r=⟨zud x (i.toNat*ei.size),h,[],[]⟩:=by
          rcases hx with ⟨b,o,rfl⟩ | ⟨cs,rfl⟩ <;> (simp only [g9,Option.some.injEq] at hr;exact hr.symm)
         obtain ⟨ad,rfl,hrel⟩:=zu1 (n:=i.toNat*ei.size) hvx rfl hx
         rw [hr']
         refine d4 hS ?_ hrel
         simp [Instr.indexAt,asIntOf,hu,Instr.sureAddr,hb.1,hb.2,hE.run_size]
       · cases hr
     · cases hr
   · rename_i e hk
     have hd:=z0v (hk▸hT.kind)
     have hu:(underlying t).run P w=.ok (.slice e) w:=by rw [hT.run_und,hd]
     split at hr
     · rename_i ei he
       obtain ⟨hE⟩:=u5 he
       split at hr
       · rename_i b z off m
         split at hr
         · rename_i hb
           obtain ⟨h0,h1,rfl⟩:=hb
           simp only [g9,Option.some.injEq] at hr;subst hr
           simp only [x3] at hvx
           obtain ⟨a,c,rfl,hc,h2 | ⟨rb,h2,rfl,h4⟩⟩:=hvx
           · omega
           · refine d4 (v:=.pointer (some ⟨rb,off+i.toNat*ei.size,none⟩)) hS ?_ (by simp only [x3];exact ⟨rb,h2,rfl⟩)
             simp [Instr.indexAt,asIntOf,hu,h0,h1,hE.run_size,z7c]
         · cases hr
       · rename_i m cs
         split at hr
         · rename_i hb
           simp only [g9,Option.some.injEq] at hr;subst hr
           simp only [x3] at hvx
           obtain ⟨a,c,rfl,hc,h2 | ⟨ad,vs,rfl,h3,h4,h5,h6⟩⟩:=hvx
           · omega
           · refine d4 (v:=.pointer (some ⟨ad.block,ad.off+i.toNat*ei.size,none⟩)) hS ?_ ?_
             · simp [Instr.indexAt,asIntOf,hu,hb.1,hb.2,hE.run_size,zdj h3]
             · simp only [x3]
               exact ⟨_,_,rfl,rfl,h4,h5.drop _,h6.drop _⟩
         · cases hr
       · cases hr
     · cases hr
   · cases hr
 · cases hr
theorem znx {t:TypeId} {cs:List AV} {vs:List Value} {off sz:Nat} {ag:Bool} {x:AV} (hag:(isAgg t).run P w=.ok ag w) (hsz:(sizeOf t).run P w=.ok sz w) (hl:LRel C w true cs vs)
 (hle:off+sz≤cs.length) (hx:zao ag ((cs.drop off).take sz)=some x):∃v,(part t vs.toArray off).run P w=.ok v w∧x3 C w x v:=by
 unfold zao at hx
 cases ag with
 | true=>
   simp only [if_true,Option.some.injEq] at hx;subst hx
   refine ⟨.agg ((vs.drop off).take sz).toArray,?_,by simp only [x3];exact ⟨_,rfl,(hl.drop off).take sz⟩⟩
   simp only [part,Sem.run_bind,hag,Result.andThen_ok,if_true,hsz,Sem.run_pure]
   congr 2
   apply Array.ext'
   rw [Array.toList_extract]
   simp [List.extract]
 | false=>
   simp only [Bool.false_eq_true,if_false] at hx
   split at hx
   · rename_i c hc
     injection hx with hx;subst hx
     have h1:cs[off]? =some c:=by
      have:=congrArg (fun l=> l[0]?) hc
      simp only [List.getElem?_cons_zero,List.getElem?_take,List.getElem?_drop,Nat.add_zero] at this
      split at this
      · exact this
      · cases this
     obtain ⟨v,hv,hr,_⟩:=hl.get h1
     refine ⟨v,?_,hr⟩
     simp [part,hag,hv]
   · cases hx
theorem zjm {x:AV} {v:Value} {d n:Nat} (hb:bnd (some x) d=some n) (hv:x3 C w x v) {y:Nat} (hy:n≤y) (code:BoundsCode):(Instr.sliceBound v y code).run P w=.ok n w:=by
 cases x with
 | i m=>
   simp only [bnd] at hb
   split at hb
   · rename_i h0
     injection hb with hb;subst hb
     have e:v=.int .i64 m:=by simpa only [x3] using hv
     subst e
     have:m≤(y:Int):=by omega
     simp [Instr.sliceBound,asIntOf,h0,this]
   · cases hb
 | _=> simp [bnd] at hb
def OV (C:Ctx) (w:World):Option AV→Option Value→Prop
 | none,none=> True
 | some x,some v=> x3 C w x v
 | _,_=> False
theorem z2x {isS:Bool} {lo hi mx:Option AV} {vlo vhi vmx:Option Value} {len cap n l h' m:Nat} (hlo:OV C w lo vlo) (hhi:OV C w hi vhi) (hmx:OV C w mx vmx)
 (b1:bnd lo 0=some l) (b2:bnd hi len=some h') (b3:mx.isSome→bnd mx n=some m) (b4:mx=none→m=cap) (i1:l≤h') (i2:h'≤m) (i3:m≤cap) (i4:mx.isSome=true→hi.isSome=true):
 (Instr.sliceBounds isS len cap vlo vhi vmx).run P w=.ok (l,h',m) w:=by
 have c1:(mx=none∧vmx=none∧m=cap)∨∃x v,mx=some x∧vmx=some v∧∀code,(Instr.sliceBound v cap code).run P w=.ok m w:=by
  cases mx with
  | none=> cases vmx with
    | none=> exact .inl ⟨rfl,rfl,b4 rfl⟩
    | some _=> exact hmx.elim
  | some x=> cases vmx with
    | none=> exact hmx.elim
    | some v=> exact .inr ⟨x,v,rfl,rfl,fun code=> zjm (b3 rfl) hmx i3 code⟩
 have c2:(hi=none∧vhi=none∧h'=len)∨∃x v,hi=some x∧vhi=some v∧∀code,(Instr.sliceBound v m code).run P w=.ok h' w:=by
  cases hi with
  | none=> cases vhi with
    | none=> exact .inl ⟨rfl,rfl,by simpa [bnd] using b2.symm⟩
    | some _=> exact hhi.elim
  | some x=> cases vhi with
    | none=> exact hhi.elim
    | some v=> exact .inr ⟨x,v,rfl,rfl,fun code=> zjm b2 hhi i2 code⟩
 have c3:(vlo=none∧l=0)∨∃v,vlo=some v∧∀code,(Instr.sliceBound v h' code).run P w=.ok l w:=by
  cases lo with
  | none=> cases vlo with
    | none=> exact .inl ⟨rfl,by simpa [bnd] using b1.symm⟩
    | some _=> exact hlo.elim
  | some x=> cases vlo with
    | none=> exact hlo.elim
    | some v=> exact .inr ⟨v,rfl,fun code=> zjm b1 hlo i1 code⟩
 rcases c1 with ⟨e1,e2,e3⟩ | ⟨x1,v1,e1,e2,e3⟩
 · subst e1 e2 e3
   rcases c2 with ⟨f1,f2,f3⟩ | ⟨x2,v2,f1,f2,f3⟩
   · subst f1 f2 f3
     rcases c3 with ⟨g1,g2⟩ | ⟨v3,g1,g2⟩
     · subst g1 g2;simp [Instr.sliceBounds]
     · subst g1;simp [Instr.sliceBounds,g2]
   · subst f1 f2
     rcases c3 with ⟨g1,g2⟩ | ⟨v3,g1,g2⟩
     · subst g1 g2;simp [Instr.sliceBounds,f3]
     · subst g1;simp [Instr.sliceBounds,f3,g2]
 · subst e1 e2
   rcases c2 with ⟨f1,f2,f3⟩ | ⟨x2,v2,f1,f2,f3⟩
   · subst f1;simp at i4
   · subst f1 f2
     rcases c3 with ⟨g1,g2⟩ | ⟨v3,g1,g2⟩
     · subst g1 g2;simp [Instr.sliceBounds,e3,f3]
     · subst g1;simp [Instr.sliceBounds,e3,f3,g2]
theorem zmk {lo hi mx:Option AV} {vlo vhi vmx:Option Value} {n c l h':Nat} {z:Bool} (hlo:OV C w lo vlo) (hhi:OV C w hi vhi) (hmx:OV C w mx vmx) (hq:zmo lo hi mx n=some (l,h',z)) (hc:n≤c):
 ∃m,(Instr.sliceBounds true n c vlo vhi vmx).run P w=.ok (l,h',m) w∧l≤h'∧h'≤n∧h'≤m∧m≤c∧(z=true→m=l):=by
 unfold zmo at hq
 split at hq
 · rename_i l0 h0 m b1 b2 b3
   split at hq
   · rename_i hb
     obtain ⟨i1,i2,i3,i4⟩:=hb
     simp only [Option.some.injEq,Prod.mk.injEq] at hq
     obtain ⟨rfl,rfl,rfl⟩:=hq
     cases mx with
     | none=>
       refine ⟨c,z2x (n:=n) hlo hhi hmx b1 b2 (fun hx=> by cases hx) (fun _=> rfl) i1 (by omega) (Nat.le_refl _) (fun hx=> by cases hx),i1,by omega,by omega,Nat.le_refl _,fun hz=> by simp at hz⟩
     | some x=>
       refine ⟨m,z2x (n:=n) hlo hhi hmx b1 b2 (fun _=> b3) (fun hx=> by cases hx) i1 i2 (by omega) i4,i1,by omega,i2,by omega,fun hz=> by simpa using hz⟩
   · cases hq
 · cases hq
theorem zzh {b n:Nat} {cs:List AV} {rb:Nat} (hS:Sim C K w) (hk:K b=some (.cells cs)∨K b=some (.ro cs)) (hφ:C.φ b=some rb) (hn:n≤cs.length) (h0:0 < n):Reach w rb n:=by
 obtain ⟨vs,h1,h2⟩:=zdh hS hk hφ
 have hl:=h2.length
 obtain ⟨v,hv⟩:∃v,vs[n - 1]? =some v:=⟨vs[n - 1]'(by omega),by simp⟩
 have:=h1 _ _ hv
 unfold World.cell? at this
 split at this
 · rename_i c T f hc
   simp at this
   have hlt:0+(n - 1) < c.size:=by
    rcases Nat.lt_or_ge (0+(n - 1)) c.size with g | g
    · exact g
    · rw [Nat.zero_add] at g;simp [Array.getElem?_eq_none g] at this
   exact ⟨c,T,f,hc,by omega⟩
 · cases this
theorem zso {t:TypeId} {x:AV} {vx:Value} {lo hi mx:Option AV} {vlo vhi vmx:Option Value} {r:OR} (hS:Sim C K w) (hr:z58 P h t x lo hi mx=some r) (hK:∀b∈r.rd,K b=h.get b) (hvx:x3 C w x vx)
 (hlo:OV C w lo vlo) (hhi:OV C w hi vhi) (hmx:OV C w mx vmx) {n0:Nat}:z5a P C K w n0 r (Instr.sliceAt t vx vlo vhi vmx):=by
 unfold z58 at hr
 split at hr
 · cases hr
 · rename_i ti ht
   obtain ⟨hT⟩:=u5 ht
   split at hr
   · -- of an array
     rename_i n e hk
     have hd:=z3x (hk▸hT.kind)
     have hu:(underlying t).run P w=.ok (.array n e) w:=by rw [hT.run_und,hd]
     split at hr
     · rename_i ei l h' he b1 b2
       obtain ⟨hE⟩:=u5 he
       split at hr
       · rename_i hb
         obtain ⟨i1,i2,i3⟩:=hb
         have hm0:mx=none:=by cases mx with | none=> rfl | some _=> simp at i3
         have hbs:=z2x (P:=P) (isS:=false) (cap:=n) (n:=n) (m:=n) hlo hhi hmx b1 b2 (fun hx=> by rw [hm0] at hx;cases hx) (fun _=> rfl) i1 i2 (Nat.le_refl _) (fun hx=> by rw [hm0] at hx;cases hx)
         split at hr
         · rename_i b off
           split at hr
           · rename_i cs hcs
             split at hr
             · rename_i hle
               injection hr with hr;subst hr
               simp only [x3] at hvx
               obtain ⟨rb,hφ,rfl⟩:=hvx
               have hk:K b=some (.cells cs)∨K b=some (.ro cs):=by rw [hK b (by simp)];exact z5q hcs
               by_cases e:n=l
               · subst e
                 refine d4 (v:=.slice (some ⟨rb,off,none⟩) (h' - n) (n - n)) hS ?_ ?_
                 · simp [Instr.sliceAt,hu,Instr.sureAddr,hbs,hE.run_size]
                 · simp only [x3];exact ⟨_,_,rfl,by omega,.inl (by omega)⟩
               · refine d4 (v:=.slice (some ⟨rb,off+l*ei.size,none⟩) (h' - l) (n - l)) hS ?_ ?_
                 · simp [Instr.sliceAt,hu,Instr.sureAddr,hbs,hE.run_size,e,z7c]
                 · simp only [x3]
                   refine ⟨_,_,rfl,by omega,.inr ⟨rb,hφ,rfl,?_⟩⟩
                   have:=zzh hS hk hφ hle.1 (by omega)
                   have e2:off+l*ei.size+(n - l)*ei.size=off+n*ei.size:=by
                    rw [Nat.add_assoc,←Nat.add_mul];congr 2;omega
                   rwa [e2]
             · cases hr
           · cases hr
         · rename_i cs
           split at hr
           · rename_i hle
             simp only [g9,Option.some.injEq] at hr;subst hr
             simp only [x3] at hvx
             obtain ⟨ad,vs,rfl,h1,h2,h3,h4⟩:=hvx
             by_cases e:n=l
             · subst e
               refine d4 (v:=.slice (some ad) (h' - n) (n - n)) hS ?_ ?_
               · simp [Instr.sliceAt,hu,Instr.sureAddr,hbs,hE.run_size]
               · simp only [x3];exact ⟨_,_,rfl,by omega,.inl (by omega)⟩
             · refine d4 (v:=.slice (some ⟨ad.block,ad.off+l*ei.size,none⟩) (h' - l) (n - l)) hS ?_ ?_
               · simp [Instr.sliceAt,hu,Instr.sureAddr,hbs,hE.run_size,e,zdj h1]
               · simp only [x3]
                 exact ⟨_,_,rfl,by omega,.inr ⟨_,_,rfl,rfl,h2,(h3.drop _).take _,(h4.drop _).take _⟩⟩
           · cases hr
         · cases hr
       · cases hr
     · cases hr
   · -- of a slice
     rename_i e hk
     have hd:=z0v (hk▸hT.kind)
     have hu:(underlying t).run P w=.ok (.slice e) w:=by rw [hT.run_und,hd]
     split at hr
     · cases hr
     · rename_i ei he
       obtain ⟨hE⟩:=u5 he
       have hund:P.underlying t=some (.slice e):=by rw [hT.und,hd]
       split at hr
       · split at hr
         · rename_i q hq
           obtain ⟨l,h',z⟩:=q
           simp only [g9,Option.some.injEq] at hr;subst hr
           simp only [x3] at hvx
           obtain ⟨a,rfl⟩:=hvx
           obtain ⟨m,g1,g2,g3,g4,g5,g6⟩:=zmk (P:=P) hlo hhi hmx hq (Nat.le_refl 0)
           refine d4 (v:=.slice a 0 0) hS ?_ (by simp only [x3];exact ⟨_,rfl⟩)
           have e1:l=0:=by omega
           have e2:h'=0:=by omega
           have e3:m=0:=by omega
           subst e1 e2 e3
           simp [Instr.sliceAt,Instr.slice,hu,g1,hE.run_size]
         · cases hr
       · rename_i n cs
         split at hr
         · rename_i l h' z hq
           split at hr
           · rename_i hlen
             simp only [g9,Option.some.injEq] at hr;subst hr
             simp only [x3] at hvx
             obtain ⟨a,c,rfl,hc,hcase⟩:=hvx
             obtain ⟨m,g1,g2,g3,g4,g5,g6⟩:=zmk (P:=P) hlo hhi hmx hq hc
             by_cases em:m=l
             · subst em
               have:h'=m:=by omega
               subst this
               refine d4 (v:=.slice a (h' - h') (h' - h')) hS (by simp [Instr.sliceAt,Instr.slice,hu,g1,hE.run_size]) ?_
               cases z with
               | true=> simp only [cond_true,x3];exact ⟨a,by simp⟩
               | false=> simp only [cond_false,x3];exact ⟨a,_,rfl,by omega,.inl (by omega)⟩
             · have hz:z=false:=by cases z with | false=> rfl | true=> exact absurd (g6 rfl) em
               subst hz
               refine d4 (v:=.slice (a.map (·.add (l*ei.size))) (h' - l) (m - l)) hS (by simp [Instr.sliceAt,Instr.slice,hu,g1,hE.run_size,em]) ?_
               simp only [cond_false,x3]
               refine ⟨_,_,rfl,by omega,?_⟩
               rcases hcase with h0 | ⟨ad,vs,rfl,k1,k2,k3,k4⟩
               · exact .inl (by omega)
               · exact .inr ⟨⟨ad.block,ad.off+l*ei.size,none⟩,_,by simp [zdj k1],rfl,k2,(k3.drop _).take _,(k4.drop _).take _⟩
           · cases hr
         · cases hr
       · rename_i b z' off n
         split at hr
         · rename_i l h' z hq
           split at hr
           · rename_i hz'
             subst hz'
             simp only [g9,Option.some.injEq] at hr;subst hr
             simp only [x3] at hvx
             obtain ⟨a,c,rfl,hc,hcase⟩:=hvx
             obtain ⟨m,g1,g2,g3,g4,g5,g6⟩:=zmk (P:=P) hlo hhi hmx hq hc
             by_cases em:m=l
             · subst em
               have:h'=m:=by omega
               subst this
               refine d4 (v:=.slice a (h' - h') (h' - h')) hS (by simp [Instr.sliceAt,Instr.slice,hu,g1,hE.run_size]) ?_
               cases z with
               | true=> simp only [cond_true,x3];exact ⟨a,by simp⟩
               | false=> simp only [cond_false,x3];exact ⟨a,_,rfl,by omega,.inl (by omega)⟩
             · have hz:z=false:=by cases z with | false=> rfl | true=> exact absurd (g6 rfl) em
               subst hz
               refine d4 (v:=.slice (a.map (·.add (l*ei.size))) (h' - l) (m - l)) hS (by simp [Instr.sliceAt,Instr.slice,hu,g1,hE.run_size,em]) ?_
               simp only [cond_false,x3]
               refine ⟨_,_,rfl,by omega,?_⟩
               rcases hcase with h0 | ⟨rb,hφ,rfl,hR⟩
               · exact .inl (by omega)
               · refine .inr ⟨rb,hφ,by simp [z7c],?_⟩
                 obtain ⟨c0,T,f,k1,k2⟩:=hR
                 refine ⟨c0,T,f,k1,?_⟩
                 have e2:off+l*ei.size+(m - l)*ei.size=off+m*ei.size:=by
                  rw [Nat.add_assoc,←Nat.add_mul];congr 2;omega
                 rw [e2]
                 have:=Nat.mul_le_mul_right ei.size g5
                 omega
           · cases hr
         · cases hr
       · cases hr
   · cases hr
end
end Go.Proofs.Ytimcbhhebnikiaa.Ab
namespace Go.Proofs.Ytimcbhhebnikiaa.Ab
open Go
set_option linter.unusedVariables false
set_option linter.unusedSimpArgs false
section
variable {P : Program} {C : Ctx} {K : Nat → Option AObj} {w : World} {h : AH}
/-! ### Built and made -/
theorem zld (n:Nat) (z:List AV):zct (n+1) z=z++zct n z:=by simp [zct,List.replicate_succ]
theorem zet {α:Type} [Inhabited α] (zs:Array α) (hz:0 < zs.size):∀n,((Array.range (n*zs.size)).map fun i=> zs[i % zs.size]!).toList=(List.replicate n zs.toList).flatten:=by
 intro n
 apply List.ext_getElem?
 intro i
 have hlen:∀n,((List.replicate n zs.toList).flatten).length=n*zs.size:=by
  intro n;induction n with
  | zero=> simp
  | succ n ih=> simp [List.replicate_succ,ih,Nat.add_mul,Nat.add_comm]
 by_cases hi:i < n*zs.size
 · have e1:((Array.range (n*zs.size)).map fun i=> zs[i % zs.size]!).toList[i]? =some (zs[i % zs.size]!):=by
    simp [hi]
   rw [e1]
   have key:∀n i,i < n*zs.size→((List.replicate n zs.toList).flatten)[i]? =some (zs[i % zs.size]!):=by
    intro n
    induction n with
    | zero=> intro i hi;simp at hi
    | succ n ih=>
      intro i hi
      simp only [List.replicate_succ,List.flatten_cons]
      by_cases h1:i < zs.size
      · rw [List.getElem?_append_left (by simpa using h1),Nat.mod_eq_of_lt h1]
        simp [h1]
      · rw [List.getElem?_append_right (by simpa using Nat.le_of_not_lt h1)]
        simp only [Array.length_toList]
        rw [ih _ (by rw [Nat.add_mul,Nat.one_mul] at hi;omega)]
        congr 2
        conv=> rhs;rw [←Nat.sub_add_cancel (Nat.le_of_not_lt h1)]
        simp
   exact (key n i hi).symm
 · rw [List.getElem?_eq_none (by simpa using Nat.le_of_not_lt hi),List.getElem?_eq_none (by rw [hlen];exact Nat.le_of_not_lt hi)]
theorem zef {one:Bool} {z:List AV} {vs:List Value} (hz:LRel C w one z vs):∀n,LRel C w one (zct n z) (List.replicate n vs).flatten
 | 0=> by simpa [zct] using LRel.nil
 | n+1=> by rw [zld,List.replicate_succ,List.flatten_cons];exact hz.append (zef hz n)
theorem zfu (n:Nat) (z:List AV):(zct n z).length=n*z.length:=by
 induction n with
 | zero=> simp [zct]
 | succ n ih=> rw [zld,List.length_append,ih,Nat.add_mul,Nat.one_mul,Nat.add_comm]
theorem zg2 {t e:TypeId} {ti ei:TI} (hS:Sim C K w) (hn:C.φ h.nx=none) (hT:TSpec P t ti) (hk:ti.k=.slice e) (hE:TSpec P e ei) {n:Int} (h0:0≤n) (h1:n≤4294967296) (h2:ei.bytes≤4096)
 (h3:ei.zero.length=ei.size) (h4:0 < ei.size):z5a P C K w h.nx ⟨.rf h.nx ei.size 0 n.toNat,h.new (.cells (zct n.toNat ei.zero)),[],[h.nx]⟩ (Instr.makeSlice t (.int .i64 n) (.int .i64 n)):=by
 have hd:=z0v (hk▸hT.kind)
 have hu:(underlying t).run P w=.ok (.slice e) w:=by rw [hT.run_und,hd]
 have hzs:hE.z.cells.size=ei.size:=by rw [←h3,hE.zeros];simp
 have hw:IntKind.i64.wrap n=n:=by unfold IntKind.wrap IntKind.bits IntKind.signed;simp;omega
 have hb:¬(281474976710656 < (hE.i.bytes:Int)*n):=by
  rw [←hE.bytes]
  have:(ei.bytes:Int)*n≤4096*4294967296:=Int.mul_le_mul (by omega) h1 h0 (by omega)
  omega
 have hrun:(Instr.makeSlice t (.int .i64 n) (.int .i64 n)).run P w=.ok (.slice (some ⟨w.heap.size,0,none⟩) n.toNat n.toNat) (z3t w (Obj.cells (List.replicate n.toNat hE.z.cells.toList).flatten.toArray e (0,0))):=by
  by_cases hz:n=0
  · subst hz
    simp [Instr.makeSlice,hu,asInt,asIntOf,hE.run_info,hw,newRow,z3t,hE.run_size]
    congr 2
    simp [Array.range]
  · have h5:¬(n.toNat*ei.size=0):=by
     have:0 < n.toNat*ei.size:=Nat.mul_pos (by omega) h4
     omega
    have h6:¬n < 0:=by omega
    have h7:¬n≤0:=by omega
    have rm:=zet hE.z.cells (by omega) n.toNat
    rw [hzs] at rm
    simp [Instr.makeSlice,hu,asInt,asIntOf,hE.run_info,hw,newRow,z3t,hE.run_size,hE.run_zero,h6,hb,h5,hzs,h7,Nat.ne_of_gt h4]
    congr 2
    apply Array.ext'
    simpa using rm
 obtain ⟨g1,g2,g3⟩:=zgd (K':=K) (rest:=[]) (e:=e) (z:=ei.size) (N:=n.toNat) (q:=n.toNat) (cs:=zct n.toNat ei.zero) (vs:=(List.replicate n.toNat hE.z.cells.toList).flatten) hS hn ⟨rfl,rfl⟩
  (zef (by rw [hE.zeros];exact z2m C w _ hE.ones) _) (Nat.le_refl _) (by
    have:=zfu n.toNat ei.zero
    rw [h3] at this
    have l:=(zef (C:=C) (w:=w) (one:=true) (z:=ei.zero) (vs:=hE.z.cells.toList) (by rw [hE.zeros];exact z2m C w _ hE.ones) n.toNat).length
    rw [List.append_nil,←l,this];exact Nat.le_refl _)
 rw [List.append_nil] at g1 g2 g3
 refine ⟨_,_,_,hrun,g1,g2,g3.congr fun b=> ?_,fun b hb hne=> by simp [Ctx.with,hne.resolve_right (by simp),hb]⟩
 simp only [List.mem_singleton,z1i,AH.get_new]
 by_cases e:b=h.nx
 · subst e;simp [z6e]
 · simp [e]
theorem zky {T:Tm} {a:Act} {parts:Array (Nat×Operand)} (hT:∀p∈parts.toList,z8o C w T a p.2):
 (∀i:Nat,((parts.toList.map fun p=> (p.1,ev T p.2))[i]?).map (fun p:Nat×AV=> p.1)=(((parts.map fun (i,x)=> (i,a.eval x)).toList)[i]?).map (fun p:Nat×Value=> p.1))∧
 (∀(i:Nat) (p:Nat×AV) (q:Nat×Value),(parts.toList.map fun p=> (p.1,ev T p.2))[i]? =some p→((parts.map fun (i,x)=> (i,a.eval x)).toList)[i]? =some q→x3 C w p.2 q.2):=by
 refine ⟨fun i=> ?_,fun i p q hp hq=> ?_⟩
 · simp only [Array.toList_map,List.getElem?_map,Option.map_map]
   cases parts.toList[i]? <;> rfl
 · simp only [Array.toList_map,List.getElem?_map] at hp hq
   cases hx:parts.toList[i]? with
   | none=> rw [hx] at hp;cases hp
   | some x=>
     rw [hx] at hp hq
     simp only [Option.map_some,Option.some.injEq] at hp hq
     subst hp hq
     exact z07 (hT x (List.mem_of_getElem? hx))
theorem zg4 {gs:Array Field} {fs:List (Nat×Nat×Bool)} (hm:gs.toList.mapM (zb6 P)=some fs):
 (gs.mapM fun f=> (do pure (f.offset,←sizeOf f.type):Sem (Nat×Nat))).run P w=.ok (fs.map fun f=> (f.1,f.2.1)).toArray w:=by
 rw [←Array.toArray_toList (xs:=gs),List.mapM_toArray]
 generalize gs.toList=l at hm
 have key:∀(l:List Field) (fs:List (Nat×Nat×Bool)),l.mapM (zb6 P)=some fs→
  (l.mapM fun f=> (do pure (f.offset,←sizeOf f.type):Sem (Nat×Nat))).run P w=.ok (fs.map fun f=> (f.1,f.2.1)) w:=by
  intro l
  induction l with
  | nil=> intro fs hm;simp at hm;subst hm;simp
  | cons g l ih=>
    intro fs hm
    rw [List.mapM_cons] at hm
    cases hg:zb6 P g with
    | none=> rw [hg] at hm;simp at hm
    | some y=>
      rw [hg] at hm
      cases hl:l.mapM (zb6 P) with
      | none=> rw [hl] at hm;simp at hm
      | some r=>
        rw [hl] at hm
        simp at hm;subst hm
        unfold zb6 at hg
        split at hg
        · rename_i fi fd h1 h2
          injection hg with hg;subst hg
          have:=ih r hl
          simp only [List.mapM_cons,Sem.run_bind,zbs h1,Result.andThen_ok,this,Sem.run_pure,List.map_cons]
        · cases hg
 have:=key l fs hm
 rw [Sem.run_map,this]
 rfl
theorem zvw {T:Tm} {a:Act} {t:TypeId} {parts:Array (Nat×Operand)} {r:OR} (hS:Sim C K w) (hr:aOp P h T (.build t parts)=some r) (hT:∀p∈parts.toList,z8o C w T a p.2) {n:Nat}:
 z5a P C K w n r (Instr.build t (parts.map fun (i,x)=> (i,a.eval x))):=by
 obtain ⟨p1,p2⟩:=zky (C:=C) (w:=w) hT
 simp only [aOp] at hr
 split at hr
 · rename_i ti ht
   obtain ⟨hTy⟩:=u5 ht
   split at hr
   · rename_i fs hk
     obtain ⟨gs,hd,hm⟩:=zcc (hk▸hTy.kind)
     split at hr
     · rename_i cs hcs
       simp only [g9,Option.some.injEq] at hr;subst hr
       obtain ⟨vs,g1,g2⟩:=zdn _ _ _ cs hTy.z.cells.toList p1 p2 (by rw [hTy.zeros];exact z2m C w _ hTy.ones) hcs
       refine d4 (v:=.agg vs.toArray) hS ?_ (by simp only [x3];exact ⟨vs,rfl,g2⟩)
       have hu:(underlying t).run P w=.ok (.struct gs) w:=by rw [hTy.run_und,hd]
       have e1:(fun i:Nat=> (fs[i]?).map fun f:Nat×Nat×Bool=> (f.1,f.2.1))=(fun i:Nat=> ((fs.map fun f:Nat×Nat×Bool=> (f.1,f.2.1)).toArray)[i]?):=by
        funext i;simp
       rw [e1] at g1
       simp only [Array.toArray_toList] at g1
       simp only [Instr.build,Sem.run_bind,hTy.run_zero,Result.andThen_ok,hu,zg4 hm,g1]
       rfl
     · cases hr
   · rename_i m e hk
     have hd:=z3x (hk▸hTy.kind)
     split at hr
     · rename_i ei he
       obtain ⟨hE⟩:=u5 he
       split at hr
       · rename_i cs hcs
         simp only [g9,Option.some.injEq] at hr;subst hr
         obtain ⟨vs,g1,g2⟩:=zdn _ _ _ cs hTy.z.cells.toList p1 p2 (by rw [hTy.zeros];exact z2m C w _ hTy.ones) hcs
         refine d4 (v:=.agg vs.toArray) hS ?_ (by simp only [x3];exact ⟨vs,rfl,g2⟩)
         have hu:(underlying t).run P w=.ok (.array m e) w:=by rw [hTy.run_und,hd]
         simp only [Array.toArray_toList] at g1
         simp only [Instr.build,Sem.run_bind,hTy.run_zero,Result.andThen_ok,hu,hE.run_size,g1]
         rfl
       · cases hr
     · cases hr
   · cases hr
 · cases hr
theorem zjv {T:Tm} {a:Act} {t:TypeId} {len:Nat} {parts:Array (Nat×Operand)} {r:OR} (hS:Sim C K w) (hn:r.h.nx≠h.nx→C.φ h.nx=none) (hr:aOp P h T (.buildSlice t len parts)=some r) (hT:∀p∈parts.toList,z8o C w T a p.2):
 z5a P C K w h.nx r (Instr.buildSlice t len (parts.map fun (i,x)=> (i,a.eval x))):=by
 obtain ⟨p1,p2⟩:=zky (C:=C) (w:=w) hT
 simp only [aOp] at hr
 split at hr
 · rename_i ti ht
   obtain ⟨hTy⟩:=u5 ht
   split at hr
   · rename_i e hk
     have hd:=z0v (hk▸hTy.kind)
     have hu:(underlying t).run P w=.ok (.slice e) w:=by rw [hTy.run_und,hd]
     split at hr
     · rename_i ei he
       obtain ⟨hE⟩:=u5 he
       split at hr
       · rename_i hb
         obtain ⟨h1,h2,h3⟩:=hb
         have hzs:hE.z.cells.size=ei.size:=by rw [←h2,hE.zeros];simp
         have h1':¬(16777216 < len*ei.size):=by omega
         split at hr
         · rename_i h0
           subst h0
           split at hr
           · rename_i hp
             simp only [g9,Option.some.injEq] at hr;subst hr
             have hpe:parts=#[]:=Array.size_eq_zero_iff.1 hp
             subst hpe
             refine ⟨.slice (some ⟨w.heap.size,0,none⟩) 0 0,C,z3t w (Obj.cells #[] e (0,0)),?_,by simp only [x3];exact ⟨_,rfl⟩,zd1 hS _,by simpa using zlb hS _,fun b hb _=> hb⟩
             simp [Instr.buildSlice,hu,hE.run_size,Instr.fill,newRow,z3t]
             congr 2
             simp [Array.range]
           · cases hr
         · rename_i h0
           split at hr
           · rename_i cs hcs
             injection hr with hr;subst hr
             have h5:¬(len*ei.size=0):=by
              have:0 < len*ei.size:=Nat.mul_pos (by omega) h3
              omega
             have rm:=zet hE.z.cells (by omega) len
             rw [hzs] at rm
             obtain ⟨vs,g1,g2⟩:=zdn _ _ _ cs (List.replicate len hE.z.cells.toList).flatten p1 p2 (zef (by rw [hE.zeros];exact z2m C w _ hE.ones) len) hcs
             have hfl:∀(parts:List (Nat×AV)) (cells out:List AV),z7x (fun i=> some (i*ei.size,ei.size)) cells parts=some out→out.length=cells.length:=by
              intro parts
              induction parts with
              | nil=> intro cells out hf;simp only [z7x,Option.some.injEq] at hf;rw [hf]
              | cons p parts ih=>
                intro cells out hf
                simp only [z7x] at hf
                split at hf
                · split at hf
                  · rename_i hle
                    rw [ih _ _ hf]
                    unfold Ab.over
                    rw [zqx _ _ _ hle.2]
                  · cases hf
                · cases hf
             have hcl:cs.length=len*ei.size:=by rw [hfl _ _ _ hcs,zfu,h2]
             obtain ⟨k1,k2,k3⟩:=zgd (K':=K) (rest:=[]) (e:=e) (z:=ei.size) (N:=len) (q:=len) (cs:=cs) (vs:=vs) hS (hn (by simp)) ⟨rfl,rfl⟩ g2 (Nat.le_refl _) (by rw [List.append_nil,←g2.length,hcl];exact Nat.le_refl _)
             rw [List.append_nil] at k1 k2 k3
             refine ⟨_,_,_,?_,k1,k2,k3.congr fun b=> ?_,fun b hb hne=> by simp [Ctx.with,hne.resolve_right (by simp),hb]⟩
             · have hz0:hE.z.cells.size≠0:=by omega
               have e2:((Array.range (len*ei.size)).map fun i=> hE.z.cells[i % hE.z.cells.size]!)=(List.replicate len hE.z.cells.toList).flatten.toArray:=by
                rw [hzs];apply Array.ext';simpa using rm
               simp only [Array.toArray_toList] at g1
               simp only [Instr.buildSlice,Sem.run_bind,hu,Result.andThen_ok,hE.run_size]
               rw [if_neg h1',if_neg h5]
               simp only [Sem.run_bind,hE.run_zero,Result.andThen_ok,Sem.run_pure,e2,g1]
               simp [newRow,z3t]
             · simp only [List.mem_singleton,z1i,AH.get_new]
               by_cases e:b=h.nx
               · subst e;simp [z6e]
               · simp [e]
           · cases hr
       · cases hr
     · cases hr
   · cases hr
 · cases hr
end
end Go.Proofs.Ytimcbhhebnikiaa.Ab
namespace Go.Proofs.Ytimcbhhebnikiaa.Ab
open Go
set_option linter.unusedVariables false
set_option linter.unusedSimpArgs false
section
variable {P : Program} {C : Ctx} {K : Nat → Option AObj} {w : World} {h : AH}
/-! ### Numbers -/
theorem zhm {k:IntKind} {op:BinOp} {a b:Int} {x:AV} (hx:zio k op a b=some x) (t:TypeId):∃v,(binOp op t (.int k a) (.int k b)).run P w=.ok v w∧x3 C w x v:=by
 cases op <;> simp only [zio] at hx
 case add=> injection hx with hx;subst hx;exact ⟨_,by simp [binOp,Op.intArith] <;> rfl,z3u C w k _⟩
 case sub=> injection hx with hx;subst hx;exact ⟨_,by simp [binOp,Op.intArith] <;> rfl,z3u C w k _⟩
 case mul=> injection hx with hx;subst hx;exact ⟨_,by simp [binOp,Op.intArith] <;> rfl,z3u C w k _⟩
 case quo=>
  split at hx
  · cases hx
  · rename_i h0;injection hx with hx;subst hx;exact ⟨_,by simp [binOp,Op.intDiv,h0] <;> rfl,z3u C w k _⟩
 case rem=>
  split at hx
  · cases hx
  · rename_i h0;injection hx with hx;subst hx;exact ⟨_,by simp [binOp,Op.intDiv,h0] <;> rfl,z3u C w k _⟩
 case and=> injection hx with hx;subst hx;exact ⟨_,by simp [binOp,Op.intBits] <;> rfl,z3u C w k _⟩
 case or=> injection hx with hx;subst hx;exact ⟨_,by simp [binOp,Op.intBits] <;> rfl,z3u C w k _⟩
 case xor=> injection hx with hx;subst hx;exact ⟨_,by simp [binOp,Op.intBits] <;> rfl,z3u C w k _⟩
 case eql=> injection hx with hx;subst hx;exact ⟨_,by simp [binOp,Op.intCmp] <;> rfl,by simp only [x3]⟩
 case neq=> injection hx with hx;subst hx;exact ⟨_,by simp [binOp,Op.intCmp] <;> rfl,by simp only [x3]⟩
 case lss=> injection hx with hx;subst hx;exact ⟨_,by simp [binOp,Op.intCmp] <;> rfl,by simp only [x3]⟩
 case leq=> injection hx with hx;subst hx;exact ⟨_,by simp [binOp,Op.intCmp] <;> rfl,by simp only [x3]⟩
 case gtr=> injection hx with hx;subst hx;exact ⟨_,by simp [binOp,Op.intCmp] <;> rfl,by simp only [x3]⟩
 case geq=> injection hx with hx;subst hx;exact ⟨_,by simp [binOp,Op.intCmp] <;> rfl,by simp only [x3]⟩
 all_goals cases hx
theorem y38 {op:UnOp} {x y:AV} {v:Value} (hx:un op x=some y) (hv:x3 C w x v):∃u,(Op.unary op v).run P w=.ok u w∧x3 C w y u:=by
 unfold un at hx
 split at hx
 · rename_i a
   injection hx with hx;subst hx
   have e:v=.bool a:=by simpa only [x3] using hv
   subst e
   exact ⟨.bool !a,by simp [Op.unary],by simp only [x3]⟩
 · rename_i a
   injection hx with hx;subst hx
   have e:v=.int .i64 a:=by simpa only [x3] using hv
   subst e
   exact ⟨.int .i64 (IntKind.i64.wrap (0 - a)),by simp [Op.unary,Op.intArith],by simp only [x3]⟩
 · cases hx
/-! ### Cells told alike -/
theorem zrj {x y:AV} {u v:Value} {r:Bool} (he:zih x y=some r) (hx:x3 C w x u) (hy:x3 C w y v):
 ∃k a b,u=.int k a∧v=.int k b∧r=(a==b):=by
 unfold zih at he
 split at he
 · rename_i a b
   injection he with he;subst he
   have e1:u=.int .i64 a:=by simpa only [x3] using hx
   have e2:v=.int .i64 b:=by simpa only [x3] using hy
   exact ⟨_,_,_,e1,e2,rfl⟩
 · rename_i a b
   injection he with he;subst he
   have e1:u=.int .u8 a.toNat:=by simpa only [x3] using hx
   have e2:v=.int .u8 b.toNat:=by simpa only [x3] using hy
   refine ⟨_,_,_,e1,e2,?_⟩
   rw [Bool.eq_iff_iff]
   simp only [beq_iff_eq]
   constructor
   · rintro rfl;rfl
   · intro h;exact UInt8.toNat.inj (by omega)
 · cases he
/-! ### Conversions -/
theorem zft:∀{cs:List AV} {l:List UInt8} {vs:List Value},g0 cs=some l→LRel C w true cs vs→vs=l.map fun b=> .int .u8 b.toNat
 | [],l,vs,hb,hl=> by simp only [g0,Option.some.injEq] at hb;subst hb;simp only [LRel] at hl;subst hl;rfl
 | x::cs,l,vs,hb,hl=> by
   simp only [LRel] at hl
   obtain ⟨v,r,rfl,_,hv,hl⟩:=hl
   cases x with
   | y b=>
     simp only [g0] at hb
     cases hq:g0 cs with
     | none=> rw [hq] at hb;cases hb
     | some q=>
       rw [hq] at hb
       simp only [Option.map_some,Option.some.injEq] at hb;subst hb
       have e:v=.int .u8 b.toNat:=by simpa only [x3] using hv
       rw [e,zft hq hl];rfl
   | _=> simp [g0] at hb
theorem zsa (l:List UInt8):∀s:ByteArray,(l.map fun b=> ((b.toNat:Nat):Int)).foldl (fun r n=> r.push (UInt8.ofNat n.toNat)) s=⟨(s.data.toList++l).toArray⟩:=by
 induction l with
 | nil=> intro s;cases s;simp
 | cons b l ih=>
   intro s
   simp only [List.map_cons,List.foldl_cons]
   rw [ih]
   cases s
   simp [ByteArray.push]
theorem zxg {src dst:TypeId} {x:AV} {v:Value} {r:OR} (hS:Sim C K w) (hr:conv P h src dst x=some r) (hK:∀b∈r.rd,K b=h.get b) (hv:x3 C w x v) {n:Nat}:z5a P C K w n r (convert src dst v):=by
 unfold conv at hr
 split at hr
 · rename_i s d hs hd
   obtain ⟨hsT⟩:=u5 hs
   obtain ⟨hdT⟩:=u5 hd
   split at hr
   · rename_i k k' hk hk'
     split at hr
     · rename_i m hm
       simp only [g9,Option.some.injEq] at hr;subst hr
       obtain ⟨kk,rfl⟩:=zmd hm hv
       have e1:=z9w (hk▸hdT.kind)
       refine d4 hS ?_ (z3u C w k _)
       have hu1:(underlying dst).run P w=.ok (.int k) w:=by rw [hdT.run_und,e1]
       simp [convert,hsT.run_und,hu1,Conv.intToInt]
     · cases hr
   · rename_i e hk hk'
     split at hr
     · rename_i ei he
       obtain ⟨hE⟩:=u5 he
       split at hr
       · rename_i hek
         split at hr
         · rename_i m cs rd hsl
           have hbk:=z9w (hek▸hE.kind)
           have e1:=z8d (hk▸hdT.kind)
           have e2:=z0v (hk'▸hsT.kind)
           have u1:P.underlying dst=some .string:=by rw [hdT.und,e1]
           have u2:P.underlying src=some (.slice e):=by rw [hsT.und,e2]
           have u3:P.underlying e=some (.int .u8):=by rw [hE.und,hbk]
           have hnst:∀l,x≠.st l:=by
            intro l e;subst e;simp [z0a] at hsl
           obtain ⟨l,hb,hr⟩:∃l,g0 cs=some l∧r=⟨.st l,h,rd,[]⟩:=by
            split at hr
            · rename_i l hb;injection hr with hr;exact ⟨l,hb,hr.symm⟩
            · cases hr
           subst hr
           obtain ⟨vs,l1,l2,l3,l4⟩:=z3q (P:=P) hS hsl hK hv
           have hvs:=zft hb l1
           obtain ⟨a,c,rfl⟩:∃a c,v=.slice a m c:=by
            cases x with
            | nl=> simp only [z0a,Option.some.injEq,Prod.mk.injEq] at hsl;obtain ⟨rfl,_⟩:=hsl;simp only [x3] at hv;obtain ⟨a,rfl⟩:=hv;exact ⟨a,0,rfl⟩
            | sl n' ds=> simp only [z0a] at hsl;split at hsl
                         · simp only [Option.some.injEq,Prod.mk.injEq] at hsl;obtain ⟨rfl,_⟩:=hsl;simp only [x3] at hv;obtain ⟨a,c,rfl,_⟩:=hv;exact ⟨a,c,rfl⟩
                         · cases hsl
            | rf b z o n'=>
              simp only [z0a] at hsl
              split at hsl
              · split at hsl
                · split at hsl
                  · simp only [Option.some.injEq,Prod.mk.injEq] at hsl;obtain ⟨rfl,_⟩:=hsl;simp only [x3] at hv;obtain ⟨a,c,rfl,_⟩:=hv;exact ⟨a,c,rfl⟩
                  · cases hsl
                · cases hsl
              · cases hsl
            | _=> simp [z0a] at hsl
           have h4:=l4 m (Nat.le_refl _) w rfl
           have hml:vs.length=m*1:=by rw [←l1.length,l2]
           rw [←hml,List.take_length] at h4
           refine d4 (v:=.string ⟨l.toArray⟩) hS ?_ (by simp only [x3])
           rw [run_convert_bytes_string w src dst e a m c u2 u3 u1]
           cases a with
           | none=>
             have:vs=[]:=by
              simp only [Builtin.firstCells,Sem.run_pure,Result.ok.injEq] at h4
              have:=h4.1
              simpa using this.symm
             subst this
             have:l=[]:=by cases l with | nil=> rfl | cons _ _=> simp at hvs
             subst this
             simp [Conv.bytesToString];rfl
           | some a=>
             simp only [Builtin.firstCells,Nat.mul_one] at h4
             have h5:(loadCells a m).run P w=.ok ((l.map fun b=> ((b.toNat:Nat):Int)).map (Value.int .u8)).toArray w:=by
              rw [h4,hvs];simp [Function.comp_def]
             rw [run_bytesToString w a m c _ h5,zsa]
             rfl
         · cases hr
       · cases hr
     · cases hr
   · cases hr
 · cases hr
/-! ### Lengths, least and greatest -/
theorem zyx {x:AV} {v:Value} {n:Nat} (hl:zo1 x=some n) (hv:x3 C w x v):(∃a c,v=.slice a n c)∨∃l,x=.st l:=by
 cases x with
 | nl=> simp only [zo1,Option.some.injEq] at hl;subst hl;simp only [x3] at hv;obtain ⟨a,rfl⟩:=hv;exact .inl ⟨a,0,rfl⟩
 | sl m cs=> simp only [zo1,Option.some.injEq] at hl;subst hl;simp only [x3] at hv;obtain ⟨a,c,rfl,_⟩:=hv;exact .inl ⟨a,c,rfl⟩
 | rf b z o m=> simp only [zo1,Option.some.injEq] at hl;subst hl;simp only [x3] at hv;obtain ⟨a,c,rfl,_⟩:=hv;exact .inl ⟨a,c,rfl⟩
 | st l=> exact .inr ⟨l,rfl⟩
 | _=> simp [zo1] at hl
theorem zpc:∀{xs:List AV} {vs:List Value} {a m:Int},zs8 a xs=some m→LRel C w false xs vs→(vs.foldlM Builtin.min2 (.int .i64 a)).run P w=.ok (.int .i64 m) w
 | [],vs,a,m,hm,hl=> by simp only [LRel] at hl;subst hl;simp only [zs8,Option.some.injEq] at hm;subst hm;simp
 | x::xs,vs,a,m,hm,hl=> by
   simp only [LRel] at hl
   obtain ⟨v,r,rfl,_,hv,hl⟩:=hl
   cases x with
   | i b=>
     simp only [zs8] at hm
     have e:v=.int .i64 b:=by simpa only [x3] using hv
     subst e
     simp only [List.foldlM_cons,Sem.run_bind,Builtin.min2,Sem.run_pure,Result.andThen_ok]
     exact zpc hm hl
   | _=> simp [zs8] at hm
theorem zq6:∀{xs:List AV} {vs:List Value} {a m:Int},zsx a xs=some m→LRel C w false xs vs→(vs.foldlM Builtin.max2 (.int .i64 a)).run P w=.ok (.int .i64 m) w
 | [],vs,a,m,hm,hl=> by simp only [LRel] at hl;subst hl;simp only [zsx,Option.some.injEq] at hm;subst hm;simp
 | x::xs,vs,a,m,hm,hl=> by
   simp only [LRel] at hl
   obtain ⟨v,r,rfl,_,hv,hl⟩:=hl
   cases x with
   | i b=>
     simp only [zsx] at hm
     have e:v=.int .i64 b:=by simpa only [x3] using hv
     subst e
     simp only [List.foldlM_cons,Sem.run_bind,Builtin.max2,Sem.run_pure,Result.andThen_ok]
     exact zq6 hm hl
   | _=> simp [zsx] at hm
/-! ### copy -/
theorem zuh {t:TypeId} {ts:Array TypeId} {d x:AV} {r:OR} {vd vx:Value} (hS:Sim C K w) (hts:ts[0]? =some t) (hr:zje P h t d x=some r) (hK:∀b∈r.rd,K b=h.get b) (hvd:x3 C w d vd) (hvx:x3 C w x vx) {ty:TypeId} {n0:Nat}:
 z5a P C K w n0 r (Builtin.copy_ ts ty #[vd,vx]):=by
 unfold zje at hr
 split at hr
 · rename_i ti ht
   split at hr
   · rename_i e hk
     split at hr
     · rename_i ei he
       obtain ⟨hT⟩:=u5 ht
       obtain ⟨hE⟩:=u5 he
       have hd:=z0v (hk▸hT.kind)
       have hund:(underlying t).run P w=.ok (.slice e) w:=by rw [hT.run_und,hd]
       split at hr
       · rename_i n new rd b z off m hsl
         split at hr
         · rename_i cs hcs
           split at hr
           · rename_i hb
             obtain ⟨rfl,hle⟩:=hb
             injection hr with hr;subst hr
             obtain ⟨ns,l1,l2,l3,l4⟩:=z3q (P:=P) hS hsl (fun b' hb'=> hK b' (by simp [hb'])) hvx
             have hkb:K b=some (.cells cs):=by rw [hK b (by simp)];exact z6a hcs
             have hnl:ns.length=n*ei.size:=by rw [←l1.length,l2]
             have hcells:=l4 (min n m) (Nat.min_le_left _ _) w rfl
             have hmm:Nat.min n m=min n m:=rfl
             simp only [x3] at hvd
             obtain ⟨a,c,rfl,hmc,hcap⟩:=hvd
             have hupd:∀x,(if x∈[b] then (h.put b (.cells (over cs off (new.take (min n m*ei.size))))).get x else K x)=z1i K b (some (.cells (over cs off (new.take (min n m*ei.size))))) x:=by
              intro x
              simp only [List.mem_singleton,z1i,AH.get_put]
              by_cases e:x=b
              · subst e;simp [z6e]
              · simp [e]
             rcases hcap with h0 | ⟨rb,hφ,rfl,hR⟩
             · have hm0:m=0:=by omega
               subst hm0
               refine ⟨.int .i64 ((min n 0:Nat):Int),C,w,?_,by simp only [x3],Step.refl C w,?_,fun b hb _=> hb⟩
               · have hz:(Builtin.firstCells ei.size 0 vx).run P w=.ok #[] w:=by simpa using l4 0 (Nat.zero_le _) w rfl
                 cases a <;> simp [Builtin.copy_,hts,hund,l3,hE.run_size,hz,goInt,storeCells]
               · refine hS.congr fun x=> ?_
                 rw [hupd]
                 unfold z1i
                 split
                 · rename_i e;subst e
                   rw [hkb]
                   simp [Ab.over]
                 · rfl
             · have hl2:=(l1.take (min n m*ei.size))
               have hfit:off+(new.take (min n m*ei.size)).length≤cs.length:=by
                rw [List.length_take]
                have:min n m*ei.size≤m*ei.size:=Nat.mul_le_mul_right _ (Nat.min_le_right _ _)
                omega
               obtain ⟨w',k1,k2,k3⟩:=znt (P:=P) hS hkb hφ hl2 hfit
               refine ⟨.int .i64 ((min n m:Nat):Int),C,w',?_,by simp only [x3],k2,k3.congr hupd,fun b hb _=> hb⟩
               simp only [Builtin.copy_,hts,List.getElem?_toArray,List.getElem?_cons_zero,List.getElem?_cons_succ,Sem.run_bind,hund,l3,Result.andThen_ok,hE.run_size,hmm,hcells]
               simp [k1,goInt]
           · cases hr
         · cases hr
       · cases hr
     · cases hr
   · cases hr
 · cases hr
end
end Go.Proofs.Ytimcbhhebnikiaa.Ab
