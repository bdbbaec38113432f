/- The law 'StateDoes': it returns true, and nothing that was there changes. No condition. (Part 4 of 12.) -/
import Derived.Test.YtimcbhhebnikiaaSd3
import Derived.ChangeKeysEq
import Derived.Laws.StructEq
namespace Go.Proofs.Ytimcbhhebnikiaa.Ab
open Go
set_option linter.unusedVariables false
set_option linter.unusedSimpArgs false
section
variable {P : Program} {C : Ctx} {K : Nat → Option AObj} {w : World} {h : AH}
def z68 (P:Program) (t:TypeId) (us:List Value):Value:=if ((P.underlying t).map z2i)=some true then .agg us.toArray else us.headD undef
theorem z76:∀{a c:List AV} {b d:List AV} {r:Bool},a.length=c.length→z0n (a++b) (c++d)=some r→∃r1 r2,z0n a c=some r1∧z0n b d=some r2∧r=(r1 && r2)
 | [],[],b,d,r,_,h=> ⟨true,r,rfl,h,by simp⟩
 | x::a,y::c,b,d,r,hl,h=> by
   simp only [List.cons_append,z0n] at h
   split at h
   · rename_i r1 r2 h1 h2
     injection h with h;subst h
     obtain ⟨q1,q2,g1,g2,rfl⟩:=z76 (by simpa using hl) h2
     exact ⟨r1 && q1,q2,by simp [z0n,h1,g1],g2,by cases r1 <;> simp⟩
   · cases h
 | [],y::c,b,d,r,hl,h=> by simp at hl
 | x::a,[],b,d,r,hl,h=> by simp at hl
theorem z8s {t:TypeId} {i:TypeInfo} {d:TypeDesc} (hi:P.info? t=some i) (hd:P.underlying t=some d) {us:List Value} {off:Nat} (hle:off+i.size≤us.length) (h1:z2i d=false→i.size=1):
 (part t us.toArray off).run P w=.ok (z68 P t ((us.drop off).take i.size)) w:=by
 have hag:(isAgg t).run P w=.ok (z2i d) w:=by
  simp only [isAgg,Sem.run_bind,z97 hd,Result.andThen_ok]
  cases d <;> rfl
 unfold z68
 rw [hd]
 cases hx:z2i d with
 | true=>
   simp only [part,Sem.run_bind,hag,hx,Result.andThen_ok,if_true,zbs hi,Sem.run_pure,Option.map_some]
   congr 2
   apply Array.ext'
   rw [Array.toList_extract]
   simp [List.extract]
 | false=>
   have hs:=h1 hx
   rw [hs] at hle⊢
   have hlt:off < us.length:=by omega
   simp only [part,Sem.run_bind,hag,hx,Result.andThen_ok,Bool.false_eq_true,if_false,Option.map_some,Option.some.injEq]
   have:us.toArray[off]? =some us[off]:=by simp [hlt]
   rw [this]
   simp only [Sem.run_pure]
   congr 1
   rw [List.drop_eq_getElem_cons hlt]
   rfl
theorem zj0 {k:Nat} {t:TypeId} {s:Nat} (hf:z53 P k t=some s):∃i d,P.info? t=some i∧P.underlying t=some d∧i.size=s∧(z2i d=false→i.size=1):=by
 cases k with
 | zero=> simp [z53] at hf
 | succ k=>
   simp only [z53] at hf
   split at hf
   · rename_i i kk h1 h2;split at hf
     · rename_i h3;injection hf with hf;exact ⟨i,_,h1,h2,by omega,fun _=> h3⟩
     · cases hf
   · rename_i i n e h1 h2
     split at hf
     · split at hf
       · injection hf with hf;exact ⟨i,_,h1,h2,hf,fun hx=> by cases hx⟩
       · cases hf
     · cases hf
   · rename_i i fs h1 h2
     split at hf
     · injection hf with hf;exact ⟨i,_,h1,h2,hf,fun hx=> by cases hx⟩
     · cases hf
   · cases hf
theorem ztr:∀(k:Nat) (t:TypeId) (s:Nat),z53 P k t=some s→∀(D:Nat),k≤D→∀(cs ds:List AV) (us vs:List Value) (r:Bool),LRel C w true cs us→LRel C w true ds vs→cs.length=s→ds.length=s→
 z0n cs ds=some r→(Op.equalIn D t (z68 P t us) (z68 P t vs)).run P w=.ok r w:=by
 intro k
 induction k with
 | zero=> intro t s hf;simp [z53] at hf
 | succ k ih=>
   intro t s hf D hD cs ds us vs r hu hv hcs hds he
   obtain ⟨D,rfl⟩:∃m,D=m+1:=⟨D - 1,by omega⟩
   simp only [z53] at hf
   split at hf
   · rename_i i q h1 h2
     split at hf
     · injection hf with hf
       subst hf
       obtain ⟨c,rfl⟩:∃c,cs=[c]:=by cases cs with | nil=> simp at hcs | cons c l=> cases l with | nil=> exact ⟨c,rfl⟩ | cons _ _=> simp at hcs
       obtain ⟨d,rfl⟩:∃d,ds=[d]:=by cases ds with | nil=> simp at hds | cons c l=> cases l with | nil=> exact ⟨c,rfl⟩ | cons _ _=> simp at hds
       obtain ⟨u,rfl,hu1,_⟩:=hu.one1
       obtain ⟨v,rfl,hv1,_⟩:=hv.one1
       simp only [z0n] at he
       split at he
       · rename_i x y hx hy
         injection he with he
         injection hy with hy
         subst hy he
         have hva:z68 P t [u]=u∧z68 P t [v]=v:=by simp [z68,h2,z2i]
         rw [hva.1,hva.2,Bool.and_true]
         obtain ⟨kk,a,b,rfl,rfl,rfl⟩:=zrj hx hu1 hv1
         exact run_equalIn_int w D t kk q a b h2
       · cases he
     · cases hf
   · rename_i i n e h1 h2
     split at hf
     · rename_i s0 ie h3 h4
       split at hf
       · rename_i h5
         injection hf with hf
         subst hf
         obtain ⟨rfl,h6⟩:=h5
         have hva:∀us:List Value,z68 P t us=.agg us.toArray:=by intro us;simp [z68,h2,z2i]
         rw [hva,hva,run_equalIn_array w D _ _ h2 h4]
         obtain ⟨ie',de,q1,q2,q3,q4⟩:=zj0 h3
         have hie:ie'=ie:=by rw [h4] at q1;injection q1 with q1;exact q1.symm
         subst hie
         have hco:P.cellsOf e=ie'.size:=by simp [Program.cellsOf,h4]
         have hul:=hu.length
         have hvl:=hv.length
         have key:∀(m j:Nat) (r:Bool),j+m=n→z0n (cs.drop (j*ie'.size)) (ds.drop (j*ie'.size))=some r→
          (Op.eqItems D e (P.cellsOf e) us.toArray vs.toArray (List.range' j m)).run P w=.ok r w:=by
          intro m
          induction m with
          | zero=>
            intro j r hj hr
            have e1:cs.drop (j*ie'.size)=[]:=(fun hjn:j=n=> by subst hjn;rw [List.drop_eq_nil_iff,hcs,h6];exact Nat.le_refl _) (by omega)
            have e2:ds.drop (j*ie'.size)=[]:=(fun hjn:j=n=> by subst hjn;rw [List.drop_eq_nil_iff,hds,h6];exact Nat.le_refl _) (by omega)
            rw [e1,e2] at hr
            simp only [z0n,Option.some.injEq] at hr
            subst hr
            simp [Op.eqItems]
          | succ m ihm=>
            intro j r hj hr
            have hle:j*ie'.size+ie'.size≤i.size:=by
             rw [h6,←Nat.succ_mul];exact Nat.mul_le_mul_right _ (by omega)
            have sp:∀l:List AV,l.drop (j*ie'.size)=(l.drop (j*ie'.size)).take ie'.size++l.drop ((j+1)*ie'.size):=by
             intro l
             rw [Nat.succ_mul,←List.drop_drop,List.take_append_drop]
            rw [sp cs,sp ds] at hr
            have t1:((cs.drop (j*ie'.size)).take ie'.size).length=ie'.size:=by simp;omega
            have t2:((ds.drop (j*ie'.size)).take ie'.size).length=ie'.size:=by simp;omega
            obtain ⟨r1,r2,g1,g2,rfl⟩:=z76 (by rw [t1,t2]) hr
            have p1:=z8s (P:=P) (w:=w) q1 q2 (us:=us) (off:=j*ie'.size) (by omega) q4
            have p2:=z8s (P:=P) (w:=w) q1 q2 (us:=vs) (off:=j*ie'.size) (by omega) q4
            have e3:=ih e ie'.size h3 D (by omega) _ _ _ _ r1 ((hu.drop _).take _) ((hv.drop _).take _) t1 t2 g1
            have e4:=ihm (j+1) r2 (by omega) g2
            simp only [List.range'_succ,Op.eqItems,Sem.run_bind,hco,p1,p2,Result.andThen_ok,e3]
            rw [hco] at e4
            cases r1 <;> simp [e4]
         rw [List.range_eq_range']
         exact key n 0 r (by omega) (by simpa using he)
       · cases hf
     · cases hf
   · rename_i i fs h1 h2
     split at hf
     · rename_i h3
       injection hf with hf
       subst hf
       have hva:∀us:List Value,z68 P t us=.agg us.toArray:=by intro us;simp [z68,h2,z2i]
       have hfo:P.fieldsOf t=fs:=by simp [Program.fieldsOf,h2]
       rw [hva,hva,run_equalIn_struct w D t _ _ (by rw [hfo];exact h2) h3.2,hfo]
       have hul:=hu.length
       have hvl:=hv.length
       have key:∀(gs:List Field) (off:Nat) (r:Bool),zar (z53 P k) gs off=some i.size→z0n (cs.drop off) (ds.drop off)=some r→
        off≤i.size∧(Op.eqFields D us.toArray vs.toArray gs).run P w=.ok r w:=by
        intro gs
        induction gs with
        | nil=>
          intro off r hg hr
          simp only [zar,Option.some.injEq] at hg
          subst hg
          have e1:cs.drop i.size=[]:=by rw [List.drop_eq_nil_iff,hcs];exact Nat.le_refl _
          have e2:ds.drop i.size=[]:=by rw [List.drop_eq_nil_iff,hds];exact Nat.le_refl _
          rw [e1,e2] at hr
          simp only [z0n,Option.some.injEq] at hr
          subst hr
          exact ⟨Nat.le_refl _,by simp [Op.eqFields]⟩
        | cons g gs ihg=>
          intro off r hg hr
          simp only [zar] at hg
          split at hg
          · rename_i s0 hs0
            split at hg
            · rename_i hgo
              obtain ⟨rfl,hname⟩:=hgo
              obtain ⟨ig,dg,q1,q2,rfl,q4⟩:=zj0 hs0
              have sp:∀l:List AV,l.drop g.offset=(l.drop g.offset).take ig.size++l.drop (g.offset+ig.size):=by
               intro l
               rw [←List.drop_drop,List.take_append_drop]
              have hmono:∀(gs:List Field) (off:Nat),zar (z53 P k) gs off=some i.size→off≤i.size:=by
               intro gs
               induction gs with
               | nil=> intro off hg;simp only [zar,Option.some.injEq] at hg;omega
               | cons g' gs' ih'=>
                 intro off hg
                 simp only [zar] at hg
                 split at hg
                 · split at hg
                   · have:=ih' _ hg;omega
                   · cases hg
                 · cases hg
              have hle:=hmono gs _ hg
              rw [sp cs,sp ds] at hr
              have t1:((cs.drop g.offset).take ig.size).length=ig.size:=by simp;omega
              have t2:((ds.drop g.offset).take ig.size).length=ig.size:=by simp;omega
              obtain ⟨r1,r2,g1,g2,rfl⟩:=z76 (by rw [t1,t2]) hr
              have p1:=z8s (P:=P) (w:=w) q1 q2 (us:=us) (off:=g.offset) (by omega) q4
              have p2:=z8s (P:=P) (w:=w) q1 q2 (us:=vs) (off:=g.offset) (by omega) q4
              have e3:=ih g.type ig.size hs0 D (by omega) _ _ _ _ r1 ((hu.drop _).take _) ((hv.drop _).take _) t1 t2 g1
              obtain ⟨_,e4⟩:=ihg (g.offset+ig.size) r2 hg g2
              refine ⟨by omega,?_⟩
              simp only [Op.eqFields,hname,ne_eq,not_false_eq_true,if_true,Sem.run_bind,p1,p2,Result.andThen_ok,e3]
              cases r1 <;> simp [e4]
            · cases hg
          · cases hg
       exact (key fs.toList 0 r h3.1 (by simpa using he)).2
     · cases hf
   · cases hf
theorem zf1:∀{cs:List AV} {l:List Bool} {vs:List Value},z5u cs=some l→LRel C w true cs vs→vs=l.map fun b=> .bool b
 | [],l,vs,hb,hl=> by simp only [z5u,Option.some.injEq] at hb;subst hb;simp only [LRel] at hl;subst hl;rfl
 | c::cs,l,vs,hb,hl=> by
   simp only [LRel] at hl
   obtain ⟨u,us,rfl,_,h1,h2⟩:=hl
   cases c with
   | b x=>
     simp only [z5u] at hb
     cases hq:z5u cs with
     | none=> rw [hq] at hb;cases hb
     | some l'=>
       rw [hq] at hb
       injection hb with hb;subst hb
       have e:u=.bool x:=by simpa only [x3] using h1
       rw [e,zf1 hq h2];rfl
   | _=> simp [z5u] at hb
theorem zpl {t:TypeId} {s:Nat} (hf:ze3 P t=some s) {D:Nat} (hD:2≤D) {cs ds:List AV} {us vs:List Value} {r:Bool} (hu:LRel C w true cs us) (hv:LRel C w true ds vs) (hcs:cs.length=s) (hds:ds.length=s)
 (he:ze2 cs ds=some r):(P.underlying t).map z2i=some true∧(Op.equalIn D t (.agg us.toArray) (.agg vs.toArray)).run P w=.ok r w:=by
 obtain ⟨D,rfl⟩:∃m,D=m+2:=⟨D - 2,by omega⟩
 unfold ze3 at hf
 split at hf
 · rename_i i n e h1 h2
   split at hf
   · rename_i ie h3 h4
     split at hf
     · rename_i h5
       injection hf with hf
       subst hf
       obtain ⟨h5,h6⟩:=h5
       refine ⟨by simp [h2,z2i],?_⟩
       unfold ze2 at he
       split at he
       · rename_i x y hx hy
         injection he with he
         subst he
         have eu:=zf1 hx hu
         have ev:=zf1 hy hv
         have lx:x.length=n:=by have:=hu.length;rw [eu,List.length_map] at this;omega
         have ly:y.length=n:=by have:=hv.length;rw [ev,List.length_map] at this;omega
         subst eu ev
         rw [run_equalIn_array w (D+1) _ _ h2 h3]
         have hco:P.cellsOf e=1:=by simp [Program.cellsOf,h3,h5]
         have key:∀(m j:Nat),j+m=n→
          (Op.eqItems (D+1) e (P.cellsOf e) (x.map fun b=> Value.bool b).toArray (y.map fun b=> Value.bool b).toArray (List.range' j m)).run P w=.ok (x.drop j==y.drop j) w:=by
          intro m
          induction m with
          | zero=>
            intro j hj
            have e1:x.drop j=[]:=by rw [List.drop_eq_nil_iff];omega
            have e2:y.drop j=[]:=by rw [List.drop_eq_nil_iff];omega
            rw [e1,e2]
            simp [Op.eqItems]
          | succ m ihm=>
            intro j hj
            have p1:=z8s (P:=P) (w:=w) h3 h4 (us:=x.map fun b=> Value.bool b) (off:=j*1) (by rw [List.length_map];omega) (fun _=> h5)
            have p2:=z8s (P:=P) (w:=w) h3 h4 (us:=y.map fun b=> Value.bool b) (off:=j*1) (by rw [List.length_map];omega) (fun _=> h5)
            have vo:∀(l:List Bool) (hj:j < l.length),z68 P e (((l.map fun b=> Value.bool b).drop (j*1)).take ie.size)=.bool (l[j]):=fun l hj=> by
             unfold z68
             rw [h4,h5,Nat.mul_one,List.drop_eq_getElem_cons (by rw [List.length_map];exact hj)]
             simp [z2i]
            rw [vo x (by omega)] at p1
            rw [vo y (by omega)] at p2
            have e4:=ihm (j+1) (by omega)
            rw [List.drop_eq_getElem_cons (by omega:j < x.length),List.drop_eq_getElem_cons (by omega:j < y.length)]
            rw [hco] at e4
            simp only [List.range'_succ,Op.eqItems,Sem.run_bind,hco,p1,p2,Result.andThen_ok,run_equalIn_bool w D e _ _ h4]
            have hb:(x[j]::x.drop (j+1)==y[j]::y.drop (j+1))=((x[j]==y[j]) && (x.drop (j+1)==y.drop (j+1))):=rfl
            rw [hb]
            cases hq:(x[j]==y[j]) <;> simp [e4]
         have:=key n 0 (by omega)
         rw [List.range_eq_range']
         simpa using this
       · cases he
     · cases hf
   · cases hf
 · cases hf
theorem y04 {op:BinOp} {t:TypeId} {x y r:AV} {u v:Value} {xo yo:Operand} (hr:bin P op t x y=some r) (hx:x3 C w x u) (hy:x3 C w y v):
 ∃z,(do eqGuard op t xo yo u v;binOp op t u v:Sem Value).run P w=.ok z w∧x3 C w r z:=by
 unfold bin at hr
 split at hr
 · rename_i a b
   have e1:u=.int .i64 a:=by simpa only [x3] using hx
   have e2:v=.int .i64 b:=by simpa only [x3] using hy
   subst e1 e2
   obtain ⟨z,h1,h2⟩:=zhm (P:=P) (C:=C) (w:=w) hr t
   refine ⟨z,?_,h2⟩
   have:(eqGuard op t xo yo (.int .i64 a) (.int .i64 b)).run P w=.ok () w:=by unfold eqGuard;cases op <;> rfl
   simp [this,h1]
 · rename_i a b
   have e1:u=.int .u8 a.toNat:=by simpa only [x3] using hx
   have e2:v=.int .u8 b.toNat:=by simpa only [x3] using hy
   subst e1 e2
   obtain ⟨z,h1,h2⟩:=zhm (P:=P) (C:=C) (w:=w) hr t
   refine ⟨z,?_,h2⟩
   have:(eqGuard op t xo yo (.int .u8 a.toNat) (.int .u8 b.toNat)).run P w=.ok () w:=by unfold eqGuard;cases op <;> rfl
   simp [this,h1]
 · rename_i k a k' b
   split at hr
   · rename_i hk;subst hk
     have e1:u=.int k a:=by simpa only [x3] using hx
     have e2:v=.int k b:=by simpa only [x3] using hy
     subst e1 e2
     obtain ⟨z,h1,h2⟩:=zhm (P:=P) (C:=C) (w:=w) hr t
     refine ⟨z,?_,h2⟩
     have:(eqGuard op t xo yo (.int k a) (.int k b)).run P w=.ok () w:=by unfold eqGuard;cases op <;> rfl
     simp [this,h1]
   · cases hr
 · rename_i a b
   have e1:u=.bool a:=by simpa only [x3] using hx
   have e2:v=.bool b:=by simpa only [x3] using hy
   subst e1 e2
   split at hr
   · rename_i ti ht
     obtain ⟨hT⟩:=u5 ht
     split at hr
     · rename_i hk
       injection hr with hr;subst hr
       have hd:hT.d=.bool:=by
        have:=hT.kind
        rw [hk] at this
        cases hdd:hT.d <;> rw [hdd] at this <;> simp [z2r] at this
       have hu:P.underlying t=some .bool:=by rw [hT.und,hd]
       have:=run_equalIn_bool (P:=P) w 9999 t a b hu
       refine ⟨.bool (a==b),?_,by simp only [x3]⟩
       have hg:(eqGuard .eql t xo yo (.bool a) (.bool b)).run P w=.ok () w:=by unfold eqGuard;rfl
       simp [hg,binOp,Op.equal,Op.maxDepth,this]
     · rename_i hk
       injection hr with hr;subst hr
       have hd:hT.d=.bool:=by
        have:=hT.kind
        rw [hk] at this
        cases hdd:hT.d <;> rw [hdd] at this <;> simp [z2r] at this
       have hu:P.underlying t=some .bool:=by rw [hT.und,hd]
       have:=run_equalIn_bool (P:=P) w 9999 t a b hu
       refine ⟨.bool (!(a==b)),?_,by simp only [x3]⟩
       have hg:(eqGuard .neq t xo yo (.bool a) (.bool b)).run P w=.ok () w:=by unfold eqGuard;rfl
       simp [hg,binOp,Op.equal,Op.maxDepth,this]
     · cases hr
   · cases hr
 · rename_i a b
   have e1:u=.string ⟨a.toArray⟩:=by simpa only [x3] using hx
   have e2:v=.string ⟨b.toArray⟩:=by simpa only [x3] using hy
   subst e1 e2
   split at hr
   · injection hr with hr;subst hr
     refine ⟨.bool (a==b),?_,by simp only [x3]⟩
     have hg:(eqGuard .eql t xo yo (.string ⟨a.toArray⟩) (.string ⟨b.toArray⟩)).run P w=.ok () w:=by unfold eqGuard;rfl
     simp [hg,binOp,Op.stringOp]
   · injection hr with hr;subst hr
     refine ⟨.bool (!(a==b)),?_,by simp only [x3]⟩
     have hg:(eqGuard .neq t xo yo (.string ⟨a.toArray⟩) (.string ⟨b.toArray⟩)).run P w=.ok () w:=by unfold eqGuard;rfl
     simp [hg,binOp,Op.stringOp]
   · cases hr
 · rename_i a b
   simp only [x3] at hx hy
   obtain ⟨us,rfl,hu⟩:=hx
   obtain ⟨vs,rfl,hv⟩:=hy
   split at hr
   · rename_i s hs
     split at hr
     · rename_i hb
       obtain ⟨ha,hb,hgt,hagg⟩:=hb
       obtain ⟨i,d,q1,q2,q3,q4⟩:=zj0 hs
       split at hr
       · rename_i q hq
         injection hr with hr;subst hr
         have:=ztr 8 t s hs 10000 (by omega) a b us vs q hu hv ha hb hq
         have hag:z2i d=true:=by rw [q2] at hagg;simpa using hagg
         have hva:∀us:List Value,z68 P t us=.agg us.toArray:=by intro us;simp [z68,q2,hag]
         rw [hva,hva] at this
         refine ⟨.bool q,?_,by simp only [x3]⟩
         rw [Sem.run_bind,run_eqGuard_agg w .eql t xo yo _ _ hgt,Result.andThen_ok,run_eql_struct,this]
         rfl
       · rename_i q hq
         injection hr with hr;subst hr
         have:=ztr 8 t s hs 10000 (by omega) a b us vs q hu hv ha hb hq
         have hag:z2i d=true:=by rw [q2] at hagg;simpa using hagg
         have hva:∀us:List Value,z68 P t us=.agg us.toArray:=by intro us;simp [z68,q2,hag]
         rw [hva,hva] at this
         refine ⟨.bool (!q),?_,by simp only [x3]⟩
         rw [Sem.run_bind,run_eqGuard_agg w .neq t xo yo _ _ hgt,Result.andThen_ok,run_neq_struct,this]
         rfl
       · cases hr
     · cases hr
   · split at hr
     · rename_i s hs
       split at hr
       · rename_i hb
         obtain ⟨ha,hb,hgt⟩:=hb
         split at hr
         · rename_i q hq
           injection hr with hr;subst hr
           obtain ⟨_,this⟩:=zpl hs (D:=10000) (by omega) hu hv ha hb hq
           refine ⟨.bool q,?_,by simp only [x3]⟩
           rw [Sem.run_bind,run_eqGuard_agg w .eql t xo yo _ _ hgt,Result.andThen_ok,run_eql_struct,this]
           rfl
         · rename_i q hq
           injection hr with hr;subst hr
           obtain ⟨_,this⟩:=zpl hs (D:=10000) (by omega) hu hv ha hb hq
           refine ⟨.bool (!q),?_,by simp only [x3]⟩
           rw [Sem.run_bind,run_eqGuard_agg w .neq t xo yo _ _ hgt,Result.andThen_ok,run_neq_struct,this]
           rfl
         · cases hr
       · cases hr
     · cases hr
 · cases hr
end
end Go.Proofs.Ytimcbhhebnikiaa.Ab
namespace Go.Proofs.Ytimcbhhebnikiaa.Ab
open Go
set_option linter.unusedVariables false
set_option linter.unusedSimpArgs false
section
variable {P : Program} {C : Ctx} {K : Nat → Option AObj} {w : World} {h : AH}
/-! ### A block that holds no cells, put anew -/
theorem zb1 (hS:Sim C K w) {b rb:Nat} {o:AObj} (hb:K b=some o) (hro:z9r o=false) (hφ:C.φ b=some rb) {ob:Obj} (hw:w.heap[rb]? =some ob) (hnc:∀c T f,ob≠Obj.cells c T f) (ob':Obj):
 Step C w C (d8 w rb ob'):=by
 have himm:¬C.imm rb:=by
  rcases hS.at_ b _ hb with ⟨g,_⟩ | ⟨rb',g1,g2,g3⟩
  · rw [g] at hφ;cases hφ
  · rw [g1] at hφ;injection hφ with hφ;subst hφ
    exact fun h=> by have:=g3.2 h;rw [hro] at this;cases this
 refine ⟨fun _ _ h=> h,fun _ _ h=> .inl h,fun _ h=> h,fun _ h=> .inl h,by rw [z18];exact Nat.le_refl _,fun x hx hno=> ?_,fun x hx=> ?_,fun x c0 T0 f0 e=> ?_,rfl⟩
 · rw [t5]
   have:rb≠x:=fun h=> hno b (h▸hφ)
   simp [this]
 · rw [t5]
   have:rb≠x:=fun h=> himm (h▸hx)
   simp [this]
 · rw [t5]
   by_cases h:rb=x
   · subst h
     rw [hw] at e
     injection e with e
     exact absurd e (hnc c0 T0 f0)
   · exact ⟨c0,by simp [h,e],rfl⟩
theorem zhh (hS:Sim C K w) {b rb:Nat} {o o':AObj} (hb:K b=some o) (hro:z9r o=false) (hφ:C.φ b=some rb) {ob:Obj} (hw:w.heap[rb]? =some ob) (hnc:∀c T f,ob≠Obj.cells c T f) {ob':Obj}
 (hro':z9r o'=false) (hR:z6k C (d8 w rb ob') rb o'):Sim C (z1i K b (some o')) (d8 w rb ob'):=by
 have hst:=zb1 hS hb hro hφ hw hnc ob'
 have himm:¬C.imm rb:=by
  rcases hS.at_ b _ hb with ⟨g,_⟩ | ⟨rb',g1,g2,g3⟩
  · rw [g] at hφ;cases hφ
  · rw [g1] at hφ;injection hφ with hφ;subst hφ
    exact fun h=> by have:=g3.2 h;rw [hro] at this;cases this
 refine ⟨fun x o1 e=> ?_,fun x x' o1 o2 r e1 e2 hr f1 f2=> ?_,fun x r e=> ?_,fun x e=> by rw [z18];exact hS.immlt x e⟩
 · unfold z1i at e
   split at e
   · rename_i h;subst h
     injection e with e;subst e
     refine .inr ⟨rb,hφ,hR,?_⟩
     rw [hro']
     exact ⟨fun h=> (by cases h),fun h=> absurd h himm⟩
   · rename_i h
     rcases hS.at_ x o1 e with ⟨g,g'⟩ | ⟨r,g1,g2,g3⟩
     · exact .inl ⟨g,g'⟩
     · have hne:rb≠r:=fun h0=> h ((hS.inj b x _ o1 rb hb e hro hφ (h0▸g1)).symm)
       exact .inr ⟨r,g1,g2.step hst (by rw [t5];simp [hne]),g3⟩
 · unfold z1i at e1 e2
   by_cases h1:x=b <;> by_cases h2:x'=b
   · rw [h1,h2]
   · rw [if_neg h2] at e2
     rw [h1] at f1⊢
     exact hS.inj b x' o o2 r hb e2 hro f1 f2
   · rw [if_neg h1] at e1
     rw [h2] at f2⊢
     exact hS.inj x b o1 o r e1 hb hr f1 f2
   · rw [if_neg h1] at e1;rw [if_neg h2] at e2
     exact hS.inj x x' o1 o2 r e1 e2 hr f1 f2
 · rw [z18];exact hS.φlt x r e
/-! ### Maps of numbers -/
theorem z8x.append {es fs:List (AV×AV)} {ms ns:List MapEntry} (h1:z8x C w es ms) (h2:z8x C w fs ns):z8x C w (es++fs) (ms++ns):=by
 induction es generalizing ms with
 | nil=> simp only [z8x] at h1;subst h1;exact h2
 | cons p es ih=>
   obtain ⟨k,v⟩:=p
   obtain ⟨e,es',rfl,a,b,c⟩:=h1
   exact ⟨e,es'++ns,rfl,a,b,ih c⟩
theorem zh0 {n:Int}:∀{es:List (AV×AV)} {ms:List MapEntry} {i:Nat},zjc es n=true→z8x C w es ms→Instr.findNow (.int .i64) (.int .i64 n) ms i=some none
 | [],ms,i,ha,hr=> by simp only [z8x] at hr;subst hr;rfl
 | (k,v)::es,ms,i,ha,hr=> by
   obtain ⟨e,es',rfl,h1,h2,h3⟩:=hr
   cases k with
   | i a=>
     simp only [zjc,Bool.and_eq_true] at ha
     have ek:e.key=.int .i64 a:=by simpa only [x3] using h1
     have:(n==a)=false:=by have:=ha.1;simp at this⊢;exact fun h=> this h.symm
     simp only [Instr.findNow,Instr.sameNow,ek,if_true,this]
     exact zh0 ha.2 h3
   | _=> simp [zjc] at ha
theorem zm0 {n:Int}:∀{es:List (AV×AV)} {ms:List MapEntry} {i:Nat} {r:Option AV},zdm es n=some r→z8x C w es ms→
 (r=none∧Instr.findNow (.int .i64) (.int .i64 n) ms i=some none)∨∃v j u,r=some v∧Instr.findNow (.int .i64) (.int .i64 n) ms i=some (some (j,u))∧x3 C w v u
 | [],ms,i,r,ha,hr=> by simp only [z8x] at hr;subst hr;simp only [zdm,Option.some.injEq] at ha;exact .inl ⟨ha.symm,rfl⟩
 | (k,v)::es,ms,i,r,ha,hr=> by
   obtain ⟨e,es',rfl,h1,h2,h3⟩:=hr
   cases k with
   | i a=>
     simp only [zdm] at ha
     have ek:e.key=.int .i64 a:=by simpa only [x3] using h1
     split at ha
     · rename_i hx
       injection ha with ha;subst ha hx
       exact .inr ⟨v,i,e.val,rfl,by simp [Instr.findNow,Instr.sameNow,ek],h2⟩
     · rename_i hx
       have:(n==a)=false:=by simp;exact fun h=> hx h.symm
       rcases zm0 (i:=i+1) ha h3 with ⟨g1,g2⟩ | ⟨v',j,u,g1,g2,g3⟩
       · exact .inl ⟨g1,by simp only [Instr.findNow,Instr.sameNow,ek,if_true,this];exact g2⟩
       · exact .inr ⟨v',j,u,g1,by simp only [Instr.findNow,Instr.sameNow,ek,if_true,this];exact g2,g3⟩
   | _=> simp [zdm] at ha
theorem z9l {b:Bool} {kt:TypeId} {k:IntKind} {v:Value} (hu:P.underlying kt=some (.int k)):(Instr.checkKey b 10000 kt v).run P w=.ok () w:=by
 have key:∀d,(Instr.checkKey b (d+1) kt v).run P w=.ok () w:=fun d=> by simp [Instr.checkKey,z97 hu]
 exact key 9999
def zby (P:Program) (C:Ctx) (K:Nat→Option AObj) (w:World) (n:Nat) (r:OR) (s:Sem Next):Prop:=
 ∃v C' w',(s.run P w=.ok (.value v) w'∨(s.run P w=.ok .skip w'∧v=undef))∧x3 C' w' r.v v∧Step C w C' w'∧Sim C' (fun b=> if b∈r.wr then r.h.get b else K b) w'∧∀b,C.φ b=none→(b≠n∨r.h.nx=n)→C'.φ b=none
theorem z5a.op {n:Nat} {r:OR} {s:Sem Value} (g:z5a P C K w n r s):zby P C K w n r (do pure (.value (←s))):=by
 obtain ⟨v,C',w',h1,h2⟩:=g
 exact ⟨v,C',w',.inl (by simp [h1]),h2⟩
theorem zmp {T:Tm} {a:Act} {xs:List Operand} (hT:∀x∈xs,z8o C w T a x):LRel C w false (xs.map (ev T)) (xs.map a.eval):=by
 induction xs with
 | nil=> exact LRel.nil
 | cons x xs ih=> exact LRel.cons (fun h=> by cases h) (z07 (hT x (by simp))) (ih fun y hy=> hT y (by simp [hy]))
theorem zt5 {T:Tm} {a:Act} {x:Option Operand} (hT:∀y,x=some y→z8o C w T a y):OV C w (x.map (ev T)) (x.map a.eval):=by
 cases x with
 | none=> trivial
 | some y=> exact z07 (hT y rfl)
theorem zrg {t:TypeId} {t1:Option TypeId} {s x:AV} {r:OR} (hr:z4z P h t t1 s x=some r):r.h.nx≠h.nx:=by
 unfold z4z at hr
 repeat' first
  | (cases hr;done)
  | (simp only [Option.some.injEq] at hr;subst hr;simp;done)
  | split at hr
theorem zmt {T:Tm} {a:Act} {o:Oper} {c:Call} {bi:Builtin} {r:OR} (hS:Sim C K w) (hn:r.h.nx≠h.nx→C.φ h.nx=none) (ho:o.op=.call c) (hc:c.callee=.builtin bi) (hr:z51 P h bi c.argTypes (c.args.toList.map (ev T))=some r)
 (hK:∀b∈r.rd,K b=h.get b) (hT:∀x∈c.args.toList,z8o C w T a x):zby P C K w h.nx r (execOp a.eval o):=by
 have hl:=zmp hT
 generalize hxs:c.args.toList.map (ev T)=xs at hr hl
 have hargs:c.args.map a.eval=(c.args.toList.map a.eval).toArray:=by apply Array.ext';simp
 generalize hvs:c.args.toList.map a.eval=vs at hl hargs
 have hex:∀{f:Sem Value},builtin bi c.argTypes o.type (c.args.map fun | .const _=> true | _=> false) vs.toArray=(do pure (.value (←f)))→z5a P C K w h.nx r f→zby P C K w h.nx r (execOp a.eval o):=by
  intro f hf g
  have:execOp a.eval o=(do pure (.value (←f))):=by
   simp only [execOp,ho,resolve,hc,invoke]
   rw [hargs,←hf]
   rfl
  rw [this]
  exact g.op
 unfold z51 at hr
 split at hr
 · -- len
   rename_i x
   obtain ⟨v,rfl,hv,_⟩:=hl.one1
   split at hr
   · rename_i t ht
     split at hr
     · rename_i ti hti
       obtain ⟨hTy⟩:=u5 hti
       split at hr
       · cases hr
       · rename_i y _ _ e hk hne
         cases hn':zo1 y with
         | none=> rw [hn'] at hr;cases hr
         | some n=>
           rw [hn'] at hr
           simp only [Option.bind_some,g9,Option.some.injEq] at hr;subst hr
           rcases zyx hn' hv with ⟨a',c',rfl⟩ | ⟨l,rfl⟩
           · have hd:=z0v (hk▸hTy.kind)
             have hu:(underlying t).run P w=.ok (.slice e) w:=by rw [hTy.run_und,hd]
             refine hex rfl (d4 (v:=.int .i64 n) hS ?_ (by simp only [x3]))
             simp [Builtin.len_,ht,hu,goInt]
           · exact (hne l rfl).elim
       · rename_i l hk
         simp only [g9,Option.some.injEq] at hr;subst hr
         have hd:=z8d (hk▸hTy.kind)
         have hu:(underlying t).run P w=.ok .string w:=by rw [hTy.run_und,hd]
         have e:v=.string ⟨l.toArray⟩:=by simpa only [x3] using hv
         subst e
         refine hex rfl (d4 (v:=.int .i64 l.length) hS ?_ (by simp only [x3]))
         simp [Builtin.len_,ht,hu,goInt]
         rfl
       · cases hr
     · cases hr
   · cases hr
 · -- append
   rename_i s x
   simp only [LRel] at hl
   obtain ⟨v1,r1,rfl,_,hv1,v2,r2,rfl,_,hv2,rfl⟩:=hl
   split at hr
   · rename_i t ht
     exact hex rfl (zo9 hS (hn (zrg hr)) ht hr hK hv1 hv2)
   · cases hr
 · -- copy
   rename_i d x
   simp only [LRel] at hl
   obtain ⟨v1,r1,rfl,_,hv1,v2,r2,rfl,_,hv2,rfl⟩:=hl
   split at hr
   · rename_i t ht
     exact hex rfl (zuh hS ht hr hK hv1 hv2)
   · cases hr
 · rename_i b xs'
   simp only [LRel] at hl
   obtain ⟨v1,r1,rfl,_,hv1,hl⟩:=hl
   have e:v1=.int .i64 b:=by simpa only [x3] using hv1
   subst e
   cases hm:zs8 b xs' with
   | none=> rw [hm] at hr;cases hr
   | some m=>
     rw [hm] at hr
     simp only [Option.bind_some,g9,Option.some.injEq] at hr;subst hr
     refine hex rfl (d4 (v:=.int .i64 m) hS ?_ (by simp only [x3]))
     simp [Builtin.min_,zpc hm hl]
 · rename_i b xs'
   simp only [LRel] at hl
   obtain ⟨v1,r1,rfl,_,hv1,hl⟩:=hl
   have e:v1=.int .i64 b:=by simpa only [x3] using hv1
   subst e
   cases hm:zsx b xs' with
   | none=> rw [hm] at hr;cases hr
   | some m=>
     rw [hm] at hr
     simp only [Option.bind_some,g9,Option.some.injEq] at hr;subst hr
     refine hex rfl (d4 (v:=.int .i64 m) hS ?_ (by simp only [x3]))
     simp [Builtin.max_,zq6 hm hl]
 · cases hr
end
end Go.Proofs.Ytimcbhhebnikiaa.Ab
namespace Go.Proofs.Ytimcbhhebnikiaa.Ab
open Go
set_option linter.unusedVariables false
set_option linter.unusedSimpArgs false
section
variable {P : Program} {C : Ctx} {K : Nat → Option AObj} {w : World} {h : AH}
theorem z1l {n:Nat} {x:AV} {v:Value} {r:OR} {s:Sem Next} (hS:Sim C K w) (hr:g9 h x=some r) (hrun:s.run P w=.ok (.value v) w) (hv:x3 C w x v):zby P C K w n r s:=by
 simp only [g9,Option.some.injEq] at hr;subst hr
 exact ⟨v,C,w,.inl hrun,hv,Step.refl C w,by simpa using hS,fun b hb _=> hb⟩
theorem zd8 {r:Nat} {es:Array MapEntry} {clock:Nat} (hb:w.heap[r]? =some (Obj.map es clock)):(getObj r).run P w=.ok (Obj.map es clock) w:=by simp [getObj,Sem.run,hb]
theorem zs5 {r:Nat} {es:Array MapEntry} {clock:Nat} (o:Obj) (hb:w.heap[r]? =some (Obj.map es clock)):(setObj r o).run P w=.ok () (d8 w r o):=by simp [setObj,Sem.run,hb,d8]
theorem zn9 {s:TypeId} {ti:TI} (hT:TSpec P s ti) {fs:List (Nat×Nat×Bool)} (hk:ti.k=.struct fs) {f off sz:Nat} {ag:Bool} (hf:fs[f]? =some (off,sz,ag)) {cs:List AV} {vs:List Value} {x:AV}
 (hl:LRel C w true cs vs) (hle:off+sz≤cs.length) (hx:zao ag ((cs.drop off).take sz)=some x):∃v,(Instr.field s (.agg vs.toArray) f).run P w=.ok v w∧x3 C w x v:=by
 obtain ⟨gs,g,fi,fd,hd,hg,h1,h2,h3,h4,h5⟩:=zid hT hk hf
 have hu:(underlying s).run P w=.ok (.struct gs) w:=by rw [hT.run_und,hd]
 have hag:(isAgg g.type).run P w=.ok ag w:=by
  simp only [isAgg,Sem.run_bind,z97 h2,Result.andThen_ok,←h5]
  cases fd <;> rfl
 obtain ⟨v,k1,k2⟩:=znx (P:=P) hag (by rw [zbs h1,h4]) hl hle hx
 refine ⟨v,?_,k2⟩
 simp [Instr.field,hu,hg,asAgg,h3,k1]
theorem zm2 {T:Tm} {a:Act} {o:Oper} {r:OR} (hr:aOp P h T o.op=some r) (hS:Sim C K w) (hn:r.h.nx≠h.nx→C.φ h.nx=none) (hK:∀b∈r.rd,K b=h.get b) (hT:∀x∈o.op.operands,z8o C w T a x):
 zby P C K w h.nx r (execOp a.eval o):=by
 obtain ⟨dst,op,type,pos,after,guard⟩:=o
 simp only at hr hT
 cases op with
 | move x=>
   exact z1l hS (x:=ev T x) (by simpa only [aOp] using hr) (by simp [execOp]) (z07 (hT x (by simp [Op.operands])))
 | assign x=>
   exact z1l hS (x:=ev T x) (by simpa only [aOp] using hr) (by simp [execOp]) (z07 (hT x (by simp [Op.operands])))
 | pick c x y=>
   simp only [aOp] at hr
   have hc:=z07 (hT c (by simp [Op.operands]))
   split at hr
   · rename_i t hct
     rw [hct] at hc
     have e:a.eval c=.bool t:=by simpa only [x3] using hc
     cases t with
     | true=> exact z1l hS hr (by simp [execOp,e,asBool]) (z07 (hT x (by simp [Op.operands])))
     | false=> exact z1l hS hr (by simp [execOp,e,asBool]) (z07 (hT y (by simp [Op.operands])))
   · cases hr
 | alloc e=>
   simp only [aOp] at hr
   split at hr
   · rename_i ti ht
     obtain ⟨hTy⟩:=u5 ht
     split at hr
     · injection hr with hr;subst hr
       exact (zoz hS (hn (by simp)) hTy).op
     · cases hr
   · cases hr
 | box e x=>
   simp only [aOp] at hr
   split at hr
   · rename_i cs hcs
     injection hr with hr;subst hr
     exact (zv9 hS (hn (by simp)) hcs (z07 (hT x (by simp [Op.operands])))).op
   · cases hr
 | build t parts=>
   exact (zvw hS hr (fun p hp=> hT p.2 (by
    simp only [Op.operands,List.mem_toArray,List.mem_map];exact ⟨p,hp,rfl⟩))).op
 | buildSlice t len parts=>
   exact (zjv hS hn hr (fun p hp=> hT p.2 (by
    simp only [Op.operands,List.mem_toArray,List.mem_map];exact ⟨p,hp,rfl⟩))).op
 | load t x=>
   simp only [aOp] at hr
   split at hr
   · rename_i ti ht
     obtain ⟨hTy⟩:=u5 ht
     split at hr
     · cases hr
     · rename_i hz
       split at hr
       · rename_i cs rd hcs
         split at hr
         · rename_i v hv
           injection hr with hr;subst hr
           exact (zt6 hS hTy (by omega) hK hcs hv (z07 (hT x (by simp [Op.operands])))).op
         · cases hr
       · cases hr
   · cases hr
 | store t x y=>
   simp only [aOp] at hr
   split at hr
   · rename_i h' bs hst
     injection hr with hr;subst hr
     obtain ⟨w',h1,h2,h3⟩:=zry (P:=P) hS hst hK (z07 (hT x (by simp [Op.operands]))) (z07 (hT y (by simp [Op.operands])))
     exact ⟨undef,C,w',.inr ⟨by simp [execOp,h1],rfl⟩,by simp only [x3],h2,h3,fun b hb _=> hb⟩
   · cases hr
 | nilCheck x=>
   simp only [aOp] at hr
   have hx:=z07 (hT x (by simp [Op.operands]))
   split at hr
   · rename_i b o he
     rw [he] at hx
     have hx':=hx
     simp only [x3] at hx'
     obtain ⟨rb,_,e⟩:=hx'
     exact z1l hS hr (by simp [execOp,e];rfl) (by rw [←e];exact hx)
   · rename_i cs he
     rw [he] at hx
     have hx':=hx
     simp only [x3] at hx'
     obtain ⟨ad,vs,e,_⟩:=hx'
     exact z1l hS hr (by simp [execOp,e];rfl) (by rw [←e];exact hx)
   · rename_i f c he
     rw [he] at hx
     have hx':=hx
     simp only [x3] at hx'
     obtain ⟨vs,e,_⟩:=hx'
     exact z1l hS hr (by simp [execOp,e];rfl) (by rw [←e];exact hx)
   · rename_i l he
     rw [he] at hx
     have hx':=hx
     simp only [x3] at hx'
     obtain ⟨rb,_,e⟩:=hx'
     exact z1l hS hr (by simp [execOp,e];rfl) (by rw [←e];exact hx)
   · cases hr
 | binOp op t x y ty=>
   simp only [aOp] at hr
   split at hr
   · rename_i v hv
     obtain ⟨z,h1,h2⟩:=y04 (P:=P) (xo:=x) (yo:=y) hv (z07 (hT x (by simp [Op.operands]))) (z07 (hT y (by simp [Op.operands])))
     exact z1l hS hr (v:=z) (by
      simp only [execOp,Sem.run_bind,Result.andThen_ok]
      rw [Sem.run_bind] at h1
      rw [h1];rfl) h2
   · cases hr
 | unOp op t x=>
   simp only [aOp] at hr
   split at hr
   · rename_i v hv
     obtain ⟨z,h1,h2⟩:=y38 (P:=P) hv (z07 (hT x (by simp [Op.operands])))
     exact z1l hS hr (v:=z) (by simp [execOp,h1]) h2
   · cases hr
 | convert s d x=>
   simp only [aOp] at hr
   exact (zxg hS hr hK (z07 (hT x (by simp [Op.operands])))).op
 | sliceToArrayPointer arr x=>
   simp only [aOp] at hr
   have hx:=z07 (hT x (by simp [Op.operands]))
   split at hr
   · rename_i ti ht
     obtain ⟨hTy⟩:=u5 ht
     split at hr
     · rename_i n e m cs hk he
       rw [he] at hx
       have hd:=z3x (hk▸hTy.kind)
       have hu:(underlying arr).run P w=.ok (.array n e) w:=by rw [hTy.run_und,hd]
       split at hr
       · rename_i hb
         simp only [x3] at hx
         obtain ⟨ad,c,e1,hc,h0 | ⟨ad',vs,rfl,h2,h3,h4,h5⟩⟩:=hx
         · omega
         · have hlt:¬m < n:=by omega
           exact z1l hS hr (v:=.pointer (some ad')) (by simp [execOp,Instr.arrayAt,hu,e1,hlt]) (by simp only [x3];exact ⟨ad',vs,rfl,h2,h3,h4,h5⟩)
       · cases hr
     · rename_i n e b z off m hk he
       rw [he] at hx
       have hd:=z3x (hk▸hTy.kind)
       have hu:(underlying arr).run P w=.ok (.array n e) w:=by rw [hTy.run_und,hd]
       split at hr
       · rename_i hb
         simp only [x3] at hx
         obtain ⟨ad,c,e1,hc,h0 | ⟨rb,h2,rfl,h3⟩⟩:=hx
         · omega
         · have hlt:¬m < n:=by omega
           exact z1l hS hr (v:=.pointer (some ⟨rb,off,none⟩)) (by simp [execOp,Instr.arrayAt,hu,e1,hlt]) (by simp only [x3];exact ⟨rb,h2,rfl⟩)
       · cases hr
     · cases hr
   · cases hr
 | makeFunc fn first cap=>
   cases fn with
   | func f=>
     simp only [aOp] at hr
     split at hr
     · rename_i hf
       have hfe:first=#[]:=Array.size_eq_zero_iff.1 hf
       have hl:=zmp (C:=C) (w:=w) (T:=T) (a:=a) (xs:=cap.toList) (fun x hx=> hT x (by simp [Op.operands];exact .inr (by simpa using hx)))
       refine z1l hS hr (v:=.func (.func f) #[] (cap.toList.map a.eval).toArray) ?_ (by simp only [x3];exact ⟨_,rfl,hl⟩)
       subst hfe
       simp [execOp,Instr.makeFunc]
       apply Array.ext'
       simp
     · cases hr
   | _=> simp [aOp] at hr
 | makeMap t res=>
   cases res with
   | some _=> simp [aOp] at hr
   | none=>
     simp only [aOp,Option.some.injEq] at hr;subst hr
     have g:z5a P C K w h.nx ⟨.mp h.nx,h.new (.map []),[],[h.nx]⟩ (Instr.makeMap t none):=by
      refine zep (ob:=Obj.map #[] 0) (v:=.map (some w.heap.size)) hS (hn (by simp)) rfl rfl ?_ ?_ ?_
      · exact ⟨#[],0,zba w _,by simp [z8x]⟩
      · simp [Instr.makeMap,z3t]
      · simp only [x3];exact ⟨_,Ctx.with_at C _ _,rfl⟩
     exact g.op
 | insert t m k v=>
   simp only [aOp] at hr
   have hm:=z07 (hT m (by simp [Op.operands]))
   have hk:=z07 (hT k (by simp [Op.operands]))
   have hv:=z07 (hT v (by simp [Op.operands]))
   split at hr
   · rename_i ti b n ht hem hek
     obtain ⟨hTy⟩:=u5 ht
     rw [hem] at hm;rw [hek] at hk
     split at hr
     · rename_i kt et es hkk hget
       have hd:=zhs (hkk▸hTy.kind)
       have hu:(underlying t).run P w=.ok (.map kt et) w:=by rw [hTy.run_und,hd]
       split at hr
       · rename_i ki hki
         obtain ⟨hKy⟩:=u5 hki
         split at hr
         · rename_i hik
           have hdk:=z9w (hik▸hKy.kind)
           have huk:P.underlying kt=some (.int .i64):=by rw [hKy.und,hdk]
           split at hr
           · rename_i hab
             injection hr with hr;subst hr
             simp only [x3] at hm hk
             obtain ⟨rb,hφ,em⟩:=hm
             have hkb:K b=some (.map es):=by rw [hK b (by simp)];exact hget
             rcases hS.at_ b _ hkb with ⟨_,g'⟩ | ⟨rb',g1,g2,_⟩
             · simp [isNone] at g'
             rw [g1] at hφ;injection hφ with hφ;subst hφ
             obtain ⟨ms,clock,e1,e2⟩:=g2
             have hst:=zb1 hS hkb rfl g1 e1 (fun _ _ _ h=> by cases h) (Obj.map (ms.push {key:=.int .i64 n,val:=a.eval v,born:=clock}) (clock+1))
             refine ⟨undef,C,d8 w rb' (Obj.map (ms.push {key:=.int .i64 n,val:=a.eval v,born:=clock}) (clock+1)),.inr ⟨?_,rfl⟩,by simp only [x3],hst,?_,fun b hb _=> hb⟩
             · have hfind:(Instr.findKey kt (.int .i64 n) ms.toList).run P w=.ok none w:=by
                simp [Instr.findKey,z97 huk,zh0 hab e2]
               simp [execOp,Instr.mapUpdate,hu,em,hk,zd8 e1,z9l huk,hfind,zs5 _ e1]
             · refine (zhh hS hkb rfl g1 e1 (fun _ _ _ h=> by cases h) (o':=.map (es++[(.i n,ev T v)])) rfl ?_).congr fun x=> ?_
               · refine ⟨_,_,by rw [t5,if_pos ⟨rfl,z0i w e1⟩],?_⟩
                 rw [Array.toList_push]
                 exact (e2.step hst).append ⟨_,[],rfl,by simp only [x3],hv.step hst,rfl⟩
               · simp only [List.mem_singleton,z1i,AH.get_put]
                 by_cases e:x=b
                 · subst e;simp [z6e]
                 · simp [e]
           · cases hr
         · cases hr
       · cases hr
     · cases hr
   · cases hr
 | lookup t x ix ok=>
   simp only [aOp] at hr
   have hm:=z07 (hT x (by simp [Op.operands]))
   have hk:=z07 (hT ix (by simp [Op.operands]))
   split at hr
   · rename_i ti b n ht hem hek
     obtain ⟨hTy⟩:=u5 ht
     rw [hem] at hm;rw [hek] at hk
     split at hr
     · rename_i kt et es hkk hget
       have hd:=zhs (hkk▸hTy.kind)
       have hu:(underlying t).run P w=.ok (.map kt et) w:=by rw [hTy.run_und,hd]
       split at hr
       · rename_i ki ei q hki hei hlook
         obtain ⟨hKy⟩:=u5 hki
         obtain ⟨hE⟩:=u5 hei
         split at hr
         · rename_i hik
           have hdk:=z9w (hik▸hKy.kind)
           have huk:P.underlying kt=some (.int .i64):=by rw [hKy.und,hdk]
           simp only [x3] at hm hk
           obtain ⟨rb,hφ,em⟩:=hm
           have hrd:b∈r.rd:=by
            split at hr <;> first | (injection hr with hr;subst hr;simp) | cases hr
           have hkb:K b=some (.map es):=by rw [hK b hrd];exact hget
           rcases hS.at_ b _ hkb with ⟨_,g'⟩ | ⟨rb',g1,g2,_⟩
           · simp [isNone] at g'
           rw [g1] at hφ;injection hφ with hφ;subst hφ
           obtain ⟨ms,clock,e1,e2⟩:=g2
           have hlk:=zm0 (i:=0) hlook e2
           split at hr
           · rename_i v
             injection hr with hr;subst hr
             rcases hlk with ⟨hx,_⟩ | ⟨v',j,u,hx,hf,hu'⟩
             · cases hx
             · injection hx with hx;subst hx
               have hfind:(Instr.findKey kt (.int .i64 n) ms.toList).run P w=.ok (some (j,u)) w:=by simp [Instr.findKey,z97 huk,hf]
               refine ⟨if ok then .tuple #[u,.bool true] else u,C,w,.inl ?_,?_,Step.refl C w,by simpa using hS,fun b hb _=> hb⟩
               · simp [execOp,Instr.lookup,hu,em,hk,zd8 e1,z9l huk,hfind]
               · cases ok with
                 | true=> simp only [if_true,x3];exact ⟨[u,.bool true],rfl,LRel.cons (fun h=> by cases h) hu' (LRel.cons (fun h=> by cases h) (by simp only [x3]) LRel.nil)⟩
                 | false=> simpa using hu'
           · injection hr with hr;subst hr
             rcases hlk with ⟨_,hf⟩ | ⟨v',j,u,hx,_⟩
             · have hfind:(Instr.findKey kt (.int .i64 n) ms.toList).run P w=.ok none w:=by simp [Instr.findKey,z97 huk,hf]
               have hzr:x3 C w ei.zv hE.z:=by rw [hE.zv];exact zu7 C w _
               refine ⟨if ok then .tuple #[hE.z,.bool false] else hE.z,C,w,.inl ?_,?_,Step.refl C w,by simpa using hS,fun b hb _=> hb⟩
               · simp [execOp,Instr.lookup,hu,em,hk,zd8 e1,z9l huk,hfind,hE.run_zero]
               · cases ok with
                 | true=> simp only [if_true,x3];exact ⟨[hE.z,.bool false],rfl,LRel.cons (fun h=> by cases h) hzr (LRel.cons (fun h=> by cases h) (by simp only [x3]) LRel.nil)⟩
                 | false=> simpa using hzr
             · cases hx
         · cases hr
       · cases hr
     · cases hr
   · cases hr
 | makeSlice t l c=>
   simp only [aOp] at hr
   have hl:=z07 (hT l (by simp [Op.operands]))
   have hc:=z07 (hT c (by simp [Op.operands]))
   split at hr
   · rename_i ti n m ht hel hec
     obtain ⟨hTy⟩:=u5 ht
     rw [hel] at hl;rw [hec] at hc
     have e1:a.eval l=.int .i64 n:=by simpa only [x3] using hl
     have e2:a.eval c=.int .i64 m:=by simpa only [x3] using hc
     split at hr
     · rename_i e hk
       split at hr
       · rename_i ei he
         obtain ⟨hE⟩:=u5 he
         split at hr
         · rename_i hb
           obtain ⟨rfl,h0,h1,h2,h3,h4⟩:=hb
           injection hr with hr;subst hr
           have:=(zg2 hS (hn (by simp)) hTy hk hE h0 h1 h2 h3 h4).op
           simpa only [execOp,e1,e2] using this
         · cases hr
       · cases hr
     · cases hr
   · cases hr
 | slice t x lo hi mx=>
   simp only [aOp] at hr
   exact (zso hS hr hK (z07 (hT x (by simp [Op.operands]))) (zt5 fun y hy=> hT y (by simp [Op.operands,hy])) (zt5 fun y hy=> hT y (by simp [Op.operands,hy])) (zt5 fun y hy=> hT y (by simp [Op.operands,hy]))).op
 | fieldAddr s x f=>
   simp only [aOp] at hr
   have hx:=z07 (hT x (by simp [Op.operands]))
   split at hr
   · rename_i ti ht
     obtain ⟨hTy⟩:=u5 ht
     split at hr
     · rename_i fs hk
       split at hr
       · rename_i off sz ag hf
         split at hr
         · cases hr
         · rename_i hsz
           have hxx:(∃b o,ev T x=.pt b o)∨∃cs,ev T x=.ip cs:=by
            split at hr
            · exact .inl ⟨_,_,by assumption⟩
            · exact .inr ⟨_,by assumption⟩
            · cases hr
           have hr':r=⟨zud (ev T x) off,h,[],[]⟩:=by
            rcases hxx with ⟨b,o,e⟩ | ⟨cs,e⟩ <;> (rw [e] at hr⊢;simp only [g9,Option.some.injEq] at hr;exact hr.symm)
           rw [hr']
           exact (zg1 hTy hk hf hsz hS hx rfl hxx).op
       · cases hr
     · cases hr
   · cases hr
 | field s x f=>
   simp only [aOp] at hr
   have hx:=z07 (hT x (by simp [Op.operands]))
   split at hr
   · rename_i ti ht
     obtain ⟨hTy⟩:=u5 ht
     split at hr
     · rename_i fs cs hk he
       rw [he] at hx
       simp only [x3] at hx
       obtain ⟨vs,e,hl⟩:=hx
       split at hr
       · rename_i off sz ag hf
         split at hr
         · rename_i hle
           split at hr
           · rename_i v hv
             obtain ⟨u,k1,k2⟩:=zn9 (P:=P) hTy hk hf hl hle hv
             exact z1l hS hr (v:=u) (by simp [execOp,e,k1]) k2
           · cases hr
         · cases hr
       · cases hr
     · cases hr
   · cases hr
 | indexAddr t x ix=>
   simp only [aOp] at hr
   exact (znr hS hr (z07 (hT x (by simp [Op.operands]))) (z07 (hT ix (by simp [Op.operands])))).op
 | index t x ix=>
   simp only [aOp] at hr
   have hx:=z07 (hT x (by simp [Op.operands]))
   have hi:=z07 (hT ix (by simp [Op.operands]))
   split at hr
   · rename_i ti i ht hei
     obtain ⟨hTy⟩:=u5 ht
     obtain ⟨kk,ei'⟩:=zmd hei hi
     split at hr
     · rename_i n e cs hk he
       rw [he] at hx
       simp only [x3] at hx
       obtain ⟨vs,e1,hl⟩:=hx
       have hd:=z3x (hk▸hTy.kind)
       have hu:(underlying t).run P w=.ok (.array n e) w:=by rw [hTy.run_und,hd]
       split at hr
       · rename_i ei hee
         obtain ⟨hE⟩:=u5 hee
         split at hr
         · rename_i hb
           split at hr
           · rename_i v hv
             obtain ⟨u,k1,k2⟩:=znx (P:=P) (hE.run_agg w) (hE.run_size w) hl hb.2.2 hv
             exact z1l hS hr (v:=u) (by simp [execOp,Instr.index,ei',e1,asIntOf,hu,hb.1,hb.2.1,hE.run_size,k1]) k2
           · cases hr
         · cases hr
       · cases hr
     · cases hr
   · cases hr
 | extract t ix=>
   simp only [aOp] at hr
   have hx:=z07 (hT t (by simp [Op.operands]))
   split at hr
   · rename_i xs he
     rw [he] at hx
     simp only [x3] at hx
     obtain ⟨vs,e1,hl⟩:=hx
     split at hr
     · rename_i v hv
       obtain ⟨u,k1,k2,_⟩:=hl.get hv
       exact z1l hS hr (v:=u) (by simp [execOp,Instr.extract,e1,k1]) k2
     · cases hr
   · cases hr
 | call c=>
   simp only [aOp] at hr
   split at hr
   · rename_i b hc
     exact zmt (o:=⟨dst,.call c,type,pos,after,guard⟩) hS hn rfl hc hr hK (fun x hx=> hT x (by simp [Op.operands,Call.operands,hc];simpa using hx))
   · cases hr
 | _=> simp [aOp] at hr
end
end Go.Proofs.Ytimcbhhebnikiaa.Ab
namespace Go.Proofs.Ytimcbhhebnikiaa.Ab
open Go
set_option linter.unusedVariables false
set_option linter.unusedSimpArgs false
def PI (C:Ctx) (fr:Bool) (bs:List Nat) (rb:Nat):Prop:=(fr=false∧C.imm rb)∨∃b∈bs,C.φ b=some rb
def PC (C:Ctx) (fr:Bool) (bs:List Nat):Ctx:={φ:=fun _=> none,imm:=PI C fr bs}
section
variable {P : Program} {C : Ctx} {K : Nat → Option AObj} {w : World} {h : AH}
theorem z6d {C C':Ctx} (hφ:∀b rb,C.φ b=some rb→C'.φ b=some rb) (hi:∀b,C.imm b→C'.imm b):Mono C w C' w:=⟨hφ,hi,fun _ _=> rfl,fun _ c _ _ e=> ⟨c,e,rfl⟩⟩
theorem zma {fr:Bool} {bs bs':List Nat} (hs:∀b∈bs,b∈bs'):Mono (PC C fr bs) w (PC C fr bs') w:=
 z6d (fun _ _ h=> h) fun rb h=> h.imp id fun ⟨b,hb,e⟩=> ⟨b,hs b hb,e⟩
theorem z9c {f:AV→Option (AV×List Nat)} {fr:Bool} (hf:∀v v' bs x,f v=some (v',bs)→(∀b∈bs,K b=h.get b)→x3 C w v x→x3 (PC C fr bs) w v' x) {one:Bool}:
 ∀{xs ys:List AV} {bs:List Nat} {vs:List Value},z0b f xs=some (ys,bs)→(∀b∈bs,K b=h.get b)→LRel C w one xs vs→LRel (PC C fr bs) w one ys vs
 | [],ys,bs,vs,hm,hK,hl=> by
   simp only [z0b,Option.some.injEq,Prod.mk.injEq] at hm
   obtain ⟨rfl,rfl⟩:=hm
   simp only [LRel] at hl⊢;exact hl
 | x::xs,ys,bs,vs,hm,hK,hl=> by
   simp only [z0b] at hm
   split at hm
   · rename_i v' b1 h1
     split at hm
     · rename_i r' b2 h2
       simp only [Option.some.injEq,Prod.mk.injEq] at hm
       obtain ⟨rfl,rfl⟩:=hm
       simp only [LRel] at hl
       obtain ⟨v,r,rfl,ho,hv,hl⟩:=hl
       refine LRel.cons ho ?_ ?_
       · exact x3.mono (zma fun b hb=> by simp [hb]) _ _ (hf x v' b1 v h1 (fun b hb=> hK b (by simp [hb])) hv)
       · exact LRel.mono (zma fun b hb=> by simp [hb]) _ _ _ (z9c hf h2 (fun b hb=> hK b (by simp [hb])) hl)
     · cases hm
   · cases hm
theorem z8u (hS:Sim C K w) (fr:Bool):∀(k:Nat) (v v':AV) (bs:List Nat) (x:Value),t7 h fr k v=some (v',bs)→(∀b∈bs,K b=h.get b)→x3 C w v x→x3 (PC C fr bs) w v' x:=by
 intro k
 induction k with
 | zero=> intro v v' bs x hp;simp [t7] at hp
 | succ k ih=>
   intro v v' bs x hp hK hv
   cases v with
   | i n=> simp only [t7,Option.some.injEq,Prod.mk.injEq] at hp;obtain ⟨rfl,rfl⟩:=hp;simpa only [x3] using hv
   | y n=> simp only [t7,Option.some.injEq,Prod.mk.injEq] at hp;obtain ⟨rfl,rfl⟩:=hp;simpa only [x3] using hv
   | b n=> simp only [t7,Option.some.injEq,Prod.mk.injEq] at hp;obtain ⟨rfl,rfl⟩:=hp;simpa only [x3] using hv
   | st n=> simp only [t7,Option.some.injEq,Prod.mk.injEq] at hp;obtain ⟨rfl,rfl⟩:=hp;simpa only [x3] using hv
   | sc n=> simp only [t7,Option.some.injEq,Prod.mk.injEq] at hp;obtain ⟨rfl,rfl⟩:=hp;simpa only [x3] using hv
   | nl=>
     simp only [t7,Option.some.injEq,Prod.mk.injEq] at hp;obtain ⟨rfl,rfl⟩:=hp
     simp only [x3] at hv⊢
     obtain ⟨a,rfl⟩:=hv
     exact ⟨a,0,rfl,Nat.le_refl _,by simp⟩
   | sl n cs=>
     simp only [t7] at hp
     split at hp
     · cases hp
     · rename_i hc
       simp only [Option.some.injEq,Prod.mk.injEq] at hp;obtain ⟨rfl,rfl⟩:=hp
       simp only [x3] at hv⊢
       obtain ⟨a,c,rfl,hle,h0 | ⟨ad,vs,rfl,h2,h3,h4,h5⟩⟩:=hv
       · exact ⟨a,c,rfl,hle,.inl h0⟩
       · by_cases hn:n=0
         · exact ⟨_,c,rfl,hle,.inl hn⟩
         · have hfr:fr=false:=by cases fr with | false=> rfl | true=> exact absurd ⟨rfl,hn⟩ hc
           refine ⟨_,c,rfl,hle,.inr ⟨ad,vs,rfl,h2,.inl ⟨hfr,h3⟩,?_,h5⟩⟩
           exact LRel.mono (z6d (C:=C.pure) (C':=(PC C fr []).pure) (fun _ _ e=> (by cases e)) fun b hb=> Or.inl ⟨hfr,hb⟩) _ _ _ h4
   | rf b z off n=>
     simp only [t7] at hp
     split at hp
     · rename_i cs hcs
       split at hp
       · rename_i hle
         split at hp
         · rename_i cs' bs' hm
           simp only [Option.some.injEq,Prod.mk.injEq] at hp;obtain ⟨rfl,rfl⟩:=hp
           simp only [x3] at hv⊢
           obtain ⟨a,c,rfl,hc,h0 | ⟨rb,h2,rfl,h3⟩⟩:=hv
           · exact ⟨a,c,rfl,hc,.inl (by omega)⟩
           · have hk:K b=some (.cells cs)∨K b=some (.ro cs):=by rw [hK b (by simp)];exact z5q hcs
             obtain ⟨vs,e1,e2⟩:=zdh hS hk h2
             have hl:=z9c (f:=t7 h fr k) (fr:=fr) (fun v v' bs x=> ih v v' bs x) hm (fun b hb=> hK b (by simp [hb])) ((e2.drop off).take (n*z))
             refine ⟨_,c,rfl,hc,.inr ⟨_,(vs.drop off).take (n*z),rfl,rfl,.inr ⟨b,by simp,h2⟩,?_,(by simpa using e1.drop off:z0s w rb off _).take _⟩⟩
             exact LRel.mono (zma (fr:=fr) (bs:=bs') (bs':=b::bs') fun b hb=> by simp [hb]) _ _ _ hl
         · cases hp
       · cases hp
     · cases hp
   | pt b o=> simp [t7] at hp
   | ip cs=>
     simp only [t7] at hp
     split at hp
     · cases hp
     · rename_i hfr0
       have hfr:fr=false:=by cases fr with | false=> rfl | true=> exact absurd rfl hfr0
       simp only [Option.some.injEq,Prod.mk.injEq] at hp;obtain ⟨rfl,rfl⟩:=hp
       simp only [x3] at hv⊢
       obtain ⟨ad,vs,rfl,h2,h3,h4,h5⟩:=hv
       exact ⟨ad,vs,rfl,h2,.inl ⟨hfr,h3⟩,LRel.mono (z6d (C:=C.pure) (C':=(PC C fr []).pure) (fun _ _ e=> (by cases e)) fun b hb=> Or.inl ⟨hfr,hb⟩) _ _ _ h4,h5⟩
   | ag xs=>
     simp only [t7] at hp
     cases hm:z0b (t7 h fr k) xs with
     | none=> rw [hm] at hp;cases hp
     | some q=>
       rw [hm] at hp
       simp only [Option.map_some,Option.some.injEq,Prod.mk.injEq] at hp;obtain ⟨rfl,rfl⟩:=hp
       simp only [x3] at hv⊢
       obtain ⟨vs,rfl,hl⟩:=hv
       exact ⟨vs,rfl,z9c (f:=t7 h fr k) (fun v v' bs x=> ih v v' bs x) hm hK hl⟩
   | tu xs=>
     simp only [t7] at hp
     cases hm:z0b (t7 h fr k) xs with
     | none=> rw [hm] at hp;cases hp
     | some q=>
       rw [hm] at hp
       simp only [Option.map_some,Option.some.injEq,Prod.mk.injEq] at hp;obtain ⟨rfl,rfl⟩:=hp
       simp only [x3] at hv⊢
       obtain ⟨vs,rfl,hl⟩:=hv
       exact ⟨vs,rfl,z9c (f:=t7 h fr k) (fun v v' bs x=> ih v v' bs x) hm hK hl⟩
   | fn f cap=>
     simp only [t7] at hp
     split at hp
     · simp only [Option.some.injEq,Prod.mk.injEq] at hp;obtain ⟨rfl,rfl⟩:=hp
       simp only [x3,LRel] at hv⊢
       exact hv
     · cases hp
   | top=> simp [t7] at hp
   | yl b=> simp [t7] at hp
   | mp b=> simp [t7] at hp
/-! ### Blocks that nobody writes any more -/
def zg3:Option AObj→Option AObj
 | some (.cells cs)=> some (.ro cs)
 | o=> o
def znb (K:Nat→Option AObj) (bs:List Nat):Nat→Option AObj:=fun b=> if b∈bs then zg3 (K b) else K b
theorem y0a (h:AH) (b x:Nat):(h.fix b).get x=if x=b then zg3 (h.get x) else h.get x:=by
 unfold AH.fix
 split
 · rename_i cs hg
   rw [AH.get_put]
   by_cases e:x=b
   · subst e;simp [z6e,hg,zg3]
   · simp [e,Ne.symm e]
 · rename_i hno
   by_cases e:x=b
   · subst e
     rw [if_pos rfl]
     cases hg:h.get x with
     | none=> rfl
     | some o=> cases o <;> first | rfl | exact absurd hg (hno _)
   · simp [e]
theorem zvz (o:Option AObj):zg3 (zg3 o)=zg3 o:=by
 cases o with
 | none=> rfl
 | some o=> cases o <;> rfl
theorem zda:∀(bs:List Nat) (h:AH) (x:Nat),(z3a h bs).get x=znb h.get bs x
 | [],h,x=> by simp [z3a,znb]
 | b::bs,h,x=> by
   rw [z3a,zda bs (h.fix b) x]
   simp only [znb,y0a,List.mem_cons]
   by_cases e1:x=b
   · subst e1
     by_cases e2:x∈bs
     · simp [e2,zvz]
     · simp [e2]
   · simp [e1]
theorem zez:∀(bs:List Nat) (h:AH),(z3a h bs).nx=h.nx
 | [],h=> rfl
 | b::bs,h=> by
   rw [z3a,zez bs]
   unfold AH.fix
   split <;> rfl
def fixC (C:Ctx) (K:Nat→Option AObj) (bs:List Nat):Ctx:={C with imm:=fun rb=> C.imm rb∨∃b∈bs,(∃cs,K b=some (.cells cs))∧C.φ b=some rb}
theorem zed (bs:List Nat):Step C w (fixC C K bs) w:=
 ⟨fun _ _ h=> h,fun _ _ h=> .inl h,fun _ h=> .inl h,fun _ h=> h.imp id fun ⟨b,_,_,e⟩=> .inr ⟨b,e⟩,Nat.le_refl _,fun _ _ _=> rfl,fun _ _=> rfl,fun _ c _ _ e=> ⟨c,e,rfl⟩,rfl⟩
theorem y0c (hS:Sim C K w) (bs:List Nat):Sim (fixC C K bs) (znb K bs) w where
 at_ b o e:=by
  unfold znb at e
  by_cases hb:b∈bs
  · rw [if_pos hb] at e
    cases hk:K b with
    | none=> rw [hk] at e;cases e
    | some o0=>
      rw [hk] at e
      rcases hS.at_ b o0 hk with ⟨g,g'⟩ | ⟨rb,g1,g2,g3⟩
      · refine .inl ⟨g,?_⟩
        cases o0 <;> simp only [zg3,Option.some.injEq] at e <;> subst e <;> first | exact g' | skip
        rename_i cs
        cases cs with
        | nil=> rfl
        | cons _ _=> simp [isNone] at g'
      · refine .inr ⟨rb,g1,?_,?_⟩
        · cases o0 with
          | cells cs=>
            simp only [zg3,Option.some.injEq] at e;subst e
            obtain ⟨vs,k1,k2⟩:=zdh hS (.inl hk) g1
            exact ⟨vs,k1,k2.step (zed bs)⟩
          | _=> simp only [zg3,Option.some.injEq] at e;subst e;exact g2.step (zed bs) rfl
        · cases o0 with
          | cells cs=>
            simp only [zg3,Option.some.injEq] at e;subst e
            exact ⟨fun _=> .inr ⟨b,hb,⟨cs,hk⟩,g1⟩,fun _=> rfl⟩
          | _=>
            simp only [zg3,Option.some.injEq] at e;subst e
            refine ⟨fun hr=> .inl (g3.1 hr),fun hi=> ?_⟩
            rcases hi with hi | ⟨b',hb',⟨cs,hk'⟩,e'⟩
            · exact g3.2 hi
            · have:=hS.inj b' b _ _ rb hk' hk rfl e' g1
              subst this;rw [hk'] at hk;cases hk
  · rw [if_neg hb] at e
    rcases hS.at_ b o e with ⟨g,g'⟩ | ⟨rb,g1,g2,g3⟩
    · exact .inl ⟨g,g'⟩
    · refine .inr ⟨rb,g1,g2.step (zed bs) rfl,fun hr=> .inl (g3.1 hr),fun hi=> ?_⟩
      rcases hi with hi | ⟨b',hb',⟨cs,hk'⟩,e'⟩
      · exact g3.2 hi
      · have:=hS.inj b' b _ _ rb hk' e rfl e' g1
        subst this;exact absurd hb' hb
 inj b b' o o' rb e1 e2 hro f1 f2:=by
  unfold znb at e1 e2
  have h1:∃q,K b=some q∧z9r q=false:=by
   by_cases hb:b∈bs
   · rw [if_pos hb] at e1
     cases hk:K b with
     | none=> rw [hk] at e1;cases e1
     | some q=> rw [hk] at e1;refine ⟨q,rfl,?_⟩;cases q <;> simp only [zg3,Option.some.injEq] at e1 <;> subst e1 <;> first | exact hro | (simp [z9r] at hro)
   · rw [if_neg hb] at e1;exact ⟨o,e1,hro⟩
  have h2:∃q,K b'=some q:=by
   by_cases hb:b'∈bs
   · rw [if_pos hb] at e2
     cases hk:K b' with
     | none=> rw [hk] at e2;cases e2
     | some q=> exact ⟨q,rfl⟩
   · rw [if_neg hb] at e2;exact ⟨o',e2⟩
  obtain ⟨q,k1,k2⟩:=h1
  obtain ⟨q',k3⟩:=h2
  exact hS.inj b b' q q' rb k1 k3 k2 f1 f2
 φlt:=hS.φlt
 immlt b e:=by
  rcases e with e | ⟨x,_,_,e⟩
  · exact hS.immlt b e
  · exact hS.φlt x b e
end
end Go.Proofs.Ytimcbhhebnikiaa.Ab
namespace Go.Proofs.Ytimcbhhebnikiaa.Ab
open Go
set_option linter.unusedVariables false
set_option linter.unusedSimpArgs false
theorem z8x.mono {C C':Ctx} {w w':World} (h:Mono C w C' w'):∀{es:List (AV×AV)} {ms:List MapEntry},z8x C w es ms→z8x C' w' es ms
 | [],_,r=> r
 | (k,v)::es,ms,r=> by
   obtain ⟨e,es',rfl,h1,h2,h3⟩:=r
   exact ⟨e,es',rfl,x3.mono h _ _ h1,x3.mono h _ _ h2,h3.mono h⟩
theorem z2z.mono {C C':Ctx} {w w':World} {T:Tm} {tmps:Array Value} (h:Mono C w C' w') (r:z2z C w T tmps):z2z C' w' T tmps:=
 fun i=> x3.mono h _ _ (r i)
theorem z6k.mono' {C C':Ctx} {w w':World} (h:Mono C w C' w') {rb:Nat} (e:w'.heap[rb]? =w.heap[rb]?):∀{o:AObj},z6k C w rb o→z6k C' w' rb o
 | .dead,r=> r
 | .cells cs,⟨vs,rest,T,h1,h2⟩=> ⟨vs,rest,T,by rw [e,h1],LRel.mono h _ _ _ h2⟩
 | .ro cs,⟨vs,h1,h2⟩=> ⟨vs,fun i v hv=> by have:=h1 i v hv;unfold World.cell? at*;simpa only [e] using this,LRel.mono h _ _ _ h2⟩
 | .map es,⟨ms,cl,h1,h2⟩=> ⟨ms,cl,by rw [e,h1],h2.mono h⟩
 | .loop s p T n ps a b,⟨l,h1,h2,h3,h4,h5,h6,h7,h8⟩=> ⟨l,by rw [e,h1],h2,h3,h4,h5,h6,h7,h8.mono h⟩
theorem z6k.mono {C C':Ctx} {w w':World} {rb:Nat} {o:AObj} (r:z6k C w rb o) (h:Mono C w C' w') (e:w'.heap[rb]? =w.heap[rb]?):z6k C' w' rb o:=z6k.mono' h e r
/-! ### The leaves that are taken over -/
def lv1:AV→List Nat
 | .rf b _ _ _=> [b]
 | .mp b=> [b]
 | _=> []
def lvA:AV→List Nat
 | .ag xs=> xs.flatMap lv1
 | v=> lv1 v
def lvT:AV→List Nat
 | .tu xs=> xs.flatMap lvA
 | v=> lvA v
def z77 (h h':AH) (L:List Nat):Prop:=L.Nodup∧(∀b∈L,∃o,h.get b=some o∧z9r o=false)∧∀b,h'.get b=if b∈L then none else h.get b
theorem z77.nil (h:AH):z77 h h []:=⟨List.nodup_nil,by simp,by simp⟩
theorem z77.trans {h h' h'':AH} {L M:List Nat} (a:z77 h h' L) (b:z77 h' h'' M):z77 h h'' (L++M):=by
 obtain ⟨a1,a2,a3⟩:=a
 obtain ⟨b1,b2,b3⟩:=b
 refine ⟨List.nodup_append.2 ⟨a1,b1,?_⟩,?_,?_⟩
 · intro x hx y hy e
   subst e
   obtain ⟨o,ho,_⟩:=b2 x hy
   rw [a3,if_pos hx] at ho;cases ho
 · intro x hx
   rcases List.mem_append.1 hx with hx | hx
   · exact a2 x hx
   · obtain ⟨o,ho,hr⟩:=b2 x hx
     rw [a3] at ho
     split at ho
     · cases ho
     · exact ⟨o,ho,hr⟩
 · intro x
   rw [b3,a3]
   by_cases h1:x∈L <;> by_cases h2:x∈M <;> simp [h1,h2]
theorem z77.one {h:AH} {b:Nat} {o:AObj} (ho:h.get b=some o) (hr:z9r o=false):z77 h (h.kill b) [b]:=
 ⟨by simp,by simpa using ⟨o,ho,hr⟩,fun x=> by
   rw [AH.get_kill]
   by_cases e:x=b
   · subst e;simp
   · rw [if_neg (fun h=> e h.symm),if_neg (by simpa using e)]⟩
theorem z73 {h h':AH} {v:AV} (hg:zfw h v=some h'):z77 h h' (lv1 v):=by
 unfold zfw at hg
 split at hg
 · split at hg
   · rename_i hw;injection hg with hg;subst hg;exact z77.one (z6a hw) rfl
   · cases hg
 · split at hg
   · rename_i hw;injection hg with hg;subst hg;exact z77.one hw rfl
   · cases hg
 · injection hg with hg;subst hg
   cases v <;> first | exact z77.nil _ | skip
   · rename_i h1 _;exact absurd rfl (h1 _ _ _ _)
   · rename_i h1;exact absurd rfl (h1 _)
theorem zd5:∀{xs:List AV} {h h':AH},zhq h xs=some h'→z77 h h' (xs.flatMap lv1)
 | [],h,h',hg=> by simp only [zhq,Option.some.injEq] at hg;subst hg;exact z77.nil _
 | v::xs,h,h',hg=> by
   simp only [zhq] at hg
   split at hg
   · rename_i h1 hh;rw [List.flatMap_cons];exact (z73 hh).trans (zd5 hg)
   · cases hg
theorem zst {v:AV} {h h':AH} (hg:(match v with | .ag xs=> zhq h xs | v=> zfw h v)=some h'):z77 h h' (lvA v):=by
 cases v with
 | ag xs=> exact @zd5 xs h h' hg
 | rf a b c d=> exact @z73 h h' (.rf a b c d) hg
 | mp b=> exact @z73 h h' (.mp b) hg
 | _=> simp only [zfw,Option.some.injEq] at hg;subst hg;exact z77.nil _
theorem zha:∀{xs:List AV} {h h':AH},zqg h xs=some h'→z77 h h' (xs.flatMap lvA)
 | [],h,h',hg=> by simp only [zqg,Option.some.injEq] at hg;subst hg;exact z77.nil _
 | v::xs,h,h',hg=> by
   simp only [zqg] at hg
   split at hg
   · rename_i h1 hh;rw [List.flatMap_cons];exact (zst hh).trans (zha hg)
   · cases hg
theorem zlf {v:AV} {h h':AH} (hg:zpw h v=some h'):z77 h h' (lvT v):=by
 cases v with
 | tu xs=> exact @zha xs h h' hg
 | ag xs=> exact @zd5 xs h h' hg
 | rf a b c d=> exact @z73 h h' (.rf a b c d) hg
 | mp b=> exact @z73 h h' (.mp b) hg
 | _=> simp only [zpw,zfw,Option.some.injEq] at hg;subst hg;exact z77.nil _
/-! ### Taken over, one by one -/
section
variable {P : Program} {w1 : World} {C1 Cx : Ctx} {h1 h2 : AH} {fr : Bool} {s0 : Nat} {L : List Nat}
def za8 (C1 Cx:Ctx) (h2:AH) (fr:Bool) (s0:Nat) (rb:Nat):Prop:=Cx.imm rb∨(s0≤rb∧((fr=false∧C1.imm rb)∨∃b,(∃o,h2.get b=some o)∧C1.φ b=some rb))
structure Over (C1 Cx:Ctx) (h1 h2:AH) (fr:Bool) (s0:Nat) (w1:World) (L:List Nat):Prop where
 S1:Sim C1 h1.get w1
 less:z77 h1 h2 L
 fresh:∀b rb,C1.φ b=some rb→s0≤rb
 old:∀rb,Cx.imm rb→rb < s0
 oldφ:∀b rb,Cx.φ b=some rb→rb < s0
 inew:∀rb,fr=false→C1.imm rb→Cx.imm rb∨s0≤rb
structure Sofar (C1 Cx:Ctx) (h1 h2:AH) (fr:Bool) (s0:Nat) (w1:World) (L:List Nat) (n0:Nat) (φ3:Nat→Option Nat) (K3:Nat→Option AObj) (H:AH) (D:List Nat):Prop where
 S3:Sim ⟨φ3,za8 C1 Cx h2 fr s0⟩ K3 w1
 nx:n0≤H.nx
 from_:∀b rb,φ3 b=some rb→Cx.φ b=some rb∨∃x∈D,C1.φ x=some rb
 keep:∀b rb,Cx.φ b=some rb→φ3 b=some rb
 none_:∀b,Cx.φ b=none→(b < n0∨H.nx≤b)→φ3 b=none
 view:∀b,n0≤b→b < H.nx→K3 b=H.get b
theorem zjl (O:Over C1 Cx h1 h2 fr s0 w1 L) {bs:List Nat} (hbs:∀b∈bs,∃o,h2.get b=some o):∀rb,PI C1 fr bs rb→za8 C1 Cx h2 fr s0 rb:=by
 intro rb hp
 rcases hp with ⟨hf,hi⟩ | ⟨b,hb,e⟩
 · rcases O.inew rb hf hi with g | g
   · exact .inl g
   · exact .inr ⟨g,.inl ⟨hf,hi⟩⟩
 · exact .inr ⟨O.fresh b rb e,.inr ⟨b,hbs b hb,e⟩⟩
theorem zj3 (h:AH) (fr:Bool):∀(k:Nat) (v v':AV) (bs:List Nat),t7 h fr k v=some (v',bs)→∀b∈bs,∃cs,h.cells b=some cs:=by
 intro k
 induction k with
 | zero=> intro v v' bs hp;simp [t7] at hp
 | succ k ih=>
   have hm:∀(xs ys:List AV) (bs:List Nat),z0b (t7 h fr k) xs=some (ys,bs)→∀b∈bs,∃cs,h.cells b=some cs:=by
    intro xs
    induction xs with
    | nil=> intro ys bs hm;simp only [z0b,Option.some.injEq,Prod.mk.injEq] at hm;obtain ⟨_,rfl⟩:=hm;simp
    | cons x xs ihx=>
      intro ys bs hm
      simp only [z0b] at hm
      split at hm
      · rename_i v' b1 hv
        split at hm
        · rename_i r' b2 hr
          simp only [Option.some.injEq,Prod.mk.injEq] at hm;obtain ⟨_,rfl⟩:=hm
          intro b hb
          rcases List.mem_append.1 hb with hb | hb
          · exact ih _ _ _ hv b hb
          · exact ihx _ _ hr b hb
        · cases hm
      · cases hm
   intro v v' bs hp
   cases v <;> simp only [t7] at hp
   case rf b z off n=>
    split at hp
    · rename_i cs hcs
      split at hp
      · split at hp
        · rename_i cs' bs' hmm
          simp only [Option.some.injEq,Prod.mk.injEq] at hp;obtain ⟨_,rfl⟩:=hp
          intro x hx
          rcases List.mem_cons.1 hx with rfl | hx
          · exact ⟨_,hcs⟩
          · exact hm _ _ _ hmm x hx
        · cases hp
      · cases hp
    · cases hp
   case ag xs=>
    cases hq:z0b (t7 h fr k) xs with
    | none=> rw [hq] at hp;cases hp
    | some q=> rw [hq] at hp;simp only [Option.map_some,Option.some.injEq,Prod.mk.injEq] at hp;obtain ⟨_,rfl⟩:=hp;exact hm _ _ _ hq
   case tu xs=>
    cases hq:z0b (t7 h fr k) xs with
    | none=> rw [hq] at hp;cases hp
    | some q=> rw [hq] at hp;simp only [Option.map_some,Option.some.injEq,Prod.mk.injEq] at hp;obtain ⟨_,rfl⟩:=hp;exact hm _ _ _ hq
   case fn f cap=> split at hp <;> first | (simp only [Option.some.injEq,Prod.mk.injEq] at hp;obtain ⟨_,rfl⟩:=hp;simp) | cases hp
   case sl n cs=> split at hp <;> first | (simp only [Option.some.injEq,Prod.mk.injEq] at hp;obtain ⟨_,rfl⟩:=hp;simp) | cases hp
   case ip cs=> split at hp <;> first | (simp only [Option.some.injEq,Prod.mk.injEq] at hp;obtain ⟨_,rfl⟩:=hp;simp) | cases hp
   all_goals first | (simp only [Option.some.injEq,Prod.mk.injEq] at hp;obtain ⟨_,rfl⟩:=hp;simp;done) | cases hp
theorem zcs {h:AH} {fr:Bool} {k:Nat}:∀{xs ys:List AV} {bs:List Nat},z0b (t7 h fr k) xs=some (ys,bs)→∀b∈bs,∃cs,h.cells b=some cs
 | [],ys,bs,hm=> by simp only [z0b,Option.some.injEq,Prod.mk.injEq] at hm;obtain ⟨_,rfl⟩:=hm;simp
 | x::xs,ys,bs,hm=> by
   simp only [z0b] at hm
   split at hm
   · rename_i v' b1 hv
     split at hm
     · rename_i r' b2 hr
       simp only [Option.some.injEq,Prod.mk.injEq] at hm;obtain ⟨_,rfl⟩:=hm
       intro b hb
       rcases List.mem_append.1 hb with hb | hb
       · exact zj3 _ _ _ _ _ _ hv b hb
       · exact zcs hr b hb
     · cases hm
   · cases hm
theorem zgz {h:AH} {b:Nat} (e:∃cs,h.cells b=some cs):∃o,h.get b=some o:=by
 obtain ⟨cs,e⟩:=e
 rcases z5q e with g | g <;> exact ⟨_,g⟩
theorem zu9 (h:AH) (fr:Bool) (k:Nat) (v v':AV) (bs:List Nat) (hp:t7 h fr k v=some (v',bs)):∀b∈bs,∃o,h.get b=some o:=fun b hb=> zgz (zj3 h fr k v v' bs hp b hb)
theorem zuk {h:AH} {fr:Bool} {k:Nat} {xs ys:List AV} {bs:List Nat} (hm:z0b (t7 h fr k) xs=some (ys,bs)):∀b∈bs,∃o,h.get b=some o:=fun b hb=> zgz (zcs hm b hb)
theorem zfc (O:Over C1 Cx h1 h2 fr s0 w1 L) {b:Nat} (h:∃o,h2.get b=some o):h1.get b=h2.get b:=by
 obtain ⟨o,ho⟩:=h
 have:=O.less.2.2 b
 split at this
 · rw [this] at ho;cases ho
 · exact this.symm
theorem zf3 (O:Over C1 Cx h1 h2 fr s0 w1 L) (φ3:Nat→Option Nat) {v v':AV} {bs:List Nat} {x:Value} (hp:t7 h2 fr z1b v=some (v',bs)) (hv:x3 C1 w1 v x):
 x3 ⟨φ3,za8 C1 Cx h2 fr s0⟩ w1 v' x:=by
 have hl:=zu9 _ _ _ _ _ _ hp
 have:=z8u O.S1 fr z1b v v' bs x hp (fun b hb=> zfc O (hl b hb)) hv
 exact x3.mono (z6d (fun _ _ e=> (by cases e)) (zjl O hl)) _ _ this
theorem zrb (O:Over C1 Cx h1 h2 fr s0 w1 L) (φ3:Nat→Option Nat) {xs ys:List AV} {bs:List Nat} {vs:List Value} {one:Bool} (hp:z0b (t7 h2 fr z1b) xs=some (ys,bs)) (hv:LRel C1 w1 one xs vs):
 LRel ⟨φ3,za8 C1 Cx h2 fr s0⟩ w1 one ys vs:=by
 have hl:=zuk hp
 have:=z9c (K:=h1.get) (h:=h2) (fr:=fr) (fun v v' bs x h hk hv=> z8u O.S1 fr z1b v v' bs x h hk hv) hp (fun b hb=> zfc O (hl b hb)) hv
 exact LRel.mono (z6d (fun _ _ e=> (by cases e)) (zjl O hl)) _ _ _ this
theorem zv4 (O:Over C1 Cx h1 h2 fr s0 w1 L) {n0:Nat} {φ3:Nat→Option Nat} {K3:Nat→Option AObj} {H:AH} {D:List Nat} (T:Sofar C1 Cx h1 h2 fr s0 w1 L n0 φ3 K3 H D) (hfr:Cx.φ H.nx=none) (hD:∀b∈D,b∈L)
 {b rb:Nat} (hb:b∈L) (hbD:b ∉ D) (hφ:C1.φ b=some rb) {o:AObj} (hro:z9r o=false) (hlive:z6e o=some o) (hR:∀φ:Nat→Option Nat,z6k ⟨φ,za8 C1 Cx h2 fr s0⟩ w1 rb o):
 Sofar C1 Cx h1 h2 fr s0 w1 L n0 (fun x=> if x=H.nx then some rb else φ3 x) (z1i K3 H.nx (some o)) (H.new o) (b::D):=by
 obtain ⟨ob,hob,hrob⟩:=O.less.2.1 b hb
 have hs0:=O.fresh b rb hφ
 have hinj:∀x,(∃q,h1.get x=some q)→C1.φ x=some rb→x=b:=fun x ⟨q,hq⟩ e=> (O.S1.inj b x ob q rb hob hq hrob hφ e).symm
 have hC1:¬C1.imm rb:=by
  rcases O.S1.at_ b ob hob with ⟨g,_⟩ | ⟨rb',g1,_,g3⟩
  · rw [g] at hφ;cases hφ
  · rw [g1] at hφ;injection hφ with hφ;subst hφ
    exact fun hi=> by have:=g3.2 hi;rw [hrob] at this;cases this
 have hni:¬za8 C1 Cx h2 fr s0 rb:=by
  rintro (hi | ⟨_,⟨_,hi⟩ | ⟨x,hx,e⟩⟩)
  · have:=O.old rb hi;omega
  · exact hC1 hi
  · have hx1:=zfc O hx
    obtain ⟨q,hq⟩:=hx
    have:=hinj x ⟨q,by rw [hx1,hq]⟩ e
    subst this
    have:=O.less.2.2 x
    rw [if_pos hb] at this
    rw [this] at hq;cases hq
 have hnx:φ3 H.nx=none:=T.none_ _ hfr (.inr (Nat.le_refl _))
 have hno:∀x,φ3 x≠some rb:=by
  intro x e
  rcases T.from_ x rb e with g | ⟨y,hy,g⟩
  · have:=O.oldφ x rb g;omega
  · obtain ⟨q,hq,_⟩:=O.less.2.1 y (hD y hy)
    have:=hinj y ⟨q,hq⟩ g
    subst this;exact hbD hy
 refine ⟨⟨fun x o' e=> ?_,fun x x' o1 o2 r e1 e2 hr f1 f2=> ?_,fun x r e=> ?_,T.S3.immlt⟩,by simpa using Nat.le_succ_of_le T.nx,fun x r e=> ?_,fun x r e=> ?_,fun x e hx=> ?_,fun x hx hlt=> ?_⟩
 · unfold z1i at e
   split at e
   · rename_i h;subst h
     injection e with e;subst e
     refine .inr ⟨rb,by simp,hR _,?_⟩
     rw [hro];exact ⟨fun h=> (by cases h),fun h=> absurd h hni⟩
   · rename_i h
     rcases T.S3.at_ x o' e with ⟨g,g'⟩ | ⟨r,g1,g2,g3⟩
     · exact .inl ⟨by simpa [h] using g,g'⟩
     · refine .inr ⟨r,by simpa [h] using g1,?_,g3⟩
       refine g2.mono (z6d (fun y r' e'=> ?_) fun _ h=> h) rfl
       have hne:y≠H.nx:=fun h=> by rw [h] at e';have e'':φ3 H.nx=some r':=e';rw [hnx] at e'';cases e''
       show (if y=H.nx then some rb else φ3 y)=some r'
       rw [if_neg hne];exact e'
 · unfold z1i at e1 e2
   simp only at f1 f2
   by_cases h1:x=H.nx <;> by_cases h2:x'=H.nx
   · rw [h1,h2]
   · rw [if_pos h1] at f1;rw [if_neg h2] at f2
     injection f1 with f1;subst f1;exact absurd f2 (hno _)
   · rw [if_neg h1] at f1;rw [if_pos h2] at f2
     injection f2 with f2;subst f2;exact absurd f1 (hno _)
   · rw [if_neg h1] at f1 e1;rw [if_neg h2] at f2 e2
     exact T.S3.inj x x' o1 o2 r e1 e2 hr f1 f2
 · simp only at e
   split at e
   · injection e with e;subst e;exact O.S1.φlt b _ hφ
   · exact T.S3.φlt x r e
 · split at e
   · injection e with e;subst e;exact .inr ⟨b,by simp,hφ⟩
   · rcases T.from_ x r e with g | ⟨y,hy,g⟩
     · exact .inl g
     · exact .inr ⟨y,by simp [hy],g⟩
 · have:=T.keep x r e
   have hne:x≠H.nx:=fun h=> by rw [h,hnx] at this;cases this
   rw [if_neg hne];exact this
 · simp only [AH.nx_new] at hx
   have hne:x≠H.nx:=by have:=T.nx;omega
   rw [if_neg hne];exact T.none_ x e (by omega)
 · unfold z1i
   rw [AH.get_new]
   by_cases e:x=H.nx
   · subst e;simp [hlive]
   · rw [if_neg e,if_neg (Ne.symm e)]
     exact T.view x hx (by simp at hlt;omega)
theorem zch {n0:Nat} {φ3:Nat→Option Nat} {K3:Nat→Option AObj} {H:AH} {D:List Nat} (T:Sofar C1 Cx h1 h2 fr s0 w1 L n0 φ3 K3 H D) (hfr:Cx.φ H.nx=none):
 Sofar C1 Cx h1 h2 fr s0 w1 L n0 φ3 (z1i K3 H.nx (some (.cells []))) (H.new (.cells [])) D:=by
 refine ⟨z85 T.S3 (T.none_ _ hfr (.inr (Nat.le_refl _))),by simpa using Nat.le_succ_of_le T.nx,T.from_,T.keep,fun x e hx=> T.none_ x e (by simp at hx;omega),fun x hx hlt=> ?_⟩
 unfold z1i
 rw [AH.get_new]
 by_cases e:x=H.nx
 · subst e;simp [z6e]
 · rw [if_neg e,if_neg (Ne.symm e)]
   exact T.view x hx (by simp at hlt;omega)
theorem zcp {n0:Nat} {φ3:Nat→Option Nat} {K3:Nat→Option AObj} {H:AH} {D D':List Nat} (T:Sofar C1 Cx h1 h2 fr s0 w1 L n0 φ3 K3 H D) (hD:∀b∈D,b∈D'):
 Sofar C1 Cx h1 h2 fr s0 w1 L n0 φ3 K3 H D':=
 ⟨T.S3,T.nx,fun b rb e=> (T.from_ b rb e).imp id fun ⟨x,hx,g⟩=> ⟨x,hD x hx,g⟩,T.keep,T.none_,T.view⟩
structure Took (C1 Cx:Ctx) (h1 h2:AH) (fr:Bool) (s0:Nat) (w1:World) (L:List Nat) (n0:Nat) (φ3:Nat→Option Nat) (K3:Nat→Option AObj) (H:AH) (φ4:Nat→Option Nat) (K4:Nat→Option AObj) (H':AH) (D':List Nat):Prop where
 S:Sofar C1 Cx h1 h2 fr s0 w1 L n0 φ4 K4 H' D'
 keep:∀b r,φ3 b=some r→φ4 b=some r
 old:∀b,(b < H.nx∨H'.nx≤b)→K4 b=K3 b
theorem Took.refl {n0:Nat} {φ3:Nat→Option Nat} {K3:Nat→Option AObj} {H:AH} {D:List Nat} (T:Sofar C1 Cx h1 h2 fr s0 w1 L n0 φ3 K3 H D):Took C1 Cx h1 h2 fr s0 w1 L n0 φ3 K3 H φ3 K3 H D:=
 ⟨T,fun _ _ h=> h,fun _ _=> rfl⟩
theorem Took.trans {n0:Nat} {φ3 φ4 φ5:Nat→Option Nat} {K3 K4 K5:Nat→Option AObj} {H H' H'':AH} {D' D'':List Nat} (T:Took C1 Cx h1 h2 fr s0 w1 L n0 φ3 K3 H φ4 K4 H' D') (U:Took C1 Cx h1 h2 fr s0 w1 L n0 φ4 K4 H' φ5 K5 H'' D'') (hn1:H.nx≤H'.nx) (hn2:H'.nx≤H''.nx):
 Took C1 Cx h1 h2 fr s0 w1 L n0 φ3 K3 H φ5 K5 H'' D'':=
 ⟨U.S,fun b r e=> U.keep b r (T.keep b r e),fun b hb=> by rw [U.old b (by omega),T.old b (by omega)]⟩
theorem Took.mono {n0:Nat} {φ3 φ4:Nat→Option Nat} {K3 K4:Nat→Option AObj} {H H':AH} {D':List Nat} (T:Took C1 Cx h1 h2 fr s0 w1 L n0 φ3 K3 H φ4 K4 H' D') {I:Nat→Prop}:Mono ⟨φ3,I⟩ w1 ⟨φ4,I⟩ w1:=
 z6d (C:=⟨φ3,I⟩) (C':=⟨φ4,I⟩) T.keep fun _ h=> h
theorem zph (O:Over C1 Cx h1 h2 fr s0 w1 L) {n0:Nat} {φ3:Nat→Option Nat} {K3:Nat→Option AObj} {H:AH} {D:List Nat} (T:Sofar C1 Cx h1 h2 fr s0 w1 L n0 φ3 K3 H D) (hfr:Cx.φ H.nx=none) (hD:∀b∈D,b∈L)
 {b rb:Nat} (hb:b∈L) (hbD:b ∉ D) (hφ:C1.φ b=some rb) {o:AObj} (hro:z9r o=false) (hlive:z6e o=some o) (hR:∀φ:Nat→Option Nat,z6k ⟨φ,za8 C1 Cx h2 fr s0⟩ w1 rb o):
 ∃φ4 K4,Took C1 Cx h1 h2 fr s0 w1 L n0 φ3 K3 H φ4 K4 (H.new o) (b::D)∧φ4 H.nx=some rb:=by
 refine ⟨_,_,⟨zv4 O T hfr hD hb hbD hφ hro hlive hR,fun x r e=> ?_,fun x hx=> ?_⟩,by simp⟩
 · have hne:x≠H.nx:=fun h=> by rw [h,T.none_ _ hfr (.inr (Nat.le_refl _))] at e;cases e
   rw [if_neg hne];exact e
 · simp only [AH.nx_new] at hx
   unfold z1i;rw [if_neg (by omega)]
def z94 (h h':AH):Prop:=h.nx≤h'.nx∧∀b,(b < h.nx∨h'.nx≤b)→h'.get b=h.get b
theorem z94.refl (h:AH):z94 h h:=⟨Nat.le_refl _,fun _ _=> rfl⟩
theorem z94.trans {h h' h'':AH} (a:z94 h h') (b:z94 h' h''):z94 h h'':=
 ⟨Nat.le_trans a.1 b.1,fun x hx=> by have h1:=a.1;have h2:=b.1;rw [b.2 x (by omega),a.2 x (by omega)]⟩
theorem z94.new (h:AH) (o:AObj):z94 h (h.new o):=⟨by simp,fun x hx=> by simp only [AH.nx_new] at hx;rw [AH.get_new,if_neg (by omega)]⟩
theorem zem {z:Nat} {h0 h1:AH} {fr:Bool} {H H':AH} {v v':AV} (ht:z4v z h0 h1 fr H v=some (v',H')):z94 H H':=by
 unfold z4v at ht
 split at ht
 · split at ht
   · simp only [Option.some.injEq,Prod.mk.injEq] at ht;obtain ⟨rfl,rfl⟩:=ht;exact z94.refl _
   · simp only [Option.some.injEq,Prod.mk.injEq] at ht;obtain ⟨rfl,rfl⟩:=ht;exact z94.new _ _
 · split at ht
   · split at ht
     · simp only [Option.some.injEq,Prod.mk.injEq] at ht;obtain ⟨rfl,rfl⟩:=ht;exact z94.new _ _
     · cases ht
   · cases ht
 · split at ht
   · split at ht
     · split at ht
       · simp only [Option.some.injEq,Prod.mk.injEq] at ht;obtain ⟨rfl,rfl⟩:=ht;exact z94.new _ _
       · cases ht
     · cases ht
   · cases ht
 · split at ht
   · simp only [Option.some.injEq,Prod.mk.injEq] at ht;obtain ⟨rfl,rfl⟩:=ht;exact z94.refl _
   · cases ht
theorem zbl {h0 h1:AH} {fr:Bool}:∀{zs:List Nat} {xs ys:List AV} {H H':AH},z64 h0 h1 fr zs H xs=some (ys,H')→z94 H H'
 | zs,[],ys,H,H',ht=> by simp only [z64,Option.some.injEq,Prod.mk.injEq] at ht;obtain ⟨rfl,rfl⟩:=ht;exact z94.refl _
 | zs,x::xs,ys,H,H',ht=> by
   simp only [z64] at ht
   split at ht
   · rename_i h1v
     split at ht
     · rename_i h2v
       simp only [Option.some.injEq,Prod.mk.injEq] at ht;obtain ⟨rfl,rfl⟩:=ht
       exact (zem h1v).trans (zbl h2v)
     · cases ht
   · cases ht
theorem zew {zs:List Nat} {h0 h1:AH} {fr:Bool} {H H':AH} {v v':AV} (ht:z5b zs h0 h1 fr H v=some (v',H')):z94 H H':=by
 unfold z5b at ht
 split at ht
 · rename_i xs
   cases hq:z64 h0 h1 fr zs H xs with
   | none=> rw [hq] at ht;cases ht
   | some q=>
     rw [hq] at ht
     simp only [Option.map_some,Option.some.injEq,Prod.mk.injEq] at ht;obtain ⟨rfl,rfl⟩:=ht
     exact zbl hq
 · exact zem ht
theorem zb9 {h0 h1:AH} {fr:Bool}:∀{zss:List (List Nat)} {xs ys:List AV} {H H':AH},z62 h0 h1 fr zss H xs=some (ys,H')→z94 H H'
 | zss,[],ys,H,H',ht=> by simp only [z62,Option.some.injEq,Prod.mk.injEq] at ht;obtain ⟨rfl,rfl⟩:=ht;exact z94.refl _
 | zss,x::xs,ys,H,H',ht=> by
   simp only [z62] at ht
   split at ht
   · rename_i h1v
     split at ht
     · rename_i h2v
       simp only [Option.some.injEq,Prod.mk.injEq] at ht;obtain ⟨rfl,rfl⟩:=ht
       exact (zew h1v).trans (zb9 h2v)
     · cases ht
   · cases ht
theorem zp3 {zss:List (List Nat)} {h0 h1:AH} {fr:Bool} {H H':AH} {v v':AV} (ht:thaw zss h0 h1 fr H v=some (v',H')):z94 H H':=by
 unfold thaw at ht
 split at ht
 · rename_i xs
   cases hq:z62 h0 h1 fr zss H xs with
   | none=> rw [hq] at ht;cases ht
   | some q=>
     rw [hq] at ht
     simp only [Option.map_some,Option.some.injEq,Prod.mk.injEq] at ht;obtain ⟨rfl,rfl⟩:=ht
     exact zb9 hq
 · exact zew ht
theorem zkq (O:Over C1 Cx h1 h2 fr s0 w1 L) (φ:Nat→Option Nat):∀{es es':List (AV×AV)} {ms:List MapEntry},zcf h2 fr es=some es'→z8x C1 w1 es ms→z8x ⟨φ,za8 C1 Cx h2 fr s0⟩ w1 es' ms
 | [],es',ms,hp,hr=> by simp only [zcf,Option.some.injEq] at hp;subst hp;exact hr
 | (k,v)::es,es',ms,hp,hr=> by
   cases k <;> simp only [zcf] at hp <;> first | (cases hp;done) | skip
   rename_i n
   split at hp
   · rename_i v' bs r' h3 h4
     injection hp with hp;subst hp
     obtain ⟨e,ms',rfl,k1,k2,k3⟩:=hr
     exact ⟨e,ms',rfl,by simpa only [x3] using k1,zf3 O φ h3 k2,zkq O φ h4 k3⟩
   · cases hp
theorem zl9 {z:Nat} (O:Over C1 Cx h1 h2 fr s0 w1 L) {n0:Nat} {φ3:Nat→Option Nat} {K3:Nat→Option AObj} {H:AH} {D:List Nat} (T:Sofar C1 Cx h1 h2 fr s0 w1 L n0 φ3 K3 H D)
 {v v':AV} {H':AH} {x:Value} (hfree:∀b,n0≤b→b < H'.nx→Cx.φ b=none) (ht:z4v z h1 h2 fr H v=some (v',H')) (hv:x3 C1 w1 v x) (hN:(lv1 v++D).Nodup) (hL:∀b∈lv1 v++D,b∈L):
 ∃φ4 K4,Took C1 Cx h1 h2 fr s0 w1 L n0 φ3 K3 H φ4 K4 H' (lv1 v++D)∧x3 ⟨φ4,za8 C1 Cx h2 fr s0⟩ w1 v' x:=by
 have hpure:∀{v v':AV} {bs:List Nat},lv1 v=[]→x3 C1 w1 v x→t7 h2 fr z1b v=some (v',bs)→H'=H→
  ∃φ4 K4,Took C1 Cx h1 h2 fr s0 w1 L n0 φ3 K3 H φ4 K4 H' (lv1 v++D)∧x3 ⟨φ4,za8 C1 Cx h2 fr s0⟩ w1 v' x:=by
  intro v v' bs hl hv hp e
  subst e
  rw [hl]
  exact ⟨φ3,K3,Took.refl T,zf3 O φ3 hp hv⟩
 have hD:∀b∈D,b∈L:=fun b hb=> hL b (List.mem_append_right _ hb)
 unfold z4v at ht
 split at ht
 · -- none
   split at ht
   · simp only [Option.some.injEq,Prod.mk.injEq] at ht;obtain ⟨rfl,rfl⟩:=ht
     exact hpure (v:=.nl) (bs:=[]) rfl hv rfl rfl
   · simp only [Option.some.injEq,Prod.mk.injEq] at ht;obtain ⟨rfl,rfl⟩:=ht
     simp only [x3] at hv
     obtain ⟨a,rfl⟩:=hv
     refine ⟨φ3,_,⟨zcp (zch T (hfree _ T.nx (by simp))) (fun x hx=> List.mem_append_right _ hx),fun _ _ h=> h,fun x hx=> ?_⟩,?_⟩
     · simp only [AH.nx_new] at hx
       unfold z1i;rw [if_neg (by omega)]
     · simp only [x3];exact ⟨a,0,rfl,Nat.le_refl _,.inl rfl⟩
 · -- a map
   rename_i b
   have hb:b∈L:=hL b (by simp [lv1])
   have hbD:b ∉ D:=by simp [lv1] at hN;exact hN.1
   split at ht
   · rename_i es hes
     split at ht
     · rename_i es' hp
       simp only [Option.some.injEq,Prod.mk.injEq] at ht;obtain ⟨rfl,rfl⟩:=ht
       simp only [x3] at hv
       obtain ⟨rb,hφ,rfl⟩:=hv
       rcases O.S1.at_ b _ hes with ⟨g,_⟩ | ⟨rb',g1,g2,_⟩
       · rw [g] at hφ;cases hφ
       · rw [g1] at hφ;injection hφ with hφ;subst hφ
         obtain ⟨ms,cl,k1,k2⟩:=g2
         obtain ⟨φ4,K4,t1,t2⟩:=zph O T (hfree _ T.nx (by simp)) hD hb hbD g1 (o:=.map es') rfl rfl (fun φ=> ⟨ms,cl,k1,zkq O φ hp k2⟩)
         exact ⟨φ4,K4,t1,by simp only [x3];exact ⟨rb',t2,rfl⟩⟩
     · cases ht
   · cases ht
 · -- a slice
   rename_i b z off n
   have hb:b∈L:=hL b (by simp [lv1])
   have hbD:b ∉ D:=by simp [lv1] at hN;exact hN.1
   split at ht
   · rename_i cs hcs
     split at ht
     · rename_i hoff
       obtain ⟨rfl,hlen⟩:=hoff
       split at ht
       · rename_i cs' bs hp
         simp only [Option.some.injEq,Prod.mk.injEq] at ht;obtain ⟨rfl,rfl⟩:=ht
         obtain ⟨o,ho,hro⟩:=O.less.2.1 b hb
         have hk:h1.get b=some (.cells cs):=by
          rcases z5q hcs with e | e
          · exact e
          · rw [e] at ho;injection ho with ho;subst ho;cases hro
         simp only [x3] at hv
         obtain ⟨a,c,rfl,hle,hv⟩:=hv
         rcases O.S1.at_ b _ hk with ⟨g,g'⟩ | ⟨rb,g1,g2,_⟩
         · have hnil:cs=[]:=by cases cs with | nil=> rfl | cons _ _=> simp [isNone] at g'
           subst hnil
           simp only [z0b,Option.some.injEq,Prod.mk.injEq] at hp;obtain ⟨rfl,_⟩:=hp
           have hc0:c=0:=by
            rcases hv with e | ⟨rb,e,_⟩
            · exact e
            · rw [g] at e;cases e
           refine ⟨φ3,_,⟨zcp (zch T (hfree _ T.nx (by simp))) (fun x hx=> List.mem_append_right _ hx),fun _ _ h=> h,fun x hx=> ?_⟩,?_⟩
           · simp only [AH.nx_new] at hx
             unfold z1i;rw [if_neg (by omega)]
           · simp only [x3];exact ⟨a,c,rfl,hle,.inl hc0⟩
         · obtain ⟨vs,rest,ty,k1,k2⟩:=g2
           obtain ⟨φ4,K4,t1,t2⟩:=zph O T (hfree _ T.nx (by simp)) hD hb hbD g1 (o:=.cells cs') rfl rfl (fun φ=> ⟨vs,rest,ty,k1,zrb O φ hp k2⟩)
           refine ⟨φ4,K4,t1,?_⟩
           simp only [x3]
           refine ⟨a,c,rfl,hle,?_⟩
           rcases hv with e | ⟨rb',e1,e2,e3⟩
           · exact .inl e
           · rw [g1] at e1;injection e1 with e1;subst e1
             exact .inr ⟨rb,t2,e2,e3⟩
       · cases ht
     · cases ht
   · cases ht
 · split at ht
   · rename_i h1' h2' _ _ _ hp
     simp only [Option.some.injEq,Prod.mk.injEq] at ht;obtain ⟨rfl,rfl⟩:=ht
     refine hpure ?_ hv hp rfl
     cases v <;> first | rfl | exact absurd rfl (h1' _) | exact absurd rfl (h2' _ _ _ _)
   · cases ht
theorem zp0 {A B D L:List Nat} (h:∀b∈(A++B)++D,b∈L):∀b∈B++(A++D),b∈L:=fun b hb=> h b (by simp at hb⊢;rcases hb with h | h | h <;> simp [h])
theorem zcv {A B D:List Nat} (h:((A++B)++D).Nodup):(B++(A++D)).Nodup:=by
 rw [List.append_assoc] at h
 exact (List.perm_append_comm_assoc A B D).nodup_iff.1 h
theorem zki {A B D:List Nat}:∀b∈B++(A++D),b∈(A++B)++D:=fun b hb=> by simp at hb⊢;rcases hb with h | h | h <;> simp [h]
theorem zil {A B D:List Nat} (h:((A++B)++D).Nodup):(A++D).Nodup:=by
 have:=zcv h
 exact (List.nodup_append.1 this).2.1
theorem zks {n0:Nat} {φ3 φ4:Nat→Option Nat} {K3 K4:Nat→Option AObj} {H H':AH} {D D':List Nat} (T:Took C1 Cx h1 h2 fr s0 w1 L n0 φ3 K3 H φ4 K4 H' D) (hD:∀b∈D,b∈D'):Took C1 Cx h1 h2 fr s0 w1 L n0 φ3 K3 H φ4 K4 H' D':=
 ⟨zcp T.S hD,T.keep,T.old⟩
theorem zlh (O:Over C1 Cx h1 h2 fr s0 w1 L) {n0:Nat} {one:Bool}:∀{zs:List Nat} {xs ys:List AV} {vs:List Value} {φ3:Nat→Option Nat} {K3:Nat→Option AObj} {H H':AH} {D:List Nat},Sofar C1 Cx h1 h2 fr s0 w1 L n0 φ3 K3 H D→(∀b,n0≤b→b < H'.nx→Cx.φ b=none)→
 z64 h1 h2 fr zs H xs=some (ys,H')→LRel C1 w1 one xs vs→(xs.flatMap lv1++D).Nodup→(∀b∈xs.flatMap lv1++D,b∈L)→
 ∃φ4 K4,Took C1 Cx h1 h2 fr s0 w1 L n0 φ3 K3 H φ4 K4 H' (xs.flatMap lv1++D)∧LRel ⟨φ4,za8 C1 Cx h2 fr s0⟩ w1 one ys vs
 | zs,[],ys,vs,φ3,K3,H,H',D,T,hfree,ht,hl,hN,hL=> by
   simp only [z64,Option.some.injEq,Prod.mk.injEq] at ht;obtain ⟨rfl,rfl⟩:=ht
   simp only [LRel] at hl;subst hl
   exact ⟨φ3,K3,Took.refl T,LRel.nil⟩
 | zs,x::xs,ys,vs,φ3,K3,H,H',D,T,hfree,ht,hl,hN,hL=> by
   simp only [z64] at ht
   split at ht
   · rename_i v' H1 h1v
     split at ht
     · rename_i r' H2 h2v
       simp only [Option.some.injEq,Prod.mk.injEq] at ht;obtain ⟨rfl,rfl⟩:=ht
       simp only [LRel] at hl
       obtain ⟨v,r,rfl,ho,hv,hl⟩:=hl
       rw [List.flatMap_cons] at hN hL⊢
       obtain ⟨φ4,K4,t1,t2⟩:=zl9 O T (fun b h1 h2=> hfree b h1 (Nat.lt_of_lt_of_le h2 (zbl h2v).1)) h1v hv (zil hN) (fun b hb=> hL b (by simp at hb⊢;rcases hb with h | h <;> simp [h]))
       obtain ⟨φ5,K5,u1,u2⟩:=zlh O t1.S hfree h2v hl (zcv hN) (zp0 hL)
       exact ⟨φ5,K5,zks (t1.trans u1 (zem h1v).1 (zbl h2v).1) zki,LRel.cons ho (x3.mono u1.mono _ _ t2) u2⟩
     · cases ht
   · cases ht
theorem zkj {zs:List Nat} (O:Over C1 Cx h1 h2 fr s0 w1 L) {n0:Nat} {φ3:Nat→Option Nat} {K3:Nat→Option AObj} {H:AH} {D:List Nat} (T:Sofar C1 Cx h1 h2 fr s0 w1 L n0 φ3 K3 H D)
 {v v':AV} {H':AH} {x:Value} (hfree:∀b,n0≤b→b < H'.nx→Cx.φ b=none) (ht:z5b zs h1 h2 fr H v=some (v',H')) (hv:x3 C1 w1 v x) (hN:(lvA v++D).Nodup) (hL:∀b∈lvA v++D,b∈L):
 ∃φ4 K4,Took C1 Cx h1 h2 fr s0 w1 L n0 φ3 K3 H φ4 K4 H' (lvA v++D)∧x3 ⟨φ4,za8 C1 Cx h2 fr s0⟩ w1 v' x:=by
 by_cases hag:∃xs,v=.ag xs
 · obtain ⟨xs,rfl⟩:=hag
   simp only [z5b] at ht
   cases hq:z64 h1 h2 fr zs H xs with
   | none=> rw [hq] at ht;cases ht
   | some q=>
     rw [hq] at ht
     simp only [Option.map_some,Option.some.injEq,Prod.mk.injEq] at ht;obtain ⟨rfl,rfl⟩:=ht
     simp only [x3] at hv
     obtain ⟨vs,rfl,hl⟩:=hv
     obtain ⟨φ4,K4,t1,t2⟩:=zlh O T hfree hq hl hN hL
     exact ⟨φ4,K4,t1,by simp only [x3];exact ⟨vs,rfl,t2⟩⟩
 · have e1:z5b zs h1 h2 fr H v=z4v (zs.headD 0) h1 h2 fr H v:=by cases v <;> first | rfl | exact absurd ⟨_,rfl⟩ hag
   have e2:lvA v=lv1 v:=by cases v <;> first | rfl | exact absurd ⟨_,rfl⟩ hag
   rw [e1] at ht;rw [e2] at hN hL⊢
   exact zl9 O T hfree ht hv hN hL
theorem zl4 (O:Over C1 Cx h1 h2 fr s0 w1 L) {n0:Nat} {one:Bool}:∀{zss:List (List Nat)} {xs ys:List AV} {vs:List Value} {φ3:Nat→Option Nat} {K3:Nat→Option AObj} {H H':AH} {D:List Nat},Sofar C1 Cx h1 h2 fr s0 w1 L n0 φ3 K3 H D→(∀b,n0≤b→b < H'.nx→Cx.φ b=none)→
 z62 h1 h2 fr zss H xs=some (ys,H')→LRel C1 w1 one xs vs→(xs.flatMap lvA++D).Nodup→(∀b∈xs.flatMap lvA++D,b∈L)→
 ∃φ4 K4,Took C1 Cx h1 h2 fr s0 w1 L n0 φ3 K3 H φ4 K4 H' (xs.flatMap lvA++D)∧LRel ⟨φ4,za8 C1 Cx h2 fr s0⟩ w1 one ys vs
 | zss,[],ys,vs,φ3,K3,H,H',D,T,hfree,ht,hl,hN,hL=> by
   simp only [z62,Option.some.injEq,Prod.mk.injEq] at ht;obtain ⟨rfl,rfl⟩:=ht
   simp only [LRel] at hl;subst hl
   exact ⟨φ3,K3,Took.refl T,LRel.nil⟩
 | zss,x::xs,ys,vs,φ3,K3,H,H',D,T,hfree,ht,hl,hN,hL=> by
   simp only [z62] at ht
   split at ht
   · rename_i v' H1 h1v
     split at ht
     · rename_i r' H2 h2v
       simp only [Option.some.injEq,Prod.mk.injEq] at ht;obtain ⟨rfl,rfl⟩:=ht
       simp only [LRel] at hl
       obtain ⟨v,r,rfl,ho,hv,hl⟩:=hl
       rw [List.flatMap_cons] at hN hL⊢
       obtain ⟨φ4,K4,t1,t2⟩:=zkj O T (fun b h1 h2=> hfree b h1 (Nat.lt_of_lt_of_le h2 (zb9 h2v).1)) h1v hv (zil hN) (fun b hb=> hL b (by simp at hb⊢;rcases hb with h | h <;> simp [h]))
       obtain ⟨φ5,K5,u1,u2⟩:=zl4 O t1.S hfree h2v hl (zcv hN) (zp0 hL)
       refine ⟨φ5,K5,zks (t1.trans u1 (zew h1v).1 (zb9 h2v).1) zki,LRel.cons (fun h=> ho h) (x3.mono u1.mono _ _ t2) u2⟩
     · cases ht
   · cases ht
theorem zzm {zss:List (List Nat)} (O:Over C1 Cx h1 h2 fr s0 w1 L) {n0:Nat} {φ3:Nat→Option Nat} {K3:Nat→Option AObj} {H:AH} (T:Sofar C1 Cx h1 h2 fr s0 w1 L n0 φ3 K3 H [])
 {v v':AV} {H':AH} {x:Value} (hfree:∀b,n0≤b→b < H'.nx→Cx.φ b=none) (ht:thaw zss h1 h2 fr H v=some (v',H')) (hv:x3 C1 w1 v x) (hN:(lvT v).Nodup) (hL:∀b∈lvT v,b∈L):
 ∃φ4 K4,Took C1 Cx h1 h2 fr s0 w1 L n0 φ3 K3 H φ4 K4 H' (lvT v)∧x3 ⟨φ4,za8 C1 Cx h2 fr s0⟩ w1 v' x:=by
 have key:∀v v' x,lvT v=lvA v→z5b (zss.headD []) h1 h2 fr H v=some (v',H')→x3 C1 w1 v x→(lvT v).Nodup→(∀b∈lvT v,b∈L)→∃φ4 K4,Took C1 Cx h1 h2 fr s0 w1 L n0 φ3 K3 H φ4 K4 H' (lvT v)∧x3 ⟨φ4,za8 C1 Cx h2 fr s0⟩ w1 v' x:=by
  intro v v' x e ht hv hN hL
  rw [e] at hN hL⊢
  obtain ⟨φ4,K4,t1,t2⟩:=zkj O T hfree ht hv (by simpa using hN) (by simpa using hL)
  exact ⟨φ4,K4,by simpa using t1,t2⟩
 by_cases htu:∃xs,v=.tu xs
 · obtain ⟨xs,rfl⟩:=htu
   simp only [thaw] at ht
   cases hq:z62 h1 h2 fr zss H xs with
   | none=> rw [hq] at ht;cases ht
   | some q=>
     rw [hq] at ht
     simp only [Option.map_some,Option.some.injEq,Prod.mk.injEq] at ht;obtain ⟨rfl,rfl⟩:=ht
     simp only [x3] at hv
     obtain ⟨vs,rfl,hl⟩:=hv
     obtain ⟨φ4,K4,t1,t2⟩:=zl4 O T hfree hq hl (by simpa [lvT] using hN) (by simpa [lvT] using hL)
     exact ⟨φ4,K4,by simpa [lvT] using t1,by simp only [x3];exact ⟨vs,rfl,t2⟩⟩
 · have e1:thaw zss h1 h2 fr H v=z5b (zss.headD []) h1 h2 fr H v:=by cases v <;> first | rfl | exact absurd ⟨_,rfl⟩ htu
   have e2:lvT v=lvA v:=by cases v <;> first | rfl | exact absurd ⟨_,rfl⟩ htu
   rw [e1] at ht
   exact key _ _ _ e2 ht hv hN hL
end
end Go.Proofs.Ytimcbhhebnikiaa.Ab
namespace Go.Proofs.Ytimcbhhebnikiaa.Ab
open Go
set_option linter.unusedVariables false
set_option linter.unusedSimpArgs false
theorem zub {C:Ctx} {K:Nat→Option AObj} {w:World} (hS:Sim C K w) (fr:Bool) (rd:List Nat):Sim (PC C fr rd) AH.empty.get w where
 at_ b o e:=by rw [AH.get_empty] at e;cases e
 inj b b' o o' rb e:=by rw [AH.get_empty] at e;cases e
 φlt b rb e:=by cases e
 immlt rb e:=by
  rcases e with ⟨_,e⟩ | ⟨b,_,e⟩
  · exact hS.immlt rb e
  · exact hS.φlt b rb e
section
variable {C Cx C1 : Ctx} {K Kx : Nat → Option AObj} {w w1 : World} {h1 h2 : AH} {fr : Bool} {L : List Nat}
theorem zij (hX:Sim Cx Kx w) (O:Over C1 Cx h1 h2 fr w.heap.size w1 L) {C0:Ctx} (h0:∀b,C0.φ b=none) (hs:Step C0 w C1 w1) {φ4:Nat→Option Nat}
 (hk:∀b rb,Cx.φ b=some rb→φ4 b=some rb) (hf:∀b rb,φ4 b=some rb→Cx.φ b=some rb∨∃x,C1.φ x=some rb):Step Cx w ⟨φ4,za8 C1 Cx h2 fr w.heap.size⟩ w1 where
 φ:=hk
 φnew b rb e:=by
  rcases hf b rb e with g | ⟨x,g⟩
  · exact .inl g
  · exact .inr (.inl (O.fresh x rb g))
 imm b e:=.inl e
 immnew b e:=by
  rcases e with e | ⟨e,_⟩
  · exact .inl e
  · exact .inr (.inl e)
 size:=hs.size
 keep b hb _:=hs.keep b hb fun i e=> by rw [h0] at e;cases e
 immkeep b hb:=hs.keep b (hX.immlt b hb) fun i e=> by rw [h0] at e;cases e
 sizes:=hs.sizes
 env:=hs.env
theorem zie (hX:Sim Cx Kx w) (O:Over C1 Cx h1 h2 fr w.heap.size w1 L) {C0:Ctx} (h0:∀b,C0.φ b=none) (hs:Step C0 w C1 w1) (h:AH):
 Sofar C1 Cx h1 h2 fr w.heap.size w1 L h.nx Cx.φ Kx h []:=by
 have hst:=zij (φ4:=Cx.φ) hX O h0 hs (fun _ _ e=> e) (fun _ _ e=> .inl e)
 refine ⟨⟨fun b o e=> ?_,hX.inj,fun b rb e=> ?_,fun b e=> ?_⟩,Nat.le_refl _,fun _ _ e=> .inl e,fun _ _ e=> e,fun _ e _=> e,fun b h1 h2=> absurd h2 (Nat.not_lt.2 h1)⟩
 · rcases hX.at_ b o e with ⟨g,g'⟩ | ⟨rb,g1,g2,g3⟩
   · exact .inl ⟨g,g'⟩
   · have hlt:=hX.φlt b rb g1
     refine .inr ⟨rb,g1,g2.step hst (hs.keep rb hlt fun i e=> by rw [h0] at e;cases e),fun h=> .inl (g3.1 h),fun h=> g3.2 ?_⟩
     rcases h with h | ⟨h,_⟩
     · exact h
     · omega
 · exact Nat.lt_of_lt_of_le (hX.φlt b rb e) hs.size
 · rcases e with e | ⟨_,⟨_,e⟩ | ⟨x,_,e⟩⟩
   · exact Nat.lt_of_lt_of_le (hX.immlt b e) hs.size
   · exact O.S1.immlt b e
   · exact O.S1.φlt x b e
end
theorem zvv {C C1:Ctx} {K:Nat→Option AObj} {w w1:World} {h h1:AH} {fr:Bool} {th:Option (List (List Nat))} {rd:List Nat} {v:AV} {x:Value} {r:CR} (hr:z8r fr th h rd v h1=some r) (hS:Sim C K w) (hK:∀b∈rd,K b=h.get b)
 (hcells:∀b∈rd,∃cs,h.cells b=some cs) (hs:Step (PC C false rd) w C1 w1) (hS1:Sim C1 h1.get w1) (hv:x3 C1 w1 v x) (hfree:∀b,h.nx≤b→b < r.h.nx→C.φ b=none):
 ∃wr,r.wr=some wr∧r.rd=some rd∧∃C',Step C w C' w1∧Sim C' (fun b=> if b∈wr then r.h.get b else K b) w1∧x3 C' w1 r.v x∧∀b,C.φ b=none→(b ∉ wr∨r.h.nx≤b)→C'.φ b=none:=by
 -- the caller, behind what it gave away
 obtain ⟨Cx,Kx,hX,hsx,hφx,himx,hKx⟩:∃Cx Kx,Sim Cx Kx w∧Step C w Cx w∧(∀b,Cx.φ b=C.φ b)∧((fr && !rd.isEmpty)=false→∀b∈rd,∀rb,C.φ b=some rb→Cx.imm rb)∧
  (∀b,Kx b=if b∈(if fr=true then [] else rd) then (if (fr || rd.isEmpty)=true then h else z3a h rd).get b else K b):=by
  by_cases hc:(fr || rd.isEmpty)=true
  · refine ⟨C,K,hS,Step.refl C w,fun _=> rfl,fun hf b hb=> ?_,fun b=> ?_⟩
    · cases fr with
      | true=> cases rd with
        | nil=> cases hb
        | cons _ _=> simp at hf
      | false=> cases rd with
        | nil=> cases hb
        | cons _ _=> simp at hc
    · cases fr with
      | true=> simp
      | false=> cases rd with
        | nil=> simp
        | cons _ _=> simp at hc
  · have hf:fr=false:=by cases fr <;> simp_all
    subst hf
    refine ⟨fixC C K rd,znb K rd,y0c hS rd,zed rd,fun _=> rfl,fun _ b hb rb e=> ?_,fun b=> ?_⟩
    · obtain ⟨cs,hcs⟩:=hcells b hb
      rcases z5q hcs with g | g
      · exact .inr ⟨b,hb,⟨cs,by rw [hK b hb,g]⟩,e⟩
      · rcases hS.at_ b (.ro cs) (by rw [hK b hb,g]) with ⟨g1,_⟩ | ⟨rb',g1,_,g3⟩
        · rw [g1] at e;cases e
        · rw [g1] at e;injection e with e;subst e;exact .inl (g3.1 rfl)
    · simp only [Bool.false_eq_true,if_false]
      rw [if_neg hc,zda]
      unfold znb
      by_cases hb:b∈rd
      · simp only [hb,if_true];rw [hK b hb]
      · simp only [hb,if_false]
 have hnx:(if (fr || rd.isEmpty)=true then h else z3a h rd).nx=h.nx:=by split <;> first | rfl | exact zez _ _
 have h0:∀b,(PC C false rd).φ b=none:=fun _=> rfl
 have hover:∀{h2:AH} {L:List Nat},z77 h1 h2 L→Over C1 Cx h1 h2 (fr && !rd.isEmpty) w.heap.size w1 L:=by
  intro h2 L hl
  refine ⟨hS1,hl,fun b rb e=> ?_,hX.immlt,hX.φlt,fun rb hf e=> ?_⟩
  · rcases hs.φnew b rb e with g | g | ⟨i,g⟩
    · cases g
    · exact g
    · cases g
  · rcases hs.immnew rb e with g | g | ⟨i,g⟩
    · rcases g with ⟨_,g⟩ | ⟨b,hb,g⟩
      · exact .inl (hsx.imm rb g)
      · exact .inl (himx hf b hb rb g)
    · exact .inr g
    · cases g
 have hfree':∀b,h.nx≤b→b < r.h.nx→Cx.φ b=none:=fun b h1 h2=> by rw [hφx];exact hfree b h1 h2
 generalize hH:(if (fr || rd.isEmpty)=true then h else z3a h rd)=H at*
 unfold z8r at hr
 simp only [hH] at hr
 split at hr
 · -- taken over
   rename_i hth
   split at hr
   · rename_i h2 hg
     split at hr
     · rename_i r' h'' ht
       injection hr with hr;subst hr
       have O:=hover (zlf hg)
       have hn:∀b,H.nx≤b→b < h''.nx→Cx.φ b=none:=fun b h1 h2=> hfree' b (by omega) h2
       obtain ⟨φ4,K4,t1,t2⟩:=zzm O (zie hX O h0 hs H) hn ht hv (zlf hg).1 (fun _ hb=> hb)
       have hgrow:=zp3 ht
       refine ⟨_,rfl,rfl,⟨φ4,za8 C1 Cx h2 (fr && !rd.isEmpty) w.heap.size⟩,hsx.trans (zij hX O h0 hs t1.S.keep fun b rb e=> (t1.S.from_ b rb e).imp id fun ⟨x,_,g⟩=> ⟨x,g⟩),t1.S.S3.congr fun b=> ?_,t2,fun b e hb=> ?_⟩
       · simp only [List.mem_append,List.mem_map,List.mem_range]
         by_cases hin:H.nx≤b∧b < h''.nx
         · rw [if_pos (.inr ⟨b - H.nx,by omega,by omega⟩),t1.S.view b hin.1 hin.2]
         · have ho:=t1.old b (by omega)
           rw [ho,hKx b]
           have hno:¬∃a,a < h''.nx - H.nx∧H.nx+a=b:=fun ⟨a,h1,h2⟩=> hin ⟨by omega,by omega⟩
           by_cases hb:b∈(if fr=true then [] else rd)
           · rw [if_pos (.inl hb),if_pos hb,hgrow.2 b (by omega)]
           · rw [if_neg hb,if_neg (fun g=> g.elim hb hno)]
       · refine t1.S.none_ b (by rw [hφx];exact e) ?_
         rcases hb with hb | hb
         · simp only [List.mem_append,List.mem_map,List.mem_range,not_or] at hb
           have:=hb.2
           rcases Nat.lt_or_ge b H.nx with g | g
           · exact .inl g
           · rcases Nat.lt_or_ge b h''.nx with g' | g'
             · exact absurd ⟨b - H.nx,by omega,by omega⟩ this
             · exact .inr g'
         · exact .inr hb
     · cases hr
   · cases hr
 · split at hr
   · rename_i r' bs hp
     injection hr with hr;subst hr
     have O:=hover (z77.nil h1)
     have T:=zie hX O h0 hs H
     refine ⟨_,rfl,rfl,⟨Cx.φ,za8 C1 Cx h1 (fr && !rd.isEmpty) w.heap.size⟩,hsx.trans (zij hX O h0 hs (fun _ _ e=> e) fun b rb e=> .inl e),T.S3.congr fun b=> (hKx b).symm,zf3 O Cx.φ hp hv,fun b e _=> by rw [←hφx b] at e;exact e⟩
   · cases hr
end Go.Proofs.Ytimcbhhebnikiaa.Ab
namespace Go.Proofs.Ytimcbhhebnikiaa.Ab
open Go
set_option linter.unusedVariables false
set_option linter.unusedSimpArgs false
def fen (ro:Option Nat):Fence:={Fence.wide with round:=ro}
theorem z6t (ro:Option Nat) (n:Nat):(fen ro).depth.isSome=true→1≤n:=fun h=> by simp [fen,Fence.wide] at h
structure SRel (C:Ctx) (st:St) (a:Act) (w:World):Prop where
 tm:z2z C w st.T a.tmps
 n:a.tmps.size=st.n
 sim:Sim C st.H.get w
 new:∀b,st.H.nx≤b→C.φ b=none
def z0o (C:Ctx) (w:World) (s0:Nat) (ds:List Deferred):Prop:=
 ∃rs:List Nat,ds=rs.map (fun r=> ({target:=.collected r,args:=#[]}:Deferred))∧rs.Nodup∧∀r∈rs,s0≤r∧w.heap[r]? =some (.deferred (some []))∧(∀i,C.φ i≠some r)∧¬C.imm r
theorem z0o.step {C C':Ctx} {w w':World} {s0:Nat} {ds:List Deferred} (h:z0o C w s0 ds) (hs:Step C w C' w'):z0o C' w' s0 ds:=by
 obtain ⟨rs,e,hn,h⟩:=h
 refine ⟨rs,e,hn,fun r hr=> ?_⟩
 obtain ⟨h1,h2,h3,h4⟩:=h r hr
 have hlt:=z0i w h2
 refine ⟨h1,?_,fun i e=> ?_,fun e=> ?_⟩
 · rw [hs.keep r hlt h3];exact h2
 · rcases hs.φnew i r e with g | g | ⟨j,g⟩
   · exact h3 i g
   · omega
   · exact h3 j g
 · rcases hs.immnew r e with g | g | ⟨j,g⟩
   · exact h4 g
   · omega
   · exact h3 j g
theorem z0o.nil {C:Ctx} {w:World} {s0:Nat}:z0o C w s0 []:=⟨[],rfl,List.nodup_nil,by simp⟩
def z2n:AX→Exit
 | .normal=> .normal
 | .exit id=> .exit id
 | .goto l=> .goto l
 | .ret=> .ret
def zck (C:Ctx) (w:World) (st':St) (s0:Nat) (ro:Option Nat) (Q:Act→World→Prop):Prop:=
 ∀C' a' w',Step C w C' w'→SRel C' st' a' w'→z0o C' w' s0 a'.defers→(ro.isSome=true→a'.defers=[])→Q a' w'
def z23 (P:Program) (c:Code) (st:St) (e:AX) (st':St):Prop:=
 st'.q=st.q∧st.H.nx≤st'.H.nx∧
 ∀(C:Ctx) (a:Act) (w:World) (s0:Nat) (ro:Option Nat) (n:Nat) (Q:Exit→Act→World→Prop),st.q=ro.isSome→s0≤w.heap.size→SRel C st a w→z0o C w s0 a.defers→(ro.isSome=true→a.defers=[])→
  zck C w st' s0 ro (Q (z2n e))→c.wpIn (fen ro) n P Q a w
def z4u (P:Program) (rec:Rec):Prop:=∀c st e st',rec c st=some (e,st')→z23 P c st e st'
/-! ### Results -/
theorem LRel.cons' {C:Ctx} {w:World} {x:AV} {v:Value} {xs:List AV} {vs:List Value} (h:x3 C w x v) (t:LRel C w false xs vs):LRel C w false (x::xs) (v::vs):=LRel.cons (fun h=> by cases h) h t
def zyv (tmps:Array Value):ResultVar→Sem Value
 | .tmp t=> pure (tmps.getD t undef)
 | .cell a t=> do loadVar t (←asAddr (tmps.getD a undef))
theorem zrc (fn:Func) (tmps:Array Value):results fn tmps=(do
 let vs ←fn.results.mapM (zyv tmps)
 pure (if h:vs.size=1 then vs[0] else .tuple vs)):=by
 have:(fun | .tmp t=> pure (tmps.getD t undef) | .cell a t=> do loadVar t (←asAddr (tmps.getD a undef)):ResultVar→Sem Value)=zyv tmps:=funext fun x=> by cases x <;> rfl
 unfold results
 rw [←this]
 rfl
theorem zb5 {P:Program} {C:Ctx} {w:World} {h:AH} {T:Tm} {tmps:Array Value} (hS:Sim C h.get w) (hT:z2z C w T tmps):∀{res:List ResultVar} {vs:List AV},zc1 P T h res=some vs→
 ∃xs,(res.mapM (zyv tmps)).run P w=.ok xs w∧LRel C w false vs xs
 | [],vs,hr=> by
   simp only [zc1,Option.some.injEq] at hr;subst hr
   exact ⟨[],by simp,LRel.nil⟩
 | .tmp t::res,vs,hr=> by
   simp only [zc1] at hr
   split at hr
   · rename_i vs' h1
     injection hr with hr;subst hr
     obtain ⟨xs,e1,e2⟩:=zb5 hS hT h1
     exact ⟨tmps.getD t undef::xs,by simp only [List.mapM_cons,zyv,Sem.run_bind,Sem.run_pure,Result.andThen_ok,e1],LRel.cons' (hT t) e2⟩
   · cases hr
 | .cell a t::res,vs,hr=> by
   simp only [zc1] at hr
   split at hr
   · rename_i ti hti
     split at hr
     · cases hr
     · rename_i hz
       split at hr
       · rename_i cs rd hc
         split at hr
         · rename_i v vs' hv hvs
           injection hr with hr;subst hr
           obtain ⟨xs,e1,e2⟩:=zb5 hS hT hvs
           obtain ⟨ad,us,e3,hsp,hat,hl,hlen⟩:=zfm hS (fun b _=> rfl) hc (hT a) (by omega)
           obtain ⟨hT'⟩:=u5 hti
           obtain ⟨u,hu,hv'⟩:=zp1 hT' hsp hat hl hlen hv
           refine ⟨u::xs,?_,LRel.cons' hv' e2⟩
           have ha:(asAddr (tmps.getD a undef)).run P w=.ok ad w:=by rw [e3];simp [asAddr]
           simp only [List.mapM_cons,zyv,Sem.run_bind,ha,Sem.run_pure,Result.andThen_ok,hu,e1]
         · cases hr
       · cases hr
   · cases hr
theorem zq8 {P:Program} {C:Ctx} {w:World} {h:AH} {T:Tm} {tmps:Array Value} {fn:Func} {vs:List AV} (hS:Sim C h.get w) (hT:z2z C w T tmps) (hr:zc1 P T h fn.results.toList=some vs):
 ∃x,(results fn tmps).run P w=.ok x w∧x3 C w (zor vs) x:=by
 obtain ⟨xs,e1,e2⟩:=zb5 hS hT hr
 rw [zrc,Array.mapM_eq_mapM_toList,Sem.run_bind]
 simp only [map_eq_pure_bind,Sem.run_bind,e1,Result.andThen_ok,Sem.run_pure]
 cases vs with
 | nil=> simp only [LRel] at e2;subst e2;exact ⟨_,rfl,by simp only [zor,x3];exact ⟨[],rfl,LRel.nil⟩⟩
 | cons v vs=>
   simp only [LRel] at e2
   obtain ⟨x,r,rfl,_,hv,hl⟩:=e2
   cases vs with
   | nil=> simp only [LRel] at hl;subst hl;exact ⟨x,rfl,hv⟩
   | cons v' vs'=>
     have hl':=hl
     simp only [LRel] at hl
     obtain ⟨x',r',rfl,_,hv',_⟩:=hl
     exact ⟨_,rfl,by simp only [zor,x3];exact ⟨x::x'::r',rfl,LRel.cons' hv hl'⟩⟩
/-! ### The calls that were put off -/
theorem zq5 {C0 C:Ctx} {w0 w:World} {K0:Nat→Option AObj} (h0:Sim C0 K0 w0) (hs:Step C0 w0 C w) {r:Nat} (hr:w0.heap.size≤r) (o o':Obj) (hcell:∀c T f,w.heap[r]?≠some (Obj.cells c T f)):Step C0 w0 C (d8 w r o):=by
 refine ⟨hs.φ,hs.φnew,hs.imm,hs.immnew,by rw [z18];exact hs.size,fun b hb hn=> ?_,fun b hb=> ?_,fun b c T f e=> ?_,hs.env⟩
 · rw [t5,if_neg (by omega)];exact hs.keep b hb hn
 · have:=h0.immlt b hb
   rw [t5,if_neg (by omega)];exact hs.immkeep b hb
 · have:=z0i w0 e
   rw [t5,if_neg (by omega)];exact hs.sizes b c T f e
theorem zhc {C:Ctx} {w:World} {r:Nat} (o:Obj) (hi:¬C.imm r) (hcell:∀c T f,w.heap[r]?≠some (Obj.cells c T f)):Mono C w C (d8 w r o):=by
 refine ⟨fun _ _ h=> h,fun _ h=> h,fun b hb=> ?_,fun b c T f e=> ?_⟩
 · rw [t5,if_neg (fun (h:r=b∧_)=> hi (h.1▸hb))]
 · have:r≠b:=fun h=> hcell c T f (h▸e)
   rw [t5,if_neg (fun h=> this h.1)]
   exact ⟨c,e,rfl⟩
theorem zv5 {C:Ctx} {K:Nat→Option AObj} {w:World} {r:Nat} (o:Obj) (hS:Sim C K w) (hφ:∀i,C.φ i≠some r) (hi:¬C.imm r) (hcell:∀c T f,w.heap[r]?≠some (Obj.cells c T f)):Sim C K (d8 w r o) where
 at_ b o' e:=by
  rcases hS.at_ b o' e with g | ⟨rb,g1,g2,g3⟩
  · exact .inl g
  · have hne:r≠rb:=fun h=> hφ b (h▸g1)
    exact .inr ⟨rb,g1,g2.mono (zhc o hi hcell) (by rw [t5,if_neg (fun h=> hne h.1)]),g3⟩
 inj:=hS.inj
 φlt b rb e:=by rw [z18];exact hS.φlt b rb e
 immlt b e:=by rw [z18];exact hS.immlt b e
theorem zjq {P:Program} {n:Nat} {fn:Func} {tmps:Array Value} {R:Ending→World→Prop} {C0:Ctx} {w0:World} {K0:Nat→Option AObj} (h0:Sim C0 K0 w0) {T:Tm} {h:AH} {vs:List AV} (hr:zc1 P T h fn.results.toList=some vs) {C:Ctx}
 (hR:∀w x,Step C0 w0 C w→Sim C h.get w→x3 C w (zor vs) x→R (.returned x) w):
 ∀(ds:List Deferred) (w:World),Step C0 w0 C w→Sim C h.get w→z2z C w T tmps→z0o C w w0.heap.size ds→LeavesInM Fence.wide n P fn tmps R ds .returning w
 | [],w,hs,hS,hT,hm=> by
   obtain ⟨x,e1,e2⟩:=zq8 (fn:=fn) hS hT hr
   exact ⟨x,e1,hR w x hs hS e2⟩
 | d::ds,w,hs,hS,hT,hm=> by
   obtain ⟨rs,e,hn,hm⟩:=hm
   cases rs with
   | nil=> cases e
   | cons r rs=>
     simp only [List.map_cons,List.cons.injEq] at e
     obtain ⟨rfl,rfl⟩:=e
     obtain ⟨h1,h2,h3,h4⟩:=hm r (by simp)
     have hcell:∀c T f,w.heap[r]?≠some (Obj.cells c T f):=fun c T f e=> by rw [h2] at e;cases e
     refine ⟨by simp,.inl ⟨r,d8 w r (.deferred none),rfl,?_,?_⟩⟩
     · simp [Instr.takeDeferred,getObj,setObj,Sem.run,h2,d8]
     · refine zjq h0 hr hR _ _ (zq5 h0 hs h1 _ (.deferred none) hcell) (zv5 _ hS h3 h4 hcell) (hT.mono (zhc _ h4 hcell)) ⟨rs,rfl,(List.nodup_cons.1 hn).2,fun r' hr'=> ?_⟩
       obtain ⟨k1,k2,k3,k4⟩:=hm r' (by simp [hr'])
       have hne:r≠r':=fun h=> (List.nodup_cons.1 hn).1 (h▸hr')
       exact ⟨k1,by rw [t5,if_neg (fun h=> hne h.1)];exact k2,k3,k4⟩
/-! ### A function's body -/
theorem znv:∀(l:List AV) (i j:Nat),(zkc i l).get j=if i≤j then (l[j - i]?).getD .top else .top
 | [],i,j=> by simp [zkc,Tm.get]
 | v::l,i,j=> by
   simp only [zkc,Tm.get,zb3,znv l (i+1) j]
   by_cases h:i=j
   · subst h;simp
   · simp only [h,decide_false,cond_false]
     by_cases h2:i≤j
     · rw [if_pos h2,if_pos (by omega)]
       obtain ⟨m,rfl⟩:∃m,j=i+1+m:=⟨j - (i+1),by omega⟩
       rw [show i+1+m - i=m+1 by omega,show i+1+m - (i+1)=m by omega];simp
     · rw [if_neg h2,if_neg (by omega)]
theorem zx0 {C:Ctx} {w:World} {args:List AV} {vs:List Value} (hl:LRel C w false args vs) (k:Nat):z2z C w (zkc 0 args) (vs.toArray++Array.replicate k undef):=by
 intro i
 rw [znv]
 simp only [Nat.zero_le,if_true,Nat.sub_zero]
 cases e:args[i]? with
 | none=> simp only [Option.getD_none,x3]
 | some x=>
   obtain ⟨v,hv,hx,_⟩:=hl.get e
   have hlt:i < vs.length:=by
    rcases Nat.lt_or_ge i vs.length with g | g
    · exact g
    · rw [List.getElem?_eq_none g] at hv;cases hv
   have:(vs.toArray++Array.replicate k undef).getD i undef=v:=by
    rw [Array.getD_eq_getD_getElem?,Array.getElem?_append_left (by simpa using hlt)]
    simp [hv]
   rw [this];exact hx
theorem zv0 {P : Program} {f : FuncId} {af : AF} (h : zas P f = some af) : ∃ fn, P.funcs[f]? = some fn ∧ fn.body = some af.body ∧ (fn.name == "runtime.NumGoroutine") = false ∧ af.nt = fn.ntmps ∧ af.res = fn.results.toList := by
 unfold zas at h
 split at h
 · rename_i fn hf
   split at h
   · rename_i c hc
     split at h
     · cases h
     · rename_i hn
       injection h with h;subst h
       exact ⟨fn,hf,hc,by simpa using hn,rfl,rfl⟩
   · cases h
 · cases h
def Back (C:Ctx) (w:World) (v:AV) (h':AH) (R:Value→World→Prop):Prop:=
 ∀C' w' x,Step C w C' w'→Sim C' h'.get w'→(∀b,h'.nx≤b→C'.φ b=none)→x3 C' w' v x→R x w'
theorem z9f {P:Program} {rec:Rec} (hrec:z4u P rec) {f:FuncId} {args:List AV} {h h':AH} {v:AV} (he:z8a P rec f args h=some (v,h')):
 h.nx ≤ h'.nx ∧ (∃ fn, P.funcs[f]? = some fn ∧ (fn.name == "runtime.NumGoroutine") = false ∧ fn.body.isNone = false) ∧
 ∀(C:Ctx) (w:World) (vs:List Value) (n:Nat) (R:Ending→World→Prop),Sim C h.get w→(∀b,h.nx≤b→C.φ b=none)→LRel C w false args vs→
  Back C w v h' (fun x w'=> R (.returned x) w')→CallsIn Fence.wide n P f vs.toArray w R:=by
 unfold z8a at he
 split at he
 · rename_i af haf
   obtain ⟨fn,hf,hb,hnm,hnt,hres⟩:=zv0 haf
   have fin:∀{e:AX} {st:St},e=.normal∨e=.ret→rec af.body ⟨zkc 0 args,max af.nt args.length,h,false⟩=some (e,st)→(match zc1 P st.T st.H af.res with | some vs=> some (zor vs,st.H) | none=> none)=some (v,h')→
    h.nx ≤ h'.nx ∧ (∃ fn, P.funcs[f]? = some fn ∧ (fn.name == "runtime.NumGoroutine") = false ∧ fn.body.isNone = false) ∧
    ∀(C:Ctx) (w:World) (vs:List Value) (n:Nat) (R:Ending→World→Prop),Sim C h.get w→(∀b,h.nx≤b→C.φ b=none)→LRel C w false args vs→
     Back C w v h' (fun x w'=> R (.returned x) w')→CallsIn Fence.wide n P f vs.toArray w R:=by
    intro e st hee hrun hres'
    obtain ⟨hq,hnx,hsound⟩:=hrec _ _ _ _ hrun
    split at hres'
    · rename_i rs hrs
      simp only [Option.some.injEq,Prod.mk.injEq] at hres'
      obtain ⟨rfl,rfl⟩:=hres'
      refine ⟨hnx,⟨fn,hf,hnm,by rw [hb];rfl⟩,fun C w vs n R hS hnew hl hback=> ?_⟩
      refine callsIn_of_wp_marks hf hb trivial ?_
      have hlen:=hl.length
      refine hsound C _ w w.heap.size none n _ rfl (Nat.le_refl _) ⟨zx0 hl _,?_,hS,hnew⟩ z0o.nil (fun _=> rfl) ?_
      · simp only [Array.size_append,List.size_toArray,Array.size_replicate,hnt,hlen];omega
      · intro C' a' w' hs hst hm _
        have:=zjq (n:=n) (R:=R) (fn:=fn) (tmps:=a'.tmps) hS (hres▸hrs) (fun w x g1 g2 g3=> hback C' w x g1 g2 hst.new g3) a'.defers w' hs hst.sim hst.tm hm
        rcases hee with rfl | rfl
        · exact this
        · exact this
    · cases hres'
   split at he
   · rename_i st hrun;exact fin (.inl rfl) hrun he
   · rename_i st hrun;exact fin (.inr rfl) hrun he
   · cases he
 · cases he
end Go.Proofs.Ytimcbhhebnikiaa.Ab
