/- The law 'StateDoes': it returns true, and nothing that was there changes. No condition. (Part 5 of 12.) -/
import Derived.Test.YtimcbhhebnikiaaSd4
import Derived.RangeFuncRecord
namespace Go.Proofs.Ytimcbhhebnikiaa.Ab
open Go
set_option linter.unusedVariables false
set_option linter.unusedSimpArgs false
def inF:Option (List Nat)→Nat→Prop
 | none,_=> True
 | some l,b=> b∈l
def Frm (h h':AH) (wr:Option (List Nat)):Prop:=h.nx≤h'.nx∧(∀b,h.nx≤b→b < h'.nx→inF wr b)∧∀b,¬inF wr b→h'.get b=h.get b
theorem Frm.same (h:AH):Frm h h (some []):=⟨Nat.le_refl _,fun b h1 h2=> by omega,fun _ _=> rfl⟩
theorem Frm.new (h:AH) (o:AObj):Frm h (h.new o) (some [h.nx]):=
 ⟨by simp,fun b h1 h2=> by simp only [AH.nx_new] at h2;simp [inF];omega,fun b hb=> by simp only [inF,List.mem_singleton] at hb;rw [AH.get_new,if_neg (fun e=> hb e.symm)]⟩
theorem Frm.put (h:AH) (b:Nat) (o:AObj):Frm h (h.put b o) (some [b]):=
 ⟨Nat.le_refl _,fun x h1 h2=> by simp only [AH.nx_put] at h2;omega,fun x hb=> by simp only [inF,List.mem_singleton] at hb;rw [AH.get_put,if_neg (fun e=> hb e.symm)]⟩
theorem Frm.move (h:AH) (b:Nat) (o:AObj):Frm h ((h.kill b).new o) (some [b,h.nx]):=
 ⟨by simp,fun x h1 h2=> by simp only [AH.nx_new,AH.nx_kill] at h2;simp [inF];omega,fun x hb=> by
   simp only [inF,List.mem_cons,List.not_mem_nil,or_false,not_or] at hb
   rw [AH.get_new,AH.nx_kill,if_neg (fun e=> hb.2 e.symm),AH.get_kill,if_neg (fun e=> hb.1 e.symm)]⟩
theorem z42 {h:AH} {v:AV} {r:OR} (hr:g9 h v=some r):Frm h r.h (some r.wr):=by
 simp only [g9,Option.some.injEq] at hr;subst hr;exact Frm.same h
theorem z5h {α:Type} {h:AH} {x:Option α} {g:α→AV} {r:OR} (hr:(x.bind fun n=> g9 h (g n))=some r):Frm h r.h (some r.wr):=by
 cases x with
 | none=> cases hr
 | some n=> exact z42 hr
section
variable {P : Program} {h : AH} {r : OR}
theorem zr6 {t:TypeId} {t1:Option TypeId} {s x:AV} (hr:z4z P h t t1 s x=some r):Frm h r.h (some r.wr):=by
 unfold z4z at hr
 repeat' first
  | exact z42 hr
  | exact z5h hr
  | (cases hr;done)
  | (simp only [Option.some.injEq] at hr;subst hr;first | exact Frm.same _ | exact Frm.new _ _ | exact Frm.put _ _ _ | exact Frm.move _ _ _)
  | split at hr
theorem zy1 {t:TypeId} {s x:AV} (hr:zje P h t s x=some r):Frm h r.h (some r.wr):=by
 unfold zje at hr
 repeat' first
  | exact z42 hr
  | exact z5h hr
  | (cases hr;done)
  | (simp only [Option.some.injEq] at hr;subst hr;first | exact Frm.same _ | exact Frm.new _ _ | exact Frm.put _ _ _ | exact Frm.move _ _ _)
  | split at hr
theorem zl7 {t:TypeId} {x:AV} {lo hi mx:Option AV} (hr:z58 P h t x lo hi mx=some r):Frm h r.h (some r.wr):=by
 unfold z58 at hr
 repeat' first
  | exact z42 hr
  | exact z5h hr
  | (cases hr;done)
  | (simp only [Option.some.injEq] at hr;subst hr;first | exact Frm.same _ | exact Frm.new _ _ | exact Frm.put _ _ _ | exact Frm.move _ _ _)
  | split at hr
theorem zu8 {t:TypeId} {x ix:AV} (hr:z5v P h t x ix=some r):Frm h r.h (some r.wr):=by
 unfold z5v at hr
 repeat' first
  | exact z42 hr
  | exact z5h hr
  | (cases hr;done)
  | (simp only [Option.some.injEq] at hr;subst hr;first | exact Frm.same _ | exact Frm.new _ _ | exact Frm.put _ _ _ | exact Frm.move _ _ _)
  | split at hr
theorem zqt {s d:TypeId} {x:AV} (hr:conv P h s d x=some r):Frm h r.h (some r.wr):=by
 unfold conv at hr
 repeat' first
  | exact z42 hr
  | exact z5h hr
  | (cases hr;done)
  | (simp only [Option.some.injEq] at hr;subst hr;first | exact Frm.same _ | exact Frm.new _ _ | exact Frm.put _ _ _ | exact Frm.move _ _ _)
  | split at hr
theorem zns {b:Builtin} {ts:Array TypeId} {args:List AV} (hr:z51 P h b ts args=some r):Frm h r.h (some r.wr):=by
 unfold z51 at hr
 repeat' first
  | exact z42 hr
  | exact z5h hr
  | exact zr6 hr
  | exact zy1 hr
  | (cases hr;done)
  | split at hr
theorem zv2 {t:TypeId} {a v:AV} {h':AH} {bs:List Nat} (hr:zdc P h t a v=(some h',bs)):Frm h h' (some bs):=by
 unfold zdc at hr
 repeat' first
  | (cases hr;done)
  | (simp only [Prod.mk.injEq,Option.some.injEq] at hr;obtain ⟨rfl,rfl⟩:=hr;exact Frm.put _ _ _)
  | split at hr
theorem y1c {T:Tm} {op:Op} (hr:aOp P h T op=some r):Frm h r.h (some r.wr):=by
 cases op <;> simp only [aOp] at hr <;> first
  | (cases hr;done)
  | exact z42 hr
  | exact zqt hr
  | exact zl7 hr
  | exact zu8 hr
  | skip
 all_goals repeat' first
  | exact z42 hr
  | exact z5h hr
  | exact zns hr
  | exact zqt hr
  | exact zl7 hr
  | exact zu8 hr
  | (cases hr;done)
  | (simp only [Option.some.injEq] at hr;subst hr;first | exact Frm.same _ | exact Frm.new _ _ | exact Frm.put _ _ _ | exact Frm.move _ _ _ | exact zv2 (by assumption))
  | split at hr
end
end Go.Proofs.Ytimcbhhebnikiaa.Ab
namespace Go.Proofs.Ytimcbhhebnikiaa.Ab
open Go
set_option linter.unusedVariables false
set_option linter.unusedSimpArgs false
def wrK (wr:Option (List Nat)) (h':AH) (K:Nat→Option AObj):Nat→Option AObj:=
 match wr with
 | none=> h'.get
 | some l=> fun b=> if b∈l then h'.get b else K b
def zgc (P:Program) (o:Oper) (st:St) (r:CR):Prop:=
 Frm st.H r.h r.wr∧
 ∀(C:Ctx) (K:Nat→Option AObj) (a:Act) (w:World) (ro:Option Nat) (n:Nat) (Q:Exit→Act→World→Prop) (next:Act→World→Prop),
  Sim C K w→(∀b,inF r.rd b→K b=st.H.get b)→(∀b,inF r.wr b→st.H.nx≤b→C.φ b=none)→(∀x∈o.op.operands,z8o C w st.T a x)→
  (∀v C' w',x3 C' w' r.v v→Step C w C' w'→Sim C' (wrK r.wr r.h K) w'→(∀b,C.φ b=none→(¬inF r.wr b∨r.h.nx≤b)→C'.φ b=none)→next (a.put o.dst v) w')→
  o.uponIn (fen ro) n P a next Q ((o.semAt ro a.eval).run P w)
/-! ### Temporaries -/
theorem z2z.set {C:Ctx} {w:World} {T:Tm} {tmps:Array Value} {i:Nat} {x:AV} {v:Value} (h:z2z C w T tmps) (hi:i < tmps.size) (hv:x3 C w x v):z2z C w (T.set i x) (tmps.setIfInBounds i v):=by
 intro j
 rw [Tm.get_set]
 by_cases e:i=j
 · subst e
   rw [if_pos rfl]
   have:(tmps.setIfInBounds i v).getD i undef=v:=by simp [Array.getD_eq_getD_getElem?,hi]
   rw [this];exact hv
 · rw [if_neg e]
   have:(tmps.setIfInBounds i v).getD j undef=tmps.getD j undef:=by
    rw [Array.getD_eq_getD_getElem?,Array.getD_eq_getD_getElem?,Array.getElem?_setIfInBounds_ne e]
   rw [this];exact h j
theorem zhj {C:Ctx} {w:World}:∀(ps:List Nat) (args:List AV) (vs:List Value) (T:Tm) (tmps:Array Value),(∀p∈ps,p < tmps.size)→z2z C w T tmps→LRel C w false args vs→args.length=ps.length→
 z2z C w (z7d T ps args) ((ps.zip vs).foldl (fun t x=> t.setIfInBounds x.1 x.2) tmps)∧((ps.zip vs).foldl (fun t x=> t.setIfInBounds x.1 x.2) tmps).size=tmps.size
 | [],args,vs,T,tmps,hp,hT,hl,hlen=> by simpa [z7d] using hT
 | p::ps,[],vs,T,tmps,hp,hT,hl,hlen=> by simp at hlen
 | p::ps,x::args,vs,T,tmps,hp,hT,hl,hlen=> by
   simp only [LRel] at hl
   obtain ⟨v,r,rfl,_,hv,hl⟩:=hl
   have:=zhj ps args r (T.set p x) (tmps.setIfInBounds p v) (fun q hq=> by simpa using hp q (by simp [hq])) (hT.set (hp p (by simp)) hv) hl (by simpa using hlen)
   simpa [z7d] using this
/-! ### A round -/
theorem zaf {h:AH} {b:Nat} {s:LoopState} {p:Option Code} {T:Tm} {n:Nat} {ps:List Nat} {a c:Code} (e:z3b h b=some (s,p,T,n,ps,a,c)):h.get b=some (.loop s p T n ps a c):=by
 unfold z3b at e
 split at e
 · rename_i g;simp only [Option.some.injEq,Prod.mk.injEq] at e;obtain ⟨rfl,rfl,rfl,rfl,rfl,rfl,rfl⟩:=e;exact g
 · cases e
theorem zgb {C:Ctx} {h:AH} {w:World} {b rb:Nat} {s:LoopState} {p:Option Code} {T:Tm} {n:Nat} {ps:List Nat} {a c:Code} (hS:Sim C h.get w) (e:z3b h b=some (s,p,T,n,ps,a,c)) (hφ:C.φ b=some rb):
 ∃l:Loop,w.heap[rb]? =some (Obj.loop l)∧l.state=s∧l.pending=p∧l.params.toList=ps∧l.assign=a∧l.body=c∧l.tmps.size=n∧z2z C w T l.tmps:=by
 rcases hS.at_ b _ (zaf e) with ⟨g,_⟩ | ⟨rb',g1,g2,_⟩
 · rw [g] at hφ;cases hφ
 · rw [g1] at hφ;injection hφ with hφ;subst hφ;exact g2
theorem zv6 (w:World) (r:Nat) (o:Obj):w.putObj r o=d8 w r o:=rfl
theorem zht {C:Ctx} {h:AH} {w:World} {b rb:Nat} {s:LoopState} {p:Option Code} {T:Tm} {n:Nat} {ps:List Nat} {a c:Code} (hS:Sim C h.get w) (e:z3b h b=some (s,p,T,n,ps,a,c)) (hφ:C.φ b=some rb) {l:Loop}
 (hl:w.heap[rb]? =some (Obj.loop l)) (s':LoopState) (p':Option Code) (h1:l.params.toList=ps) (h2:l.assign=a) (h3:l.body=c) (h4:l.tmps.size=n) (h5:z2z C w T l.tmps):
 Step C w C (w.putObj rb (.loop {l with state:=s',pending:=p'}))∧Sim C (h.put b (.loop s' p' T n ps a c)).get (w.putObj rb (.loop {l with state:=s',pending:=p'})):=by
 have hnc:∀c T f,(Obj.loop l:Obj)≠Obj.cells c T f:=fun _ _ _ e=> by cases e
 rw [zv6]
 have hst:=zb1 hS (zaf e) rfl hφ hl hnc (.loop {l with state:=s',pending:=p'})
 refine ⟨hst,(zhh hS (zaf e) rfl hφ hl hnc (o':=.loop s' p' T n ps a c) rfl ?_).congr fun x=> ?_⟩
 · exact ⟨{l with state:=s',pending:=p'},by rw [t5,if_pos ⟨rfl,z0i w hl⟩],rfl,rfl,h1,h2,h3,h4,h5.step hst⟩
 · rw [AH.get_put];unfold z1i
   by_cases e:x=b
   · subst e;simp [z6e]
   · rw [if_neg e,if_neg (Ne.symm e)]
theorem zmq {P:Program} {l:Nat} {R:Ending→World→Prop} {e:AX} {a:Act} {w w':World} {v:Value} (h:(Instr.endRound l (z5i e)).run P w=.ok v w') (hR:R (.returned v) w'):roundPost P l R (z2n e) a w:=by
 cases e <;> exact ⟨v,w',h,hR⟩
theorem zra {P:Program} {rec:Rec} (hrec:z4u P rec) {b:Nat} {args:List AV} {h h':AH} {v:AV} (hr:zi2 rec b args h=some (v,h')):
 h.nx≤h'.nx∧∀(C:Ctx) (w:World) (vs:List Value) (rb n:Nat) (ro:Option Nat) (R:Ending→World→Prop),Sim C h.get w→(∀x,h.nx≤x→C.φ x=none)→LRel C w false args vs→C.φ b=some rb→
  Back C w v h' (fun x w'=> R (.returned x) w')→∃r:Loop,w.heap[rb]? =some (.loop r)∧vs.length=r.params.size∧
   RoundIn (fen ro) n P rb r.fn ((r.params.zip vs.toArray).foldl (fun tmps (t,a)=> tmps.setIfInBounds t a) r.tmps) r.assign r.body w R:=by
 unfold zi2 at hr
 split at hr
 · rename_i s0 p0 T n ps asg body hlo
   split at hr
   · rename_i hargs
     obtain ⟨hlen,hps⟩:=hargs
     split at hr
     · rename_i st hasg
       split at hr
       · rename_i p2 T2 n2 ps2 a2 c2 hl2
         split at hr
         · rename_i e st' hbody
           split at hr
           · rename_i s3 p3 T3 n3 ps3 a3 c3 hl3
             simp only [Option.some.injEq,Prod.mk.injEq] at hr
             obtain ⟨rfl,rfl⟩:=hr
             obtain ⟨hq1,hn1,hs1⟩:=hrec _ _ _ _ hasg
             obtain ⟨hq2,hn2,hs2⟩:=hrec _ _ _ _ hbody
             refine ⟨Nat.le_trans hn1 hn2,fun C w vs rb n' ro R hS hnew hl hφ hback=> ?_⟩
             obtain ⟨r,k1,k2,k3,k4,k5,k6,k7,k8⟩:=zgb hS hlo hφ
             have hpl:ps.length=r.params.size:=by rw [←k4];simp
             have hvl:vs.length=r.params.size:=by rw [←hl.length,hlen,hpl]
             refine ⟨r,k1,hvl,roundIn_of_wpIn trivial ?_⟩
             have hfold:(r.params.zip vs.toArray).foldl (fun tmps (t,a)=> tmps.setIfInBounds t a) r.tmps=(ps.zip vs).foldl (fun t x=> t.setIfInBounds x.1 x.2) r.tmps:=by
              rw [←Array.foldl_toList,Array.toList_zip,k4]
             rw [hfold]
             obtain ⟨t1,t2⟩:=zhj ps args vs T r.tmps (fun p hp=> by rw [k7];simpa using List.all_eq_true.1 hps p hp) k8 hl hlen
             rw [k5,k6]
             refine hs1 C _ w 0 (some rb) n' _ rfl (Nat.zero_le _) ⟨t1,by rw [t2,k7],hS,hnew⟩ z0o.nil (fun _=> rfl) ?_
             intro C1 a1 w1 hst1 hsr1 hm1 hd1
             have hφ1:=hst1.φ b rb hφ
             obtain ⟨l1,j1,j2,j3,j4,j5,j6,j7,j8⟩:=zgb hsr1.sim hl2 hφ1
             obtain ⟨u1,u2⟩:=zht hsr1.sim hl2 hφ1 j1 .busy p2 j4 j5 j6 j7 j8
             have hrun:=run_beginRound (P:=P) j1 j2
             have hpend:({l1 with state:=.busy}:Loop)={l1 with state:=.busy,pending:=p2}:=by rw [←j3]
             rw [hpend] at hrun
             refine ⟨_,hrun,?_⟩
             refine hs2 C1 a1 _ 0 (some rb) n' _ hq1 (Nat.zero_le _) ⟨hsr1.tm.step u1,hsr1.n,u2,fun x hx=> hsr1.new x (by simpa using hx)⟩ (by rw [hd1 rfl];exact z0o.nil) hd1 ?_
             intro C3 a3' w3 hst3 hsr3 hm3 hd3
             have hφ3:=hst3.φ b rb hφ1
             obtain ⟨l3,i1,i2,i3,i4,i5,i6,i7,i8⟩:=zgb hsr3.sim hl3 hφ3
             obtain ⟨v1,v2⟩:=zht hsr3.sim hl3 hφ3 i1 (if (z5i e).isNone then .ready else .done) (z5i e) i4 i5 i6 i7 i8
             refine zmq (run_endRound (z5i e) i1) (hback C3 _ _ ((hst1.trans u1).trans (hst3.trans v1)) v2 (fun x hx=> hsr3.new x (by simpa using hx)) ?_)
             simp only [x3]
           · cases hr
         · cases hr
       · cases hr
     · cases hr
   · cases hr
 · cases hr
/-! ### Functions whose contract is given -/
def DelC (P:Program) (f:FuncId) (z:Nat):Prop:=
 ∀(C:Ctx) (K:Nat→Option AObj) (w:World) (b n i:Nat) (cs:List AV) (v:Value) (m:Nat) (R:Ending→World→Prop),Sim C K w→K b=some (.cells cs)→cs.length=n*z→i < n→n≤4294967296→0 < z→x3 C w (.rf b z 0 n) v→
  (∀C' w' y,x3 C' w' (.rf b z 0 (n - 1)) y→Step C w C' w'→Sim C' (z1i K b (some (.cells (cs.take (i*z)++cs.drop ((i+1)*z))))) w'→(∀b,C.φ b=none→C'.φ b=none)→R (.returned y) w')→
  CallsIn Fence.wide m P f #[v,.int .i64 i,.int .i64 ((i:Int)+1)] w R
def z4f (P:Program) (cl:List (FuncId×Nat×Nat)):Prop:=
 ∀ f z wd, z6o cl f = some (z, wd) → (∃ fn, P.funcs[f]? = some fn ∧ (fn.name == "runtime.NumGoroutine") = false ∧ fn.body.isNone = false) ∧ (wd = 5000 → DelC P f z) ∧
   ∀(C:Ctx) (K:Nat→Option AObj) (h:AH) (w:World) (x:AV) (n:Nat) (cs:List AV) (rd:List Nat) (v:Value) (m:Nat) (R:Ending→World→Prop),Sim C K w→(∀b∈rd,K b=h.get b)→z0a h z x=some (n,cs,rd)→
    n≤4294967296→wd≤4096→0 < z→C.φ h.nx=none→x3 C w x v→
    (∀C' w' y,x3 C' w' (.rf h.nx z 0 n) y→Step C w C' w'→Sim C' (z1i K h.nx (some (.cells cs))) w'→(∀b,C.φ b=none→b≠h.nx→C'.φ b=none)→R (.returned y) w')→CallsIn Fence.wide m P f #[v] w R
/-! ### Calls -/
theorem z6b {ro:Option Nat} {n:Nat} {P:Program} {f:FuncId} {args:Array Value} {w:World} {R:Ending→World→Prop} (h:CallsIn Fence.wide n P f args w R):CallsIn (fen ro) n P f args w R:=h
theorem zdd {P : Program} {f : FuncId} {args : Array Value} {w : World} (h : ∃ fn, P.funcs[f]? = some fn ∧ (fn.name == "runtime.NumGoroutine") = false ∧ fn.body.isNone = false) : (callFunc f args).run P w = .ok (.enter f args) w := by
 obtain ⟨fn,h1,h2,h3⟩:=h
 have h2' : ¬ fn.name = "runtime.NumGoroutine" := by simpa using h2
 have h3':¬fn.body=none:=fun e=> by rw [e] at h3;cases h3
 simp [callFunc,h1,h2',h3']
theorem z7v {P:Program} {o:Oper} {c:Call} {x:Operand} {f:FuncId} {caps:Array Value} {a:Act} {w:World} (ho:o.op=.call c) (hc:c.callee=.value x) (hx:a.eval x=.func (.func f) #[] caps)
 (h : ∃ fn, P.funcs[f]? = some fn ∧ (fn.name == "runtime.NumGoroutine") = false ∧ fn.body.isNone = false) : (execOp a.eval o).run P w = .ok (.enter f (c.args.map a.eval ++ caps)) w := by
 simp only [execOp,ho,resolve,hc,hx,Deferred.ofValue,Sem.run_bind,Sem.run_pure,Result.andThen_ok,invoke]
 rw [zdd h]
 simp
theorem ziu {P:Program} {o:Oper} {c:Call} {x:Operand} {l:Nat} {a:Act} {w:World} {r:Loop} (ho:o.op=.call c) (hc:c.callee=.value x) (hx:a.eval x=.func (.yield l) #[] #[]) (hr:w.heap[l]? =some (.loop r)) (hs:c.args.size=r.params.size):
 (execOp a.eval o).run P w=.ok (.round l r.fn ((r.params.zip (c.args.map a.eval)).foldl (fun tmps (t,a)=> tmps.setIfInBounds t a) r.tmps) r.assign r.body) w:=by
 simp only [execOp,ho,resolve,hc,hx,Deferred.ofValue,Sem.run_bind,Sem.run_pure,Result.andThen_ok,invoke]
 have:=run_yield (P:=P) (args:=#[]++c.args.map a.eval) hr (by simpa using hs)
 simpa using this
theorem LRel.map_args {C:Ctx} {w:World} {T:Tm} {a:Act} {c:Call} (hT:∀x∈c.args.toList,z8o C w T a x):LRel C w false (c.args.toList.map (ev T)) (c.args.map a.eval).toList:=by
 have:=zmp (C:=C) (w:=w) hT
 simpa using this
theorem zz2 {fr:Bool} {th:Option (List (List Nat))} {h h1:AH} {rd:List Nat} {v:AV} {r:CR} (hr:z8r fr th h rd v h1=some r):r.rd=some rd:=by
 unfold z8r at hr
 simp only at hr
 split at hr
 · split at hr
   · split at hr
     · injection hr with hr;subst hr;rfl
     · cases hr
   · cases hr
 · split at hr
   · injection hr with hr;subst hr;rfl
   · cases hr
theorem zs3 (h:AH) (rd:List Nat) (b:Nat) (hb:b ∉ rd):(z3a h rd).get b=h.get b:=by
 rw [zda];unfold znb;rw [if_neg hb]
theorem zvg {fr:Bool} {th:Option (List (List Nat))} {h h1:AH} {rd:List Nat} {v:AV} {r:CR} (hr:z8r fr th h rd v h1=some r):Frm h r.h r.wr:=by
 have hnx:(if (fr || rd.isEmpty)=true then h else z3a h rd).nx=h.nx:=by split <;> first | rfl | exact zez _ _
 have hget:∀b,b ∉ (if fr=true then [] else rd)→(if (fr || rd.isEmpty)=true then h else z3a h rd).get b=h.get b:=by
  intro b hb
  split
  · rfl
  · rename_i hc
    cases fr with
    | true=> simp at hc
    | false=> exact zs3 h rd b (by simpa using hb)
 unfold z8r at hr
 simp only at hr
 generalize (if (fr || rd.isEmpty)=true then h else z3a h rd)=H at*
 split at hr
 · split at hr
   · split at hr
     · rename_i h'' ht
       injection hr with hr;subst hr
       have hg:=zp3 ht
       refine ⟨by rw [←hnx];exact hg.1,fun b h1 h2=> ?_,fun b hb=> ?_⟩
       · simp only [inF,List.mem_append,List.mem_map,List.mem_range]
         exact .inr ⟨b - H.nx,by simp at h2;omega,by omega⟩
       · simp only [inF,List.mem_append,List.mem_map,List.mem_range,not_or] at hb
         rw [hg.2 b ?_,hget b hb.1]
         rcases Nat.lt_or_ge b H.nx with g | g
         · exact .inl g
         · rcases Nat.lt_or_ge b h''.nx with g' | g'
           · exact absurd ⟨b - H.nx,by omega,by omega⟩ hb.2
           · exact .inr g'
     · cases hr
   · cases hr
 · split at hr
   · injection hr with hr;subst hr
     exact ⟨by rw [←hnx];exact Nat.le_refl _,fun b h1 h2=> by simp only at h2;omega,fun b hb=> hget b hb⟩
   · cases hr
theorem zxc {P:Program} {cf:Cfg} {rec:Rec} (hrec:z4u P rec) (hcl:z4f P cf.clone) {o:Oper} {c:Call} {x:Operand} {st:St} {r:CR} (ho:o.op=.call c) (hc:c.callee=.value x)
 (hr:ze8 P cf rec (ev st.T x) (c.args.toList.map (ev st.T)) st.H=some r):zgc P o st r:=by
 have hsem:∀(ro:Option Nat) (a:Act),o.semAt ro a.eval=execOp a.eval o:=fun ro a=> Oper.semAt_eq ro a.eval o (by rw [ho];intro c' h;cases h)
 have hop:∀(C:Ctx) (w:World) (a:Act),(∀y∈o.op.operands,z8o C w st.T a y)→z8o C w st.T a x∧∀y∈c.args.toList,z8o C w st.T a y:=by
  intro C w a h
  rw [ho] at h
  exact ⟨h x (by simp [Op.operands,Call.operands,hc]),fun y hy=> h y (by simp [Op.operands,Call.operands,hc];exact .inr (by simpa using hy))⟩
 generalize hfx:ev st.T x=fx at hr
 unfold ze8 at hr
 split at hr
 · rename_i f cap
   split at hr
   · -- a clone
     rename_i z wd hclone
     split at hr
     · rename_i y hargs
       split at hr
       · rename_i n cs rd hsl
         split at hr
         · rename_i hb
           injection hr with hr;subst hr
           obtain ⟨hfn,_,hC⟩:=hcl f z wd hclone
           refine ⟨Frm.new _ _,fun C K a w ro m Q next hS hK hnew hT hnext=> ?_⟩
           obtain ⟨hTx,hTa⟩:=hop C w a hT
           have hvx:=z07 hTx
           rw [hfx] at hvx
           simp only [x3] at hvx
           obtain ⟨caps,hvx,hcaps⟩:=hvx
           rw [hsem,z7v ho hc hvx hfn,Oper.uponIn_enter]
           refine ⟨z6t ro m,z6b ?_⟩
           have hl:=LRel.map_args hTa
           rw [hargs] at hl
           obtain ⟨u,hu,hvu,_⟩:=hl.one1
           have hcap0:cap=[]:=by simpa using hb.2.2.2
           subst hcap0
           simp only [LRel] at hcaps;subst hcaps
           rw [show c.args.map a.eval++([]:List Value).toArray=#[u] from by apply Array.ext';simpa using hu]
           refine hC C K st.H w y n cs rd u (m - 1) _ hS hK hsl hb.1 hb.2.1 hb.2.2.1 (hnew _ (by simp [inF]) (Nat.le_refl _)) hvu fun C' w' z' k1 k2 k3 k4=> hnext z' C' w' k1 k2 (k3.congr fun b=> ?_) fun b e hb'=> k4 b e ?_
           · simp only [wrK,List.mem_singleton,z1i,AH.get_new]
             by_cases e:b=st.H.nx
             · subst e;simp [z6e]
             · simp [e]
           · simp only [inF,List.mem_singleton,AH.nx_new] at hb'
             omega
         · cases hr
       · cases hr
     · -- an element taken out
       rename_i b z' off n i j hargs
       split at hr
       · rename_i cs hcs
         split at hr
         · rename_i hb
           obtain ⟨g1,rfl,g3,rfl,g5,g6,g7,g8,rfl,g10⟩:=hb
           injection hr with hr;subst hr
           obtain ⟨hfn,hD,_⟩:=hcl f z' wd hclone
           refine ⟨⟨Nat.le_refl _,fun x h1 h2=> by simp only [AH.nx_put] at h2;omega,fun x hx=> ?_⟩,fun C K a w ro m Q next hS hK hnew hT hnext=> ?_⟩
           · simp only [inF,List.mem_singleton] at hx
             rw [AH.get_put,if_neg (fun e=> hx e.symm)]
           obtain ⟨hTx,hTa⟩:=hop C w a hT
           have hvx:=z07 hTx
           rw [hfx] at hvx
           simp only [x3] at hvx
           obtain ⟨caps,hvx,hcaps⟩:=hvx
           rw [hsem,z7v ho hc hvx hfn,Oper.uponIn_enter]
           refine ⟨z6t ro m,z6b ?_⟩
           have hl:=LRel.map_args hTa
           rw [hargs] at hl
           have hcap0:cap=[]:=by simpa using g10
           subst hcap0
           simp only [LRel] at hcaps;subst hcaps
           simp only [LRel] at hl
           obtain ⟨u,r1,e1,_,hvu,u2,r2,rfl,_,hv2,u3,r3,rfl,_,hv3,rfl⟩:=hl
           simp only [x3] at hv2 hv3
           subst hv2 hv3
           obtain ⟨k,rfl⟩:∃k:Nat,i=k:=⟨i.toNat,by omega⟩
           rw [show c.args.map a.eval++([]:List Value).toArray=#[u,.int .i64 k,.int .i64 ((k:Int)+1)] from by apply Array.ext';simpa using e1]
           have hkb:K b=some (.cells cs):=by rw [hK b (by simp [inF])];exact z6a hcs
           refine hD g1 C K w b n k cs u (m - 1) _ hS hkb g6 (by omega) g5 g3 hvu fun C' w' y k1 k2 k3 k4=> hnext y C' w' k1 k2 (k3.congr fun x=> ?_) fun x e _=> k4 x e
           simp only [wrK,List.mem_singleton,z1i,AH.get_put,Int.toNat_natCast]
           by_cases e:x=b
           · subst e;simp [z6e]
           · simp [e]
         · cases hr
       · cases hr
     · cases hr
   · split at hr
     · -- in the caller's heap
       split at hr
       · rename_i v h' he
         injection hr with hr;subst hr
         obtain ⟨hnx,hfn,hE⟩:=z9f hrec he
         refine ⟨⟨hnx,fun _ _ _=> trivial,fun b hb=> absurd trivial hb⟩,fun C K a w ro m Q next hS hK hnew hT hnext=> ?_⟩
         obtain ⟨hTx,hTa⟩:=hop C w a hT
         have hvx:=z07 hTx
         rw [hfx] at hvx
         simp only [x3] at hvx
         obtain ⟨caps,hvx,hcaps⟩:=hvx
         rw [hsem,z7v ho hc hvx hfn,Oper.uponIn_enter]
         refine ⟨z6t ro m,z6b ?_⟩
         have hKe:K=st.H.get:=funext fun b=> hK b trivial
         subst hKe
         have hl:=(LRel.map_args hTa).append hcaps
         have:=hE C w _ (m - 1) (fun | .returned v,w''=> next (a.put o.dst v) w'' | .panicked chain,w''=> Q (.panic chain) a w'' | .outgrown,_=> LetsOut Q) hS (fun b hb=> hnew b trivial hb) hl ?_
         · rwa [show ((c.args.map a.eval).toList++caps).toArray=c.args.map a.eval++caps.toArray from by apply Array.ext';simp] at this
         · intro C' w' y hs' hS' hn' hv'
           exact hnext y C' w' hv' hs' hS' fun b _ hb=> hn' b (hb.resolve_left (fun h=> h trivial))
       · cases hr
     · -- on values that nobody writes
       rename_i hcap
       split at hr
       · rename_i pargs rd hp
         split at hr
         · rename_i v h1 he
           obtain ⟨hnx,hfn,hE⟩:=z9f hrec he
           have hfrm:Frm st.H r.h r.wr:=zvg hr
           refine ⟨hfrm,fun C K a w ro m Q next hS hK hnew hT hnext=> ?_⟩
           obtain ⟨hTx,hTa⟩:=hop C w a hT
           have hvx:=z07 hTx
           rw [hfx] at hvx
           simp only [x3] at hvx
           obtain ⟨caps,hvx,hcaps⟩:=hvx
           have hcap0:cap=[]:=by
            cases cap with
            | nil=> rfl
            | cons _ _=> simp at hcap
           subst hcap0
           simp only [LRel] at hcaps;subst hcaps
           rw [hsem,z7v ho hc hvx hfn,Oper.uponIn_enter]
           refine ⟨z6t ro m,z6b ?_⟩
           have hrd:r.rd=some rd:=zz2 hr
           have hl:=LRel.map_args hTa
           have hK':∀b∈rd,K b=st.H.get b:=fun b hb=> hK b (by rw [hrd];exact hb)
           have hpl:=z9c (K:=K) (h:=st.H) (fr:=false) (fun v v' bs x h hk hv=> z8u hS false z1b v v' bs x h hk hv) hp hK' hl
           have:=hE (PC C false rd) w _ (m - 1) (fun | .returned v,w''=> next (a.put o.dst v) w'' | .panicked chain,w''=> Q (.panic chain) a w'' | .outgrown,_=> LetsOut Q) (zub hS false rd) (fun _ _=> rfl) hpl ?_
           · rwa [show (c.args.map a.eval).toList.toArray=c.args.map a.eval++([]:List Value).toArray from by apply Array.ext';simp] at this
           · intro C1 w1 y hs' hS' hn' hv'
             obtain ⟨wr,e1,e2,C',k1,k2,k3,k4⟩:=zvv hr hS hK' (zcs hp) hs' hS' hv' (fun b h1 h2=> hnew b (hfrm.2.1 b h1 h2) h1)
             refine hnext y C' w1 k3 k1 ?_ ?_
             · rw [e1];exact k2
             · rw [e1];exact k4
         · cases hr
       · cases hr
 · -- a round
   rename_i b
   split at hr
   · rename_i v h' he
     injection hr with hr;subst hr
     obtain ⟨hnx,hE⟩:=zra hrec he
     refine ⟨⟨hnx,fun _ _ _=> trivial,fun b hb=> absurd trivial hb⟩,fun C K a w ro m Q next hS hK hnew hT hnext=> ?_⟩
     obtain ⟨hTx,hTa⟩:=hop C w a hT
     have hvx:=z07 hTx
     rw [hfx] at hvx
     simp only [x3] at hvx
     obtain ⟨rb,hφ,hvx⟩:=hvx
     have hKe:K=st.H.get:=funext fun b=> hK b trivial
     subst hKe
     obtain ⟨r,k1,k2,k3⟩:=hE C w _ rb (m - 1) ro (fun | .returned v,w''=> next (a.put o.dst v) w'' | .panicked chain,w''=> Q (.panic chain) a w'' | .outgrown,_=> LetsOut Q) hS (fun b hb=> hnew b trivial hb) (LRel.map_args hTa) hφ (fun C' w' y hs' hS' hn' hv'=>
      hnext y C' w' hv' hs' hS' fun b _ hb=> hn' b (hb.resolve_left (fun h=> h trivial)))
     rw [hsem,ziu ho hc hvx k1 (by simpa using k2),Oper.uponIn_round]
     exact ⟨z6t ro m,by rwa [show (c.args.map a.eval).toList.toArray=c.args.map a.eval from rfl] at k3⟩
   · cases hr
 · cases hr
end Go.Proofs.Ytimcbhhebnikiaa.Ab
namespace Go.Proofs.Ytimcbhhebnikiaa.Ab
open Go
set_option linter.unusedVariables false
set_option linter.unusedSimpArgs false
/-! ### One operation -/
theorem y0q {P:Program} {cf:Cfg} {rec:Rec} (hrec:z4u P rec) (hcl:z4f P cf.clone) {o:Oper} {st:St} {r:CR} (hr:doA P cf rec o.op st=some r):zgc P o st r:=by
 have hbase:∀{q:OR},aOp P st.H st.T o.op=some q→r=zjh q→zgc P o st r:=by
  intro q hq e
  subst e
  have hf:=y1c hq
  refine ⟨hf,fun C K a w ro n Q next hS hK hnew hT hnext=> ?_⟩
  have hnd:∀c,o.op≠.defer c:=fun c e=> by rw [e] at hq;simp [aOp] at hq
  rw [Oper.semAt_eq ro a.eval o hnd]
  have hin:q.h.nx≠st.H.nx→inF (some q.wr) st.H.nx:=fun hne=> hf.2.1 _ (Nat.le_refl _) (by have:=hf.1;omega)
  obtain ⟨v,C',w',hrun,hv,hst,hsim,hdom⟩:=zm2 (T:=st.T) (a:=a) (o:=o) hq hS (fun hne=> hnew _ (hin hne) (Nat.le_refl _)) (fun b hb=> hK b hb) hT
  have hgo:=hnext v C' w' hv hst hsim fun b e hb=> hdom b e (by
   by_cases h1:b=st.H.nx
   · subst h1
     by_cases h2:q.h.nx=st.H.nx
     · exact .inr h2
     · rcases hb with hb | hb
       · exact absurd (hin h2) hb
       · have:=hf.1;exact absurd (Nat.le_antisymm hb this) h2
   · exact .inl h1)
  rcases hrun with hrun | ⟨hrun,rfl⟩
  · rw [hrun];exact hgo
  · rw [hrun];exact hgo
 have hmap:(aOp P st.H st.T o.op).map zjh=some r→zgc P o st r:=by
  intro h
  cases hq:aOp P st.H st.T o.op with
  | none=> rw [hq] at h;cases h
  | some q=>
    rw [hq] at h
    simp only [Option.map_some,Option.some.injEq] at h
    exact hbase hq h.symm
 unfold doA at hr
 split at hr
 · rename_i c hop
   split at hr
   · rename_i x hc
     exact zxc hrec hcl hop hc hr
   · exact hmap hr
 · exact hmap hr
def zx6 (T:Tm) (d:Option Tmp) (v:AV):Tm:=match d with | some d=> T.set d v | none=> T
theorem zkl {st st':St} {d:Option Tmp} {v:AV} (h:zop st d v=some st'):st'.H=st.H∧st'.n=st.n∧st'.q=st.q∧st'.T=zx6 st.T d v∧∀t,d=some t→t < st.n:=by
 unfold zop at h
 split at h
 · split at h
   · rename_i hd
     injection h with h;subst h
     exact ⟨rfl,rfl,rfl,rfl,fun t e=> by injection e with e;subst e;exact hd⟩
   · cases h
 · injection h with h;subst h
   exact ⟨rfl,rfl,rfl,rfl,fun t e=> by cases e⟩
def zqb (P:Program) (ops:Array Oper) (ro:Option Nat) (n:Nat) (Q:Exit→Act→World→Prop) (o:Oper) (next:Act→World→Prop) (a:Act) (w:World):Prop:=
 if Region.wanted o (yielded ops a.tmps)=true then o.wpIn (fen ro) n P a w next Q else (∀f,o.about P w a.eval=some f→(fen ro).fn f)∧next (a.put o.dst undef) w
structure OperOk (P:Program) (ops:Array Oper) (o:Oper) (st st':St) (ft:Ft):Prop where
 frm:Frm st.H st'.H ft.2
 n:st'.n=st.n
 q:st'.q=st.q
 dst:∀t,o.dst=some t→t < st.n
 run:∃V,st'.T=zx6 st.T o.dst V∧∀(C:Ctx) (K:Nat→Option AObj) (a:Act) (w:World) (ro:Option Nat) (n:Nat) (Q:Exit→Act→World→Prop) (next:Act→World→Prop),
  Sim C K w→(∀b,inF ft.1 b→K b=st.H.get b)→(∀b,inF ft.2 b→st.H.nx≤b→C.φ b=none)→(∀t∈o.looksAt ops,x3 C w (st.T.get t) (a.tmps.getD t undef))→
  (∀v C' w',x3 C' w' V v→Step C w C' w'→Sim C' (wrK ft.2 st'.H K) w'→(∀b,C.φ b=none→(¬inF ft.2 b∨st'.H.nx≤b)→C'.φ b=none)→next (a.put o.dst v) w')→
  zqb P ops ro n Q o next a w
theorem zdz {ops:Array Oper} {T:Tm} {o:Oper} {b:Bool} (h:z5w ops T o=some b) {C:Ctx} {w:World} {a:Act} (hT:∀t∈o.looksAt ops,x3 C w (T.get t) (a.tmps.getD t undef)):
 Region.wanted o (yielded ops a.tmps)=b:=by
 unfold z5w at h
 unfold Region.wanted
 split at h
 · rename_i hg;rw [hg];injection h
 · rename_i j want hg
   rw [hg]
   simp only
   split at h
   · rename_i d hd
     have hl:d∈o.looksAt ops:=by
      unfold Oper.looksAt
      rw [hg]
      simp [hd]
     have hv:=hT d hl
     unfold yielded
     rw [hd]
     simp only [Option.bind_some]
     split at h
     · rename_i x hx
       injection h with h;subst h
       rw [hx] at hv
       simp only [x3] at hv
       have:a.tmps[d]? =some (.bool x):=by
        rw [Array.getD_eq_getD_getElem?] at hv
        cases e:a.tmps[d]? with
        | none=> rw [e] at hv;simp [undef] at hv
        | some y=> rw [e] at hv;simp at hv;rw [hv]
       rw [this]
       simp
     · rename_i hx
       injection h with h;subst h
       rw [hx] at hv
       simp only [x3,LRel] at hv
       obtain ⟨vs,hv,rfl⟩:=hv
       rw [Array.getD_eq_getD_getElem?] at hv
       cases e:a.tmps[d]? with
       | none=> simp
       | some y=> rw [e] at hv;simp at hv;rw [hv];simp
     · cases h
   · cases h
theorem zf9 {P:Program} {cf:Cfg} {rec:Rec} (hrec:z4u P rec) (hcl:z4f P cf.clone) {ops:Array Oper} {o:Oper} {st st':St} {ft:Ft} (h:zjf P cf rec ops o st=some (st',ft)):OperOk P ops o st st' ft:=by
 unfold zjf at h
 split at h
 · cases h
 · rename_i hw
   split at h
   · rename_i s hp
     simp only [Option.some.injEq,Prod.mk.injEq] at h
     obtain ⟨rfl,rfl⟩:=h
     obtain ⟨h1,h2,h3,h4,h5⟩:=zkl hp
     refine ⟨by rw [h1];exact Frm.same _,h2,h3,h5,_,h4,fun C K a w ro n Q next hS hK hnew hT hnext=> ?_⟩
     unfold zqb
     rw [zdz hw hT]
     refine ⟨fun _ _=> trivial,hnext undef C w ?_ (Step.refl C w) ?_ fun b e _=> e⟩
     · simp only [x3,undef];exact ⟨[],rfl,LRel.nil⟩
     · simpa [wrK] using hS
   · cases h
 · rename_i hw
   split at h
   · rename_i r hr
     split at h
     · rename_i s hp
       simp only [Option.some.injEq,Prod.mk.injEq] at h
       obtain ⟨rfl,rfl⟩:=h
       obtain ⟨h1,h2,h3,h4,h5⟩:=zkl hp
       simp only at h1 h2 h3 h4 h5
       obtain ⟨hf,hgo⟩:=y0q hrec hcl hr
       refine ⟨by rw [h1];exact hf,h2,h3,h5,r.v,h4,fun C K a w ro n Q next hS hK hnew hT hnext=> ?_⟩
       unfold zqb
       rw [zdz hw hT]
       refine ⟨fun _ _=> trivial,hgo C K a w ro n Q next hS hK hnew (fun x hx t e=> hT t ?_) fun v C' w' k1 k2 k3 k4=> hnext v C' w' k1 k2 (by rw [h1];exact k3) (by rw [h1];exact k4)⟩
       subst e
       exact List.mem_append_left _ (List.mem_filterMap.2 ⟨.tmp t,by simpa using hx,rfl⟩)
     · cases h
   · cases h
theorem zd9 {P:Program} {ops:Array Oper} {ro:Option Nat} {n:Nat} {Q:Exit→Act→World→Prop} {i:Nat} {o:Oper} (ho:ops[i]? =some o) {next:Act→World→Prop} {a:Act} {w:World} (h:zqb P ops ro n Q o next a w):wpOpIn (fen ro) n P ops Q i next a w:=by
 unfold wpOpIn;rw [ho];exact h
theorem z2z.put {C:Ctx} {w:World} {T:Tm} {a:Act} {d:Option Tmp} {x:AV} {v:Value} (h:z2z C w T a.tmps) (hd:∀t,d=some t→t < a.tmps.size) (hv:x3 C w x v):z2z C w (zx6 T d x) (a.put d v).tmps:=by
 cases d with
 | none=> exact h
 | some d=> exact h.set (hd d rfl) hv
theorem zj5 (a:Act) (d:Option Tmp) (v:Value):(a.put d v).tmps.size=a.tmps.size:=by cases d <;> simp [Act.put]
theorem z74 (a:Act) (d:Option Tmp) (v:Value):(a.put d v).defers=a.defers:=by cases d <;> rfl
theorem zow {h h':AH} {wr:Option (List Nat)} (hf:Frm h h' wr) (b:Nat):wrK wr h' h.get b=h'.get b:=by
 cases wr with
 | none=> rfl
 | some l=>
   simp only [wrK]
   split
   · rfl
   · rename_i hb;exact (hf.2.2 b hb).symm
theorem zqm {P:Program} {cf:Cfg} {rec:Rec} (hrec:z4u P rec) (hcl:z4f P cf.clone) {ops:Array Oper}:∀{l:List Nat} {st st':St} {fts:List Ft},zo3 P cf rec ops l st=some (st',fts)→
 st'.q=st.q∧st'.n=st.n∧st.H.nx≤st'.H.nx∧∀(C:Ctx) (a:Act) (w:World) (s0:Nat) (ro:Option Nat) (n:Nat) (Q:Exit→Act→World→Prop),SRel C st a w→z0o C w s0 a.defers→(ro.isSome=true→a.defers=[])→
  zck C w st' s0 ro (Q .normal)→wpOpsIn (fen ro) n P ops Q l a w
 | [],st,st',fts,h=> by
   simp only [zo3,Option.some.injEq,Prod.mk.injEq] at h;obtain ⟨rfl,rfl⟩:=h
   exact ⟨rfl,rfl,Nat.le_refl _,fun C a w s0 ro n Q hsr hm hd hQ=> hQ C a w (Step.refl C w) hsr hm hd⟩
 | i::l,st,st',fts,h=> by
   simp only [zo3] at h
   split at h
   · rename_i o ho
     split at h
     · rename_i st1 ft h1
       split at h
       · rename_i st2 fts' h2
         simp only [Option.some.injEq,Prod.mk.injEq] at h;obtain ⟨rfl,rfl⟩:=h
         have hok:=zf9 hrec hcl h1
         obtain ⟨e1,e1n,e2,e3⟩:=zqm hrec hcl h2
         refine ⟨e1.trans hok.q,e1n.trans hok.n,Nat.le_trans hok.frm.1 e2,fun C a w s0 ro n Q hsr hm hd hQ=> ?_⟩
         rw [wpOpsIn_cons]
         refine zd9 ho ?_
         obtain ⟨V,hV,hrun⟩:=hok.run
         refine hrun C st.H.get a w ro n Q _ hsr.sim (fun _ _=> rfl) (fun b _ hb=> hsr.new b hb) (fun t _=> hsr.tm t) fun v C' w' k1 k2 k3 k4=> ?_
         refine e3 C' _ w' s0 ro n Q ⟨?_,?_,k3.congr fun b=> (zow hok.frm b).symm,fun b hb=> k4 b (hsr.new b (Nat.le_trans hok.frm.1 hb)) (.inr hb)⟩ (by rw [z74];exact hm.step k2) (by rw [z74];exact hd) fun C'' a'' w'' g1 g2 g3 g4=> hQ C'' a'' w'' (k2.trans g1) g2 g3 g4
         · rw [hV];exact z2z.put (hsr.tm.step k2) (fun t e=> by rw [hsr.n];exact hok.dst t e) k1
         · rw [zj5,hsr.n,hok.n]
       · cases h
     · cases h
   · cases h
end Go.Proofs.Ytimcbhhebnikiaa.Ab
namespace Go.Proofs.Ytimcbhhebnikiaa.Ab
open Go
set_option linter.unusedVariables false
set_option linter.unusedSimpArgs false
theorem y3a {wr:Option (List Nat)} {h':AH} {K:Nat→Option AObj} {b:Nat} (h:inF wr b):wrK wr h' K b=h'.get b:=by
 cases wr with
 | none=> rfl
 | some l=> simp only [wrK];rw [if_pos (show b∈l from h)]
theorem y1e {wr:Option (List Nat)} {h':AH} {K:Nat→Option AObj} {b:Nat} (h:¬inF wr b):wrK wr h' K b=K b:=by
 cases wr with
 | none=> exact absurd trivial h
 | some l=> simp only [wrK];rw [if_neg (show ¬b∈l from h)]
/-! ### What is before what -/
def one1 (A:Array Nat) (o:Oper):Nat:=o.after.foldl (fun s e=> if Region.binds .any e then s ||| 2 ^ e.on ||| A.getD e.on 0 else s) 0
theorem zl3 (A:Array Nat) (i:Nat):∀(l:List Edge) (s:Nat),(l.foldl (fun s e=> if Region.binds .any e then s ||| 2 ^ e.on ||| A.getD e.on 0 else s) s).testBit i=true↔
 (s.testBit i=true∨∃e∈l,Region.binds .any e=true∧(e.on=i∨(A.getD e.on 0).testBit i=true))
 | [],s=> by simp
 | e::l,s=> by
   rw [List.foldl_cons,zl3 A i l]
   by_cases hb:Region.binds .any e=true
   · simp only [hb,if_true,Nat.testBit_or,Nat.testBit_two_pow,Bool.or_eq_true,decide_eq_true_eq,List.mem_cons,exists_eq_or_imp,true_and]
     constructor
     · rintro (((h | h) | h) | h)
       · exact .inl h
       · exact .inr (.inl (.inl h))
       · exact .inr (.inl (.inr h))
       · exact .inr (.inr h)
     · rintro (h | (h | h) | h)
       · exact .inl (.inl (.inl h))
       · exact .inl (.inl (.inr h))
       · exact .inl (.inr h)
       · exact .inr h
   · simp only [hb,if_false,List.mem_cons,exists_eq_or_imp,false_and,false_or,Bool.false_eq_true]
theorem zkw (A:Array Nat) (o:Oper) (i:Nat):(one1 A o).testBit i=true↔∃e∈o.after,Region.binds .any e=true∧(e.on=i∨(A.getD e.on 0).testBit i=true):=by
 unfold one1
 rw [←Array.foldl_toList,zl3]
 simp
structure OkB (pre:List Oper) (A:Array Nat):Prop where
 size:A.size=pre.length
 down:∀j i,(A.getD j 0).testBit i=true→∃o,pre[j]? =some o∧∃e∈o.after,Region.binds .any e=true∧(e.on=i∨(A.getD e.on 0).testBit i=true)
 up:∀j o e,pre[j]? =some o→e∈o.after→Region.binds .any e=true→(A.getD j 0).testBit e.on=true
theorem z9x {A:Array Nat} {x j:Nat} (h:j < A.size):(A.push x).getD j 0=A.getD j 0:=by
 rw [Array.getD_eq_getD_getElem?,Array.getD_eq_getD_getElem?,Array.getElem?_push,if_neg (by omega)]
theorem zdg {A:Array Nat} {x:Nat}:(A.push x).getD A.size 0=x:=by
 rw [Array.getD_eq_getD_getElem?,Array.getElem?_push,if_pos rfl];rfl
theorem zu5 {A:Array Nat} {j:Nat} (h:A.size≤j):A.getD j 0=0:=by
 rw [Array.getD_eq_getD_getElem?,Array.getElem?_eq_none h];rfl
theorem OkB.push {pre:List Oper} {A:Array Nat} (h:OkB pre A) (o:Oper):OkB (pre++[o]) (A.push (one1 A o)) where
 size:=by simp [h.size]
 down j i hj:=by
  have up:∀e:Edge,(e.on=i∨(A.getD e.on 0).testBit i=true)→(e.on=i∨((A.push (one1 A o)).getD e.on 0).testBit i=true):=by
   rintro e (g | g)
   · exact .inl g
   · refine .inr ?_
     rcases Nat.lt_or_ge e.on A.size with l | l
     · rw [z9x l];exact g
     · rw [zu5 l] at g;simp at g
  rcases Nat.lt_trichotomy j A.size with l | l | l
  · rw [z9x l] at hj
    obtain ⟨o',h1,e,h2,h3,h4⟩:=h.down j i hj
    exact ⟨o',by rw [List.getElem?_append_left (by rw [←h.size];exact l)];exact h1,e,h2,h3,up e h4⟩
  · subst l
    rw [zdg,zkw] at hj
    obtain ⟨e,h2,h3,h4⟩:=hj
    exact ⟨o,by rw [h.size];simp,e,h2,h3,up e h4⟩
  · rw [zu5 (by simp;omega)] at hj;simp at hj
 up j o' e hj he hb:=by
  rcases Nat.lt_trichotomy j A.size with l | l | l
  · rw [z9x l]
    rw [List.getElem?_append_left (by rw [←h.size];exact l)] at hj
    exact h.up j o' e hj he hb
  · subst l
    rw [h.size] at hj
    simp at hj;subst hj
    rw [zdg,zkw]
    exact ⟨e,he,hb,.inl rfl⟩
  · rw [List.getElem?_eq_none (by simp;rw [←h.size];omega)] at hj;cases hj
theorem zpa:∀(l pre:List Oper) (A:Array Nat),OkB pre A→OkB (pre++l) (l.foldl (fun acc o=> acc.push (one1 acc o)) A)
 | [],pre,A,h=> by simpa using h
 | o::l,pre,A,h=> by
   have:=zpa l (pre++[o]) _ (h.push o)
   simpa using this
theorem zlt (ops:Array Oper):OkB ops.toList (Region.before ops):=by
 have:OkB ([]++ops.toList) (ops.toList.foldl (fun acc o=> acc.push (one1 acc o)) #[]):=zpa ops.toList [] #[] ⟨rfl,fun j i h=> by simp [Array.getD] at h,fun j o e h=> by simp at h⟩
 rw [Array.foldl_toList] at this
 exact this
def bef (ops:Array Oper) (i j:Nat):Prop:=((Region.before ops).getD j 0).testBit i=true
theorem z6i {ops:Array Oper} (h:z9 ops=true):(∀j < ops.size,(Region.before ops).getD j 0 < 2 ^ j)∧
 ∀i j x y,i < j→ops[i]? =some x→ops[j]? =some y→bef ops i j∨x.apart ops y=true:=by
 unfold z9 at h
 simp only [Bool.and_eq_true,List.all_eq_true,List.mem_range,decide_eq_true_eq] at h
 refine ⟨fun j hj=> (h.2 j hj).1,fun i j x y hij hx hy=> ?_⟩
 have hj:j < ops.size:=(Array.getElem?_eq_some_iff.1 hy).1
 have:=(h.2 j hj).2 i hij
 rw [hx,hy] at this
 simpa [bef] using this
/-! ### Blocks that are touched -/
theorem zf8 {a b:Option (List Nat)} (h:zwk a b=true) (z:Nat) (ha:inF a z) (hb:inF b z):False:=by
 unfold zwk at h
 split at h
 · simp [inF] at ha
 · simp [inF] at hb
 · rename_i xs ys _ _
   have:=List.all_eq_true.1 h z ha
   simp at this
   exact this hb
 · cases h
theorem zhn {bj:Nat} {y:Ft}:∀{l:List Ft} {i:Nat},ztu bj y i l=true→∀k x,l[k]? =some x→bj.testBit (i+k)=true∨zwb x y=true
 | [],i,h,k,x,hk=> by simp at hk
 | z::l,i,h,k,x,hk=> by
   simp only [ztu,Bool.and_eq_true,Bool.or_eq_true] at h
   cases k with
   | zero=> simp at hk;subst hk;exact h.1
   | succ k=>
     have:=zhn h.2 k x (by simpa using hk)
     rw [show i+1+k=i+(k+1) by omega] at this
     exact this
theorem zd7 {b:Array Nat}:∀{l pre:List Ft},w8 b pre pre.length l=true→∀i j x y,i < pre.length+j→(pre++l)[i]? =some x→l[j]? =some y→(b.getD (pre.length+j) 0).testBit i=true∨zwb x y=true
 | [],pre,h,i,j,x,y,hij,hx,hy=> by simp at hy
 | z::l,pre,h,i,j,x,y,hij,hx,hy=> by
   simp only [w8,Bool.and_eq_true] at h
   cases j with
   | zero=>
     simp at hy;subst hy
     have hlt:i < pre.length:=by omega
     rw [List.getElem?_append_left hlt] at hx
     have:=zhn h.1 i x hx
     simpa using this
   | succ j=>
     have h2:w8 b (pre++[z]) (pre++[z]).length l=true:=by simpa using h.2
     have:=zd7 h2 i j x y (by simp;omega) (by simpa using hx) (by simpa using hy)
     simp only [List.length_append,List.length_cons,List.length_nil] at this
     rw [show pre.length+(0+1)+j=pre.length+(j+1) by omega] at this
     exact this
def ztk (x y:Ft) (z:Nat):Prop:=(inF x.2 z∧inF y.1 z)∨(inF x.2 z∧inF y.2 z)∨(inF x.1 z∧inF y.2 z)
theorem zls {x y:Ft} (h:zwb x y=true) (z:Nat):¬ztk x y z:=by
 simp only [zwb,Bool.and_eq_true] at h
 rintro (⟨a,b⟩ | ⟨a,b⟩ | ⟨a,b⟩)
 · exact zf8 h.1.1 z a b
 · exact zf8 h.1.2 z a b
 · exact zf8 h.2 z a b
/-! ### What was written last -/
section
variable {α : Type} {W : Nat → Prop} {val : Nat → α} {n : Nat}
def zuy (W:Nat→Prop) (val:Nat→α) (S:Nat→Prop) (X:α):Prop:=
 (∃j,S j∧W j∧(∀k,S k→j < k→¬W k)∧X=val (j+1))∨((∀k,S k→¬W k)∧X=val 0)
theorem zeu (hstep:∀j,j < n→¬W j→val (j+1)=val j):∀i,i≤n→(∃j,j < i∧W j∧(∀k,j < k→k < i→¬W k)∧val i=val (j+1))∨((∀k,k < i→¬W k)∧val i=val 0)
 | 0,_=> .inr ⟨fun k h=> by omega,rfl⟩
 | i+1,hi=> by
   by_cases hW:W i
   · exact .inl ⟨i,by omega,hW,fun k h1 h2=> by omega,rfl⟩
   · have hs:=hstep i (by omega) hW
     rcases zeu hstep i (by omega) with ⟨j,h1,h2,h3,h4⟩ | ⟨h1,h2⟩
     · refine .inl ⟨j,by omega,h2,fun k k1 k2=> ?_,by rw [hs,h4]⟩
       by_cases e:k=i
       · rw [e];exact hW
       · exact h3 k k1 (by omega)
     · refine .inr ⟨fun k hk=> ?_,by rw [hs,h2]⟩
       by_cases e:k=i
       · rw [e];exact hW
       · exact h1 k (by omega)
theorem z5c (hstep:∀j,j < n→¬W j→val (j+1)=val j) {S:Nat→Prop} {X:α} {i:Nat} (hi:i≤n) (h:zuy W val S X) (hpred:∀j,j < i→W j→S j) (hsucc:∀j,i≤j→W j→S j→False):X=val i:=by
 rcases h with ⟨j,h1,h2,h3,h4⟩ | ⟨h1,h2⟩
 · have hji:j < i:=by
    rcases Nat.lt_or_ge j i with g | g
    · exact g
    · exact (hsucc j g h2 h1).elim
   rcases zeu hstep i hi with ⟨k,k1,k2,k3,k4⟩ | ⟨k1,_⟩
   · have hkj:k=j:=by
      rcases Nat.lt_trichotomy k j with g | g | g
      · exact absurd h2 (k3 j g hji)
      · exact g
      · exact absurd k2 (h3 k (hpred k k1 k2) g)
     subst hkj
     rw [h4,k4]
   · exact absurd h2 (k1 j hji)
 · rcases zeu hstep i hi with ⟨k,k1,k2,k3,k4⟩ | ⟨_,k2⟩
   · exact absurd k2 (h1 k (hpred k k1 k2))
   · rw [h2,k2]
theorem zi6 {S:Nat→Prop} {i:Nat} (hW:W i) (hlast:∀j,S j→W j→j < i):zuy W val (fun k=> S k∨k=i) (val (i+1)):=
 .inl ⟨i,.inr rfl,hW,fun k hk h1 h2=> by
  rcases hk with hk | hk
  · have:=hlast k hk h2;omega
  · omega,rfl⟩
theorem zlk {S:Nat→Prop} {i:Nat} {X:α} (hW:¬W i) (h:zuy W val S X):zuy W val (fun k=> S k∨k=i) X:=by
 rcases h with ⟨j,h1,h2,h3,h4⟩ | ⟨h1,h2⟩
 · refine .inl ⟨j,.inl h1,h2,fun k hk hlt=> ?_,h4⟩
   rcases hk with hk | hk
   · exact h3 k hk hlt
   · rw [hk];exact hW
 · refine .inr ⟨fun k hk=> ?_,h2⟩
   rcases hk with hk | hk
   · exact h1 k hk
   · rw [hk];exact hW
end
/-! ### The text's order, place by place -/
theorem zja {P:Program} {cf:Cfg} {rec:Rec} {ops:Array Oper}:∀{l:List Nat} {st st':St} {fts:List Ft},zo3 P cf rec ops l st=some (st',fts)→
 ∃(s:Nat→St),s 0=st∧s l.length=st'∧fts.length=l.length∧∀k i,l[k]? =some i→∃o ft,ops[i]? =some o∧fts[k]? =some ft∧zjf P cf rec ops o (s k)=some (s (k+1),ft)
 | [],st,st',fts,h=> by
   simp only [zo3,Option.some.injEq,Prod.mk.injEq] at h;obtain ⟨rfl,rfl⟩:=h
   exact ⟨fun _=> st,rfl,rfl,rfl,fun k i h=> by simp at h⟩
 | i::l,st,st',fts,h=> by
   simp only [zo3] at h
   split at h
   · rename_i o ho
     split at h
     · rename_i st1 ft h1
       split at h
       · rename_i st2 fts' h2
         simp only [Option.some.injEq,Prod.mk.injEq] at h;obtain ⟨rfl,rfl⟩:=h
         obtain ⟨s,e0,e1,e2,e3⟩:=zja h2
         refine ⟨fun k=> match k with | 0=> st | k+1=> s k,rfl,e1,by simp [e2],fun k j hk=> ?_⟩
         cases k with
         | zero=>
           simp at hk;subst hk
           exact ⟨o,ft,ho,rfl,by simp only [e0];exact h1⟩
         | succ k=>
           obtain ⟨o',ft',g1,g2,g3⟩:=e3 k j (by simpa using hk)
           exact ⟨o',ft',g1,by simpa using g2,g3⟩
       · cases h
     · cases h
   · cases h
structure Trace (P:Program) (ops:Array Oper) (s:Nat→St) (f:Nat→Ft):Prop where
 ok:∀i o,ops[i]? =some o→OperOk P ops o (s i) (s (i+1)) (f i)
 order:∀j < ops.size,(Region.before ops).getD j 0 < 2 ^ j
 rel:∀i j x y,i < j→ops[i]? =some x→ops[j]? =some y→bef ops i j∨(x.apart ops y=true∧∀z,¬ztk (f i) (f j) z)
section
variable {P : Program} {ops : Array Oper} {s : Nat → St} {f : Nat → Ft}
theorem zcm {i:Nat} (h:i < ops.size):∃o,ops[i]? =some o:=⟨ops[i],by simp [h]⟩
theorem Trace.nx (T:Trace P ops s f):∀(d i:Nat),i+d≤ops.size→(s i).H.nx≤(s (i+d)).H.nx
 | 0,i,_=> Nat.le_refl _
 | d+1,i,h=> by
   obtain ⟨o,ho⟩:=zcm (ops:=ops) (i:=i+d) (by omega)
   exact Nat.le_trans (T.nx d i (by omega)) (T.ok _ o ho).frm.1
theorem Trace.n (T:Trace P ops s f):∀(i:Nat),i≤ops.size→(s i).n=(s 0).n
 | 0,_=> rfl
 | i+1,h=> by
   obtain ⟨o,ho⟩:=zcm (ops:=ops) (i:=i) (by omega)
   rw [(T.ok _ o ho).n,T.n i (by omega)]
theorem Trace.q (T:Trace P ops s f):∀(i:Nat),i≤ops.size→(s i).q=(s 0).q
 | 0,_=> rfl
 | i+1,h=> by
   obtain ⟨o,ho⟩:=zcm (ops:=ops) (i:=i) (by omega)
   rw [(T.ok _ o ho).q,T.q i (by omega)]
def Wt (ops:Array Oper) (t:Nat) (j:Nat):Prop:=∃o,ops[j]? =some o∧o.dst=some t
theorem Trace.stepT (T:Trace P ops s f) (t:Nat):∀j,j < ops.size→¬Wt ops t j→(s (j+1)).T.get t=(s j).T.get t:=by
 intro j hj hW
 obtain ⟨o,ho⟩:=zcm (ops:=ops) hj
 obtain ⟨V,hV,_⟩:=(T.ok _ o ho).run
 rw [hV]
 cases hd:o.dst with
 | none=> rfl
 | some d=>
   have:d≠t:=fun e=> hW ⟨o,ho,by rw [hd,e]⟩
   simp only [zx6]
   rw [Tm.get_set,if_neg this]
theorem Trace.stepH (T:Trace P ops s f) (b:Nat):∀j,j < ops.size→¬inF (f j).2 b→(s (j+1)).H.get b=(s j).H.get b:=by
 intro j hj hW
 obtain ⟨o,ho⟩:=zcm (ops:=ops) hj
 exact (T.ok _ o ho).frm.2.2 b hW
structure DInv (ops:Array Oper) (s:Nat→St) (f:Nat→Ft) (C0:Ctx) (a0:Act) (w0:World) (S:Nat→Prop) (C:Ctx) (K:Nat→Option AObj) (a:Act) (w:World):Prop where
 step:Step C0 w0 C w
 sim:Sim C K w
 heap:∀b,zuy (fun j=> inF (f j).2 b) (fun j=> (s j).H.get b) S (K b)
 tmp:∀t,∃X,zuy (Wt ops t) (fun j=> (s j).T.get t) S X∧x3 C w X (a.tmps.getD t undef)
 dom:∀b,(s 0).H.nx≤b→C.φ b=none∨∃j,S j∧inF (f j).2 b∧b < (s (j+1)).H.nx
 size:a.tmps.size=(s 0).n
 defers:a.defers=a0.defers
theorem zvc (T:Trace P ops s f) {C0:Ctx} {a0:Act} {w0:World} {S:Nat→Prop} {C:Ctx} {K:Nat→Option AObj} {a:Act} {w:World} (D:DInv ops s f C0 a0 w0 S C K a w) (hlt:∀j,S j→j < ops.size)
 (hcl:∀j k,S k→bef ops j k→S j) {i:Nat} {o:Oper} (ho:ops[i]? =some o) (hi:¬S i) (hpre:∀j,bef ops j i→S j) {ro:Option Nat} {n:Nat} {Q:Exit→Act→World→Prop} {next:Act→World→Prop}
 (hnext:∀C' K' a' w',DInv ops s f C0 a0 w0 (fun k=> S k∨k=i) C' K' a' w'→next a' w'):zqb P ops ro n Q o next a w:=by
 have hin:i < ops.size:=(Array.getElem?_eq_some_iff.1 ho).1
 have hok:=T.ok i o ho
 obtain ⟨V,hV,hrun⟩:=hok.run
 -- behind i there is none of S that clashes; before it, all that do are of S
 have hbehind:∀j y,S j→ops[j]? =some y→i < j→o.apart ops y=true∧∀z,¬ztk (f i) (f j) z:=by
  intro j y hj hy hij
  rcases T.rel i j o y hij ho hy with g | g
  · exact absurd (hcl i j hj g) hi
  · exact g
 have hahead:∀j x,ops[j]? =some x→j < i→¬S j→x.apart ops o=true∧∀z,¬ztk (f j) (f i) z:=by
  intro j x hx hji hj
  rcases T.rel j i x o hji hx ho with g | g
  · exact absurd (hpre j g) hj
  · exact g
 have hne:∀j,S j→j≠i:=fun j hj e=> hi (e▸hj)
 have hread:∀b,(inF (f i).1 b∨inF (f i).2 b)→K b=(s i).H.get b:=by
  intro b hb
  refine z5c (W:=fun j=> inF (f j).2 b) (val:=fun j=> (s j).H.get b) (T.stepH b) (Nat.le_of_lt hin) (D.heap b) (fun j hji hW=> ?_) (fun j hij hW hS=> ?_)
  · refine Classical.byContradiction fun hj=> ?_
    obtain ⟨x,hx⟩:=zcm (ops:=ops) (i:=j) (by omega)
    exact (hahead j x hx hji hj).2 b (by rcases hb with hb | hb;exact .inl ⟨hW,hb⟩;exact .inr (.inl ⟨hW,hb⟩))
  · have hij':i < j:=Nat.lt_of_le_of_ne hij (Ne.symm (hne j hS))
    obtain ⟨y,hy⟩:=zcm (ops:=ops) (hlt j hS)
    exact (hbehind j y hS hy hij').2 b (by rcases hb with hb | hb;exact .inr (.inr ⟨hb,hW⟩);exact .inr (.inl ⟨hb,hW⟩))
 refine hrun C K a w ro n Q next D.sim (fun b hb=> hread b (.inl hb)) (fun b hb hnx=> ?_) (fun t ht=> ?_) fun v C' w' k1 k2 k3 k4=> hnext C' _ _ w' ⟨D.step.trans k2,k3,fun b=> ?_,fun t=> ?_,fun b hb=> ?_,?_,by rw [z74];exact D.defers⟩
 · -- its new blocks bear no number yet
   have h0:(s 0).H.nx≤b:=Nat.le_trans (by simpa using T.nx i 0 (by omega)) hnx
   rcases D.dom b h0 with g | ⟨j,hj,hW,hlt'⟩
   · exact g
   · exfalso
     rcases Nat.lt_trichotomy j i with l | l | l
     · have:=T.nx (i - (j+1)) (j+1) (by omega)
       rw [show j+1+(i - (j+1))=i by omega] at this
       omega
     · exact hne j hj l
     · obtain ⟨y,hy⟩:=zcm (ops:=ops) (hlt j hj)
       exact (hbehind j y hj hy l).2 b (.inr (.inl ⟨hb,hW⟩))
 · -- what it looks at
   obtain ⟨X,hX,hv⟩:=D.tmp t
   have:X=(s i).T.get t:=by
    refine z5c (W:=Wt ops t) (val:=fun j=> (s j).T.get t) (T.stepT t) (Nat.le_of_lt hin) hX (fun j hji hW=> ?_) (fun j hij hW hS=> ?_)
    · refine Classical.byContradiction fun hj=> ?_
      obtain ⟨x,hx,hd⟩:=hW
      exact (Oper.apart_spec (hahead j x hx hji hj).1).1 t hd ht
    · have hij':i < j:=Nat.lt_of_le_of_ne hij (Ne.symm (hne j hS))
      obtain ⟨y,hy,hd⟩:=hW
      exact (Oper.apart_spec (hbehind j y hS hy hij').1).2.2 t hd ht
   rw [←this];exact hv
 · -- the heap
   by_cases hW:inF (f i).2 b
   · have:wrK (f i).2 (s (i+1)).H K b=(s (i+1)).H.get b:=y3a hW
     rw [this]
     refine zi6 (W:=fun j=> inF (f j).2 b) (val:=fun j=> (s j).H.get b) hW fun j hj hWj=> ?_
     rcases Nat.lt_trichotomy j i with l | l | l
     · exact l
     · exact absurd l (hne j hj)
     · obtain ⟨y,hy⟩:=zcm (ops:=ops) (hlt j hj)
       exact ((hbehind j y hj hy l).2 b (.inr (.inl ⟨hW,hWj⟩))).elim
   · have:wrK (f i).2 (s (i+1)).H K b=K b:=y1e hW
     rw [this]
     exact zlk (W:=fun j=> inF (f j).2 b) hW (D.heap b)
 · -- temporaries
   by_cases hd:o.dst=some t
   · refine ⟨V,?_,?_⟩
     · have hVt:V=(s (i+1)).T.get t:=by rw [hV,hd];simp only [zx6];rw [Tm.get_set,if_pos rfl]
       rw [hVt]
       refine zi6 (W:=Wt ops t) (val:=fun j=> (s j).T.get t) ⟨o,ho,hd⟩ fun j hj hWj=> ?_
       rcases Nat.lt_trichotomy j i with l | l | l
       · exact l
       · exact absurd l (hne j hj)
       · obtain ⟨y,hy,hdy⟩:=hWj
         exact absurd hdy ((Oper.apart_spec (hbehind j y hj hy l).1).2.1 t hd)
     · have hts:t < a.tmps.size:=by rw [D.size,←T.n i (Nat.le_of_lt hin)];exact hok.dst t hd
       have:(a.put o.dst v).tmps.getD t undef=v:=by rw [hd];simp [Act.put,Array.getD_eq_getD_getElem?,hts]
       rw [this];exact k1
   · obtain ⟨X,hX,hv⟩:=D.tmp t
     refine ⟨X,zlk (fun ⟨x,hx,hdx⟩=> hd (by rw [ho] at hx;injection hx with hx;subst hx;exact hdx)) hX,?_⟩
     have:(a.put o.dst v).tmps.getD t undef=a.tmps.getD t undef:=by
      cases he:o.dst with
      | none=> rfl
      | some d=>
        have hne':d≠t:=fun e=> hd (by rw [he,e])
        simp only [Act.put]
        rw [Array.getD_eq_getD_getElem?,Array.getD_eq_getD_getElem?,Array.getElem?_setIfInBounds_ne hne']
     rw [this];exact hv.step k2
 · -- numbers
   rcases D.dom b hb with g | ⟨j,hj,hW,hl⟩
   · by_cases hW:inF (f i).2 b∧b < (s (i+1)).H.nx
     · exact .inr ⟨i,.inr rfl,hW.1,hW.2⟩
     · refine .inl (k4 b g ?_)
       by_cases h1:inF (f i).2 b
       · exact .inr (Nat.le_of_not_lt fun h2=> hW ⟨h1,h2⟩)
       · exact .inl h1
   · exact .inr ⟨j,.inl hj,hW,hl⟩
 · rw [zj5];exact D.size
theorem zqf {l:Array Bool} {i j:Nat} (hi:i < l.size):(l.setIfInBounds i true).getD j false=true↔(l.getD j false=true∨j=i):=by
 rw [Array.getD_eq_getD_getElem?,Array.getD_eq_getD_getElem?,Array.getElem?_setIfInBounds]
 by_cases e:i=j
 · subst e;simp [hi]
 · simp [e,Ne.symm e]
theorem zbh {l:Array Bool} {j:Nat} (h:l.getD j false=true):j < l.size:=by
 rcases Nat.lt_or_ge j l.size with g | g
 · exact g
 · rw [Array.getD_eq_getD_getElem?,Array.getElem?_eq_none g] at h;simp at h
theorem zqe (T:Trace P ops s f) {C0:Ctx} {a0:Act} {w0:World} {ro:Option Nat} {n:Nat} {Q:Exit→Act→World→Prop}
 (hQ:∀C K a w,DInv ops s f C0 a0 w0 (fun j=> j < ops.size) C K a w→Q .normal a w):∀(fuel:Nat) (listed:Array Bool) (C:Ctx) (K:Nat→Option AObj) (a:Act) (w:World),listed.size=ops.size→
   listed.toList.count false≤fuel→(∀j k,listed.getD k false=true→bef ops j k→listed.getD j false=true)→DInv ops s f C0 a0 w0 (fun j=> listed.getD j false=true) C K a w→wpAnyIn (fen ro) n P .any ops Q fuel listed a w:=by
 have hedge:∀j o e,ops[j]? =some o→e∈o.after→Region.binds .any e=true→bef ops e.on j:=fun j o e ho he hb=> (zlt ops).up j o e (by simpa using ho) he hb
 have hltbef:∀i j,j < ops.size→bef ops i j→i < j:=by
  intro i j hj hb
  rcases Nat.lt_or_ge i j with g | g
  · exact g
  · have h1:=T.order j hj
    have:(Region.before ops).getD j 0 < 2 ^ i:=Nat.lt_of_lt_of_le h1 (Nat.pow_le_pow_right (by omega) g)
    unfold bef at hb
    rw [Nat.testBit_lt_two_pow this] at hb;cases hb
 -- none is ready: all are listed
 have hall:∀listed:Array Bool,listed.size=ops.size→Region.ready .any ops listed=[]→∀j,j < ops.size→listed.getD j false=true:=by
  intro listed hsz hr j
  induction j using Nat.strongRecOn with
  | _ j ih=>
    intro hj
    refine Classical.byContradiction fun hn=> ?_
    obtain ⟨o,ho⟩:=zcm (ops:=ops) hj
    have:j∈Region.ready .any ops listed:=by
     refine mem_ready.2 ⟨?_,o,ho,fun e he hb=> ?_⟩
     · rw [Array.getD_eq_getD_getElem?] at hn⊢
       rw [Array.getElem?_eq_getElem (by omega)] at hn⊢
       simpa using hn
     · have:=hltbef e.on j hj (hedge j o e ho he hb)
       exact ih e.on this (by omega)
    rw [hr] at this;cases this
 have hdone:∀(listed:Array Bool) C K a w,listed.size=ops.size→Region.ready .any ops listed=[]→DInv ops s f C0 a0 w0 (fun j=> listed.getD j false=true) C K a w→Q .normal a w:=by
  intro listed C K a w hsz hr D
  have hS:(fun j=> listed.getD j false=true)=fun j=> j < ops.size:=funext fun j=> propext ⟨fun h=> hsz▸zbh h,fun h=> hall listed hsz hr j h⟩
  rw [hS] at D
  exact hQ C K a w D
 intro fuel
 induction fuel with
 | zero=>
   intro listed C K a w hsz hc hcl D
   have hr:Region.ready .any ops listed=[]:=by
    cases hrr:Region.ready .any ops listed with
    | nil=> rfl
    | cons j js=>
      have:j∈Region.ready .any ops listed:=by rw [hrr];simp
      obtain ⟨h0,o,ho,_⟩:=mem_ready.1 this
      have hj:j < listed.size:=by rw [hsz];exact (Array.getElem?_eq_some_iff.1 ho).1
      have hmem:false∈listed.toList:=by
       rw [Array.getD_eq_getD_getElem?,Array.getElem?_eq_getElem hj] at h0
       simp at h0
       rw [←h0];simp
      have:=List.count_pos_iff.2 hmem
      omega
   exact ⟨hr,hdone listed C K a w hsz hr D⟩
 | succ fuel ih=>
   intro listed C K a w hsz hc hcl D
   refine ⟨fun hr=> hdone listed C K a w hsz hr D,fun i hi=> ?_⟩
   obtain ⟨h0,o,ho,hafter⟩:=mem_ready.1 hi
   have hin:i < ops.size:=(Array.getElem?_eq_some_iff.1 ho).1
   have hil:i < listed.size:=by rw [hsz];exact hin
   have hi0:listed[i]=false:=by
    rw [Array.getD_eq_getD_getElem?,Array.getElem?_eq_getElem hil] at h0
    simpa using h0
   have hpre:∀j,bef ops j i→listed.getD j false=true:=by
    intro j hb
    obtain ⟨o',ho',e,he,hbd,hor⟩:=(zlt ops).down i j hb
    have:o'=o:=by
     rw [Array.getElem?_toList,ho] at ho';injection ho' with ho';exact ho'.symm
    subst this
    have hl:=hafter e he hbd
    rcases hor with hor | hor
    · rw [←hor];exact hl
    · exact hcl j e.on hl hor
   refine zd9 ho (zvc T D (fun j hj=> hsz▸zbh hj) hcl ho (fun h=> ?_) hpre fun C' K' a' w' D'=> ?_)
   · rw [Array.getD_eq_getD_getElem?,Array.getElem?_eq_getElem hil] at h
     rw [Option.getD_some,hi0] at h;cases h
   · have hS:(fun j=> (listed.setIfInBounds i true).getD j false=true)=fun k=> listed.getD k false=true∨k=i:=funext fun j=> propext (zqf hil)
     refine ih _ C' K' a' w' (by simpa using hsz) ?_ (fun j k hk hb=> ?_) (by rw [hS];exact D')
     · rw [Array.toList_setIfInBounds,List.count_set (by simpa using hil)]
       have:false∈listed.toList:=by rw [←hi0];simp
       have:=List.count_pos_iff.2 this
       rw [if_pos (by simp [hi0]),if_neg (by simp)]
       omega
     · rw [zqf hil] at hk⊢
       rcases hk with hk | hk
       · exact .inl (hcl j k hk hb)
       · rw [hk] at hb;exact .inl (hpre j hb)
end
/-! ### A region -/
theorem zwn {P:Program} (hm:P.follows .mixedOrders=true) {cf:Cfg} {rec:Rec} (hrec:z4u P rec) (hcl:z4f P cf.clone) {id:Nat} {ops:Array Oper} {draw:Bool} {st st':St} {e:AX} (h:regA P cf rec ops draw st=some (e,st')):
 z23 P (.region id ops draw) st e st':=by
 unfold regA at h
 split at h
 · rename_i st2 fts hops
   split at h
   · rename_i hd
     simp only [Option.some.injEq,Prod.mk.injEq] at h;obtain ⟨rfl,rfl⟩:=h
     obtain ⟨e1,e1n,e2,e3⟩:=zqm hrec hcl hops
     refine ⟨e1,e2,fun C a w s0 ro n Q hq hs0 hsr hmk hd0 hQ=> ?_⟩
     cases draw with
     | false=> exact wpIn_region (e3 C a w s0 ro n Q hsr hmk hd0 hQ)
     | true=>
       obtain ⟨hord,hall⟩:=hd.resolve_left (by simp)
       obtain ⟨s,t0,t1,t2,t3⟩:=zja hops
       simp only [List.length_range] at t1 t2
       have hft:∀k,k < ops.size→∃ft,fts[k]? =some ft:=fun k hk=> ⟨fts[k],by simp [t2,hk]⟩
       have T:Trace P ops s (fun k=> fts.getD k (some [],some [])):=by
        refine ⟨fun i o ho=> ?_,(z6i hord).1,fun i j x y hij hx hy=> ?_⟩
        · have hi:i < ops.size:=(Array.getElem?_eq_some_iff.1 ho).1
          obtain ⟨o',ft,g1,g2,g3⟩:=t3 i i (by simp [hi])
          rw [ho] at g1;injection g1 with g1;subst g1
          have:fts.getD i (some [],some [])=ft:=by rw [List.getD_eq_getElem?_getD,g2];rfl
          rw [this]
          exact zf9 hrec hcl g3
        · have hj:j < ops.size:=(Array.getElem?_eq_some_iff.1 hy).1
          rcases (z6i hord).2 i j x y hij hx hy with g | g
          · exact .inl g
          · obtain ⟨fi,hfi⟩:=hft i (by omega)
            obtain ⟨fj,hfj⟩:=hft j hj
            rcases zd7 (l:=fts) (pre:=[]) hall i j fi fj (by simpa using hij) (by simpa using hfi) hfj with k | k
            · exact .inl (by simpa [bef] using k)
            · refine .inr ⟨g,fun z=> ?_⟩
              have e1:fts.getD i (some [],some [])=fi:=by rw [List.getD_eq_getElem?_getD,hfi];rfl
              have e2:fts.getD j (some [],some [])=fj:=by rw [List.getD_eq_getElem?_getD,hfj];rfl
              rw [e1,e2]
              exact zls k z
       have hw:Step C w C {w with drawn:=w.drawn+1}:=Step.heap rfl rfl
       refine wpIn_region_any hm (zqe (C0:=C) (a0:=a) (w0:={w with drawn:=w.drawn+1}) T (fun C' K' a' w' D=> ?_) ops.size (Array.replicate ops.size false) C st.H.get a {w with drawn:=w.drawn+1} (by simp) (by simp) (fun j k hk=> ?_) ?_)
       · -- all have run
         have hlt:∀j,j < ops.size→j < ops.size:=fun _ h=> h
         have hK:∀b,K' b=st2.H.get b:=fun b=> by
          rw [←t1]
          exact z5c (W:=fun j=> inF ((fun k=> fts.getD k (some [],some [])) j).2 b) (val:=fun j=> (s j).H.get b) (T.stepH b) (Nat.le_refl _) (D.heap b) (fun j hj _=> hj) (fun j hj _ hS=> by have hS':j < ops.size:=hS;omega)
         refine hQ C' a' w' (hw.trans D.step) ⟨fun t=> ?_,?_,D.sim.congr fun b=> (hK b).symm,fun b hb=> ?_⟩ (by rw [D.defers];exact hmk.step (hw.trans D.step)) (by rw [D.defers];exact hd0)
         · obtain ⟨X,hX,hv⟩:=D.tmp t
           have:X=st2.T.get t:=by
            rw [←t1]
            exact z5c (W:=Wt ops t) (val:=fun j=> (s j).T.get t) (T.stepT t) (Nat.le_refl _) hX (fun j hj _=> hj) (fun j hj _ hS=> by have hS':j < ops.size:=hS;omega)
           rw [←this];exact hv
         · rw [D.size,←t1,T.n _ (Nat.le_refl _)]
         · have h0:(s 0).H.nx≤b:=by
            have:=T.nx ops.size 0 (by omega)
            simp only [Nat.zero_add] at this
            rw [t1] at this
            exact Nat.le_trans this hb
           rcases D.dom b h0 with g | ⟨j,hj,_,hl⟩
           · exact g
           · exfalso
             have hj':j < ops.size:=hj
             have:=T.nx (ops.size - (j+1)) (j+1) (by omega)
             rw [show j+1+(ops.size - (j+1))=ops.size by omega,t1] at this
             omega
       · have:=zbh hk
         simp only [Array.size_replicate] at this
         rw [Array.getD_eq_getD_getElem?] at hk;simp [this] at hk
       · have hno:∀j,¬(Array.replicate ops.size false).getD j false=true:=by
          intro j hj
          have:=zbh hj
          simp only [Array.size_replicate] at this
          rw [Array.getD_eq_getD_getElem?] at hj;simp [this] at hj
         refine ⟨Step.refl _ _,Sim.heap (w:=w) rfl rfl hsr.sim,fun b=> .inr ⟨fun k hk=> absurd hk (hno k),by simp only [t0]⟩,fun t=> ⟨st.T.get t,.inr ⟨fun k hk=> absurd hk (hno k),by simp only [t0]⟩,(hsr.tm t).step hw⟩,fun b hb=> .inl (hsr.new b (by rw [t0] at hb;exact hb)),by rw [t0];exact hsr.n,rfl⟩
   · cases h
 · cases h
end Go.Proofs.Ytimcbhhebnikiaa.Ab
namespace Go.Proofs.Ytimcbhhebnikiaa.Ab
open Go
set_option linter.unusedVariables false
set_option linter.unusedSimpArgs false
section
variable {P : Program}
theorem zck.trans {C C1:Ctx} {w w1:World} {st':St} {s0:Nat} {ro:Option Nat} {Q:Act→World→Prop} (hs:Step C w C1 w1) (h:zck C w st' s0 ro Q):zck C1 w1 st' s0 ro Q:=
 fun C' a' w' h1 h2 h3 h4=> h C' a' w' (hs.trans h1) h2 h3 h4
theorem z2q {c:Code} {e:AX} {st:St} (h:∀(F:Fence) (n:Nat) (Q:Exit→Act→World→Prop) (a:Act) (w:World),F.fn=(fun _=> True)→Q (z2n e) a w→c.wpIn F n P Q a w):z23 P c st e st:=
 ⟨rfl,Nat.le_refl _,fun C a w s0 ro n Q hq hs0 hsr hm hd hQ=> h (fen ro) n Q a w rfl (hQ C a w (Step.refl C w) hsr hm hd)⟩
theorem zl2 {x y:Code} {st st1 st2:St} {e:AX} (h1:z23 P x st .normal st1) (h2:z23 P y st1 e st2):z23 P (.seq x y) st e st2:=by
 obtain ⟨a1,b1,c1⟩:=h1
 obtain ⟨a2,b2,c2⟩:=h2
 refine ⟨a2.trans a1,Nat.le_trans b1 b2,fun C a w s0 ro n Q hq hs0 hsr hm hd hQ=> wpIn_seq (c1 C a w s0 ro n _ hq hs0 hsr hm hd ?_)⟩
 intro C' a' w' g1 g2 g3 g4
 exact c2 C' a' w' s0 ro n Q (a1.trans hq) (Nat.le_trans hs0 g1.size) g2 g3 g4 (hQ.trans g1)
theorem zeq {e:AX} (he:e≠.normal) {K:Act→World→Prop} {Q:Exit→Act→World→Prop} {a:Act} {w:World} (h:Q (z2n e) a w):Exit.then K Q (z2n e) a w:=by
 cases e <;> first | exact absurd rfl he | exact h
theorem zhf {x y:Code} {st st1:St} {e:AX} (he:e≠.normal) (h1:z23 P x st e st1):z23 P (.seq x y) st e st1:=by
 obtain ⟨a1,b1,c1⟩:=h1
 refine ⟨a1,b1,fun C a w s0 ro n Q hq hs0 hsr hm hd hQ=> wpIn_seq (c1 C a w s0 ro n _ hq hs0 hsr hm hd ?_)⟩
 exact fun C' a' w' g1 g2 g3 g4=> zeq he (hQ C' a' w' g1 g2 g3 g4)
theorem zgv {c:Operand} {x y:Code} {st st1:St} {e:AX} {t:Bool} (hc:ev st.T c=.b t) (h:z23 P (bif t then x else y) st e st1):z23 P (.cond c x y) st e st1:=by
 obtain ⟨a1,b1,c1⟩:=h
 refine ⟨a1,b1,fun C a w s0 ro n Q hq hs0 hsr hm hd hQ=> ?_⟩
 have hv:x3 C w (ev st.T c) (a.eval c):=z07 fun t _=> hsr.tm t
 rw [hc] at hv
 simp only [x3] at hv
 refine wpIn_cond hv ?_
 have:=c1 C a w s0 ro n Q hq hs0 hsr hm hd hQ
 cases t <;> exact this
theorem zfs {id:Nat} {c:Code} {st st1:St} {e:AX} (h:z23 P c st e st1):z23 P (.block id c) st (zjp id e) st1:=by
 obtain ⟨a1,b1,c1⟩:=h
 refine ⟨a1,b1,fun C a w s0 ro n Q hq hs0 hsr hm hd hQ=> wpIn_block (c1 C a w s0 ro n _ hq hs0 hsr hm hd ?_)⟩
 intro C' a' w' g1 g2 g3 g4
 have:=hQ C' a' w' g1 g2 g3 g4
 cases e with
 | exit j=>
   simp only [zjp] at this
   simp only [z2n,Exit.inBlock]
   split at this
   · rename_i hj;rw [if_pos hj];exact this
   · rename_i hj;rw [if_neg hj];exact this
 | _=> exact this
/-! ### Loops -/
theorem zkx {rec:Rec} (hrec:z4u P rec) {body:Code}:∀{k:Nat} {st st':St} {e:AX},zto rec body k st=some (e,st')→
 st'.q=st.q∧st.H.nx≤st'.H.nx∧∀(C:Ctx) (a:Act) (w:World) (s0:Nat) (ro:Option Nat) (n:Nat) (Q:Exit→Act→World→Prop),st.q=ro.isSome→s0≤w.heap.size→SRel C st a w→z0o C w s0 a.defers→(ro.isSome=true→a.defers=[])→
  zck C w st' s0 ro (Q (z2n e))→Code.roundsIn (fen ro) n P body Q k a w
 | 0,st,st',e,h=> by cases h
 | k+1,st,st',e,h=> by
   simp only [zto] at h
   split at h
   · rename_i st1 h1
     obtain ⟨a1,b1,c1⟩:=hrec _ _ _ _ h1
     obtain ⟨a2,b2,c2⟩:=zkx hrec h
     refine ⟨a2.trans a1,Nat.le_trans b1 b2,fun C a w s0 ro n Q hq hs0 hsr hm hd hQ=> ?_⟩
     rw [roundsIn_succ]
     refine c1 C a w s0 ro n _ hq hs0 hsr hm hd fun C' a' w' g1 g2 g3 g4=> ?_
     exact c2 C' a' w' s0 ro n Q (a1.trans hq) (Nat.le_trans hs0 g1.size) g2 g3 g4 (hQ.trans g1)
   · rename_i hno
     obtain ⟨a1,b1,c1⟩:=hrec _ _ _ _ h
     have hne:e≠.normal:=fun e'=> by subst e';exact hno _ h
     refine ⟨a1,b1,fun C a w s0 ro n Q hq hs0 hsr hm hd hQ=> ?_⟩
     rw [roundsIn_succ]
     exact c1 C a w s0 ro n _ hq hs0 hsr hm hd fun C' a' w' g1 g2 g3 g4=> zeq hne (hQ C' a' w' g1 g2 g3 g4)
/-! ### Scopes -/
def zau (body:Code) (K:Code→Act→World→Prop) (Q:Exit→Act→World→Prop):Exit→Act→World→Prop
 | .goto l,a,w=> match findLabel body l with | some rest=> K rest a w | none=> Q (.goto l) a w
 | e,a,w=> Q e a w
def zbn (F:Fence) (n:Nat) (P:Program) (body:Code) (Q:Exit→Act→World→Prop):Nat→Code→Act→World→Prop
 | 0,_,_,_=> False
 | m+1,c,a,w=> c.wpIn F n P (zau body (zbn F n P body Q m) Q) a w
section
variable {b : Frame} {a : Act} {k : List Item} {cs : List Frame} {w : World}
theorem zqv {c:Code}:step P (lone (b.atR a (.code (.scope c)::k)) cs w)=.next (lone (b.atR a (.code c::.inScope c::k)) cs w):=
 step_lone_go (by simp [stepG,stepG.exec,Frame.atR])
theorem zkg {c:Code}:step P (lone (b.atR a (.inScope c::k)) cs w)=.next (lone (b.atR a k) cs w):=
 step_lone_go (by simp [stepG,stepG.exec,Frame.atR])
end
theorem zhe {F:Fence} {n:Nat} {Q:Exit→Act→World→Prop} {a:Act} {w:World} {body:Code} (m:Nat) (h:zbn F n P body Q m body a w):(Code.scope body).wpIn F n P Q a w:=by
 intro b k cs hro hb hr
 have key:∀m c a w,zbn F n P body Q m c a w→∃e a' w',Q e a' w'∧ArrivesIn (Machine.fenced P F) P (lone (b.atR a (.code c::.inScope body::k)) cs w) b k cs e a' w':=by
  intro m
  induction m with
  | zero=> intro c a w h;exact h.elim
  | succ m ih=>
    intro c a w h
    obtain ⟨e,a₁,w₁,hq,harr⟩:=h b (.inScope body::k) cs hro hb hr
    cases e with
    | normal=> exact ⟨.normal,a₁,w₁,hq,StepsIn.trans harr (.one (fenced_calm hb hr rfl) zkg)⟩
    | exit id=>
      have hx:exitTo id (.inScope body::k)=exitTo id k:=by simp [exitTo]
      exact ⟨.exit id,a₁,w₁,hq,fun k' hk=> harr.1 k' (by rw [hx];exact hk),fun hr' hk=> harr.2 hr' (by rw [hx];exact hk)⟩
    | goto l=>
      simp only [zau] at hq
      split at hq
      · rename_i rest hf
        obtain ⟨e₂,a₂,w₂,hq₂,harr₂⟩:=ih rest a₁ w₁ hq
        exact ⟨e₂,a₂,w₂,hq₂,.of_steps (harr.1 _ (by simp [gotoIn,hf])) harr₂⟩
      · rename_i hf
        have hx:gotoIn l (.inScope body::k)=gotoIn l k:=by simp [gotoIn,hf]
        exact ⟨.goto l,a₁,w₁,hq,fun k' hk=> harr.1 k' (by rw [hx];exact hk),fun hr' hk=> harr.2 hr' (by rw [hx];exact hk)⟩
    | ret=> exact ⟨_,a₁,w₁,hq,harr⟩
    | panic ch=> exact ⟨_,a₁,w₁,hq,harr⟩
    | outgrown=> exact ⟨_,a₁,w₁,hq,harr⟩
 obtain ⟨e,a',w',hq,harr⟩:=key m body a w h
 exact ⟨e,a',w',hq,.of_steps (.one (fenced_calm hb hr rfl) zqv) harr⟩
theorem zix {rec:Rec} (hrec:z4u P rec) {body:Code}:∀{k:Nat} {c:Code} {st st':St} {e:AX},zn3 rec body k c st=some (e,st')→
 st'.q=st.q∧st.H.nx≤st'.H.nx∧∀(C:Ctx) (a:Act) (w:World) (s0:Nat) (ro:Option Nat) (n:Nat) (Q:Exit→Act→World→Prop),st.q=ro.isSome→s0≤w.heap.size→SRel C st a w→z0o C w s0 a.defers→(ro.isSome=true→a.defers=[])→
  zck C w st' s0 ro (Q (z2n e))→zbn (fen ro) n P body Q k c a w
 | 0,c,st,st',e,h=> by cases h
 | k+1,c,st,st',e,h=> by
   simp only [zn3] at h
   split at h
   · rename_i l st1 h1
     obtain ⟨a1,b1,c1⟩:=hrec _ _ _ _ h1
     split at h
     · rename_i rest hf
       obtain ⟨a2,b2,c2⟩:=zix hrec h
       refine ⟨a2.trans a1,Nat.le_trans b1 b2,fun C a w s0 ro n Q hq hs0 hsr hm hd hQ=> ?_⟩
       refine c1 C a w s0 ro n _ hq hs0 hsr hm hd fun C' a' w' g1 g2 g3 g4=> ?_
       simp only [z2n,zau,hf]
       exact c2 C' a' w' s0 ro n Q (a1.trans hq) (Nat.le_trans hs0 g1.size) g2 g3 g4 (hQ.trans g1)
     · rename_i hf
       simp only [Option.some.injEq,Prod.mk.injEq] at h;obtain ⟨rfl,rfl⟩:=h
       refine ⟨a1,b1,fun C a w s0 ro n Q hq hs0 hsr hm hd hQ=> ?_⟩
       refine c1 C a w s0 ro n _ hq hs0 hsr hm hd fun C' a' w' g1 g2 g3 g4=> ?_
       simp only [z2n,zau,hf]
       exact hQ C' a' w' g1 g2 g3 g4
   · rename_i hno
     obtain ⟨a1,b1,c1⟩:=hrec _ _ _ _ h
     refine ⟨a1,b1,fun C a w s0 ro n Q hq hs0 hsr hm hd hQ=> ?_⟩
     refine c1 C a w s0 ro n _ hq hs0 hsr hm hd fun C' a' w' g1 g2 g3 g4=> ?_
     have:=hQ C' a' w' g1 g2 g3 g4
     cases e with
     | goto l=> exact (hno _ _ h).elim
     | _=> exact this
/-! ### A range over a function -/
def y1f (rec:Rec) (st:St):Option Code→Option (AX×St)
 | none=> some (.normal,st)
 | some c=> rec c st
def y29 (P:Program) (n:Nat) (Q:Exit→Act→World→Prop) (a:Act) (w:World):Option Code→Prop
 | none=> Q .normal a w
 | some c=> c.wpIn (fen none) n P Q a w
theorem zjt {cf:Cfg} {rec:Rec} (hrec:z4u P rec) {g:Operand} {ps:Array Tmp} {asg body:Code} {st st':St} {e:AX} (h:zn0 P cf rec g ps asg body st=some (e,st')):z23 P (.rangeFunc g ps asg body) st e st':=by
 unfold zn0 at h
 split at h
 · cases h
 · rename_i hq0
   simp only at h
   split at h
   · rename_i f cap hg
     split at h
     · rename_i v2 h2 he
       split at h
       · rename_i s p T n qs a2 b2 hlo
         split at h
         · cases h
         · rename_i hbusy
           obtain ⟨hnx,hfn,hE⟩:=z9f hrec he
           -- behind the statement
           have key:∃stE:St,stE={st with H:=h2.put st.H.nx (.loop .exhausted p T n qs a2 b2)}∧y1f rec stE p=some (e,st'):=⟨_,rfl,by cases p <;> exact h⟩
           obtain ⟨stE,hE1,hE2⟩:=key
           have hjump:st'.q=st.q∧st.H.nx≤st'.H.nx∧∀(C:Ctx) (a:Act) (w:World) (s0:Nat) (n:Nat) (Q:Exit→Act→World→Prop),s0≤w.heap.size→SRel C stE a w→z0o C w s0 a.defers→zck C w st' s0 none (Q (z2n e))→
            y29 P n Q a w p:=by
            have hq1:stE.q=st.q:=by rw [hE1]
            have hn1:st.H.nx≤stE.H.nx:=by
             rw [hE1];simp at hnx⊢;omega
            cases p with
            | none=>
              simp only [y1f,Option.some.injEq,Prod.mk.injEq] at hE2;obtain ⟨rfl,rfl⟩:=hE2
              exact ⟨hq1,hn1,fun C a w s0 n Q hs0 hsr hm hQ=> hQ C a w (Step.refl C w) hsr hm (fun h=> by cases h)⟩
            | some c=>
              obtain ⟨a3,b3,c3⟩:=hrec _ _ _ _ hE2
              refine ⟨a3.trans hq1,Nat.le_trans hn1 b3,fun C a w s0 n Q hs0 hsr hm hQ=> ?_⟩
              exact c3 C a w s0 none n Q (by rw [hq1];simpa using hq0) hs0 hsr hm (fun h=> by cases h) hQ
           obtain ⟨j1,j2,j3⟩:=hjump
           refine ⟨j1,j2,fun C a w s0 ro n' Q hq hs0 hsr hm hd hQ=> ?_⟩
           have hro:ro=none:=by
            cases ro with
            | none=> rfl
            | some l=> rw [hq] at hq0;simp at hq0
           subst hro
           refine wpIn_rangeFunc fun fn _=> ?_
           have hvg:x3 C w (ev st.T g) (a.eval g):=z07 fun t _=> hsr.tm t
           rw [hg] at hvg
           simp only [x3] at hvg
           obtain ⟨caps,hvg,hcaps⟩:=hvg
           -- the two blocks
           have hrun:=run_enterLoop_outer (P:=P) (w:=w) fn a.tmps ps asg body
           have hS0:=zlb hsr.sim (.deferred (some []))
           have st0:=zd1 hsr.sim (.deferred (some []))
           have hnone:C.φ st.H.nx=none:=hsr.new _ (Nat.le_refl _)
           have hob:∀C' w',z2z C' w' st.T a.tmps→w'.heap[w.heap.size+1]? =some (Obj.loop {state:=.ready,pending:=none,fn,tmps:=a.tmps,params:=ps,assign:=asg,body,defers:=w.heap.size})→
            z6k C' w' (w.heap.size+1) (.loop .ready none st.T st.n ps.toList asg body):=fun C' w' hT hw'=> ⟨_,hw',rfl,rfl,rfl,rfl,rfl,hsr.n,hT⟩
           have hsz:(z3t w (.deferred (some []))).heap.size=w.heap.size+1:=z5r _ _
           have st1:=zb0 hS0 hnone (Obj.loop {state:=.ready,pending:=none,fn,tmps:=a.tmps,params:=ps,assign:=asg,body,defers:=w.heap.size})
           have hS1:=znc hS0 hnone (ob:=Obj.loop {state:=.ready,pending:=none,fn,tmps:=a.tmps,params:=ps,assign:=asg,body,defers:=w.heap.size}) (o:=.loop .ready none st.T st.n ps.toList asg body) rfl (by
            rw [hsz]
            exact hob _ _ ((hsr.tm.step st0).step (by rw [hsz] at st1;exact st1)) (by have:=zba (z3t w (.deferred (some []))) (Obj.loop {state:=.ready,pending:=none,fn,tmps:=a.tmps,params:=ps,assign:=asg,body,defers:=w.heap.size});rw [hsz] at this;exact this))
           rw [hsz] at st1 hS1
           generalize hw1:z3t (z3t w (.deferred (some []))) (Obj.loop {state:=.ready,pending:=none,fn,tmps:=a.tmps,params:=ps,assign:=asg,body,defers:=w.heap.size})=w1 at st1 hS1
           have hst01:Step C w (C.with st.H.nx (w.heap.size+1)) w1:=st0.trans st1
           have hm1:z0o (C.with st.H.nx (w.heap.size+1)) w1 s0 ([({target:=.collected w.heap.size,args:=#[]}:Deferred)]++a.defers):=by
            obtain ⟨rs,e1,e2,e3⟩:=hm.step hst01
            have hold:=hm
            obtain ⟨rs',e1',e2',e3'⟩:=hold
            refine ⟨w.heap.size::rs',by rw [e1'];rfl,List.nodup_cons.2 ⟨fun hr=> ?_,e2'⟩,fun r hr=> ?_⟩
            · have:=z0i w (e3' _ hr).2.1;omega
            · rcases List.mem_cons.1 hr with rfl | hr
              · refine ⟨hs0,?_,fun i e=> ?_,fun e=> ?_⟩
                · rw [←hw1,z52 _ _ _ (by rw [hsz];omega)];exact zba _ _
                · simp only [Ctx.with] at e
                  split at e
                  · injection e with e;omega
                  · have:=hsr.sim.φlt i _ e;omega
                · have:=hsr.sim.immlt _ e;omega
              · have hr':r∈rs:=by
                 have:rs.map (fun r=> ({target:=.collected r,args:=#[]}:Deferred))=rs'.map (fun r=> ({target:=.collected r,args:=#[]}:Deferred)):=by rw [←e1,←e1']
                 have hinj:∀(l l':List Nat),l.map (fun r=> ({target:=.collected r,args:=#[]}:Deferred))=l'.map (fun r=> ({target:=.collected r,args:=#[]}:Deferred))→l=l':=by
                  intro l
                  induction l with
                  | nil=> intro l' h;cases l' with | nil=> rfl | cons _ _=> cases h
                  | cons x l ih=>
                    intro l' h
                    cases l' with
                    | nil=> cases h
                    | cons y l'=>
                      simp only [List.map_cons,List.cons.injEq] at h
                      obtain ⟨h1,h2⟩:=h
                      injection h1 with h1 _
                      injection h1 with h1
                      rw [h1,ih l' h2]
                 rw [hinj _ _ this];exact hr
                exact e3 r hr'
           refine ⟨w.heap.size+1,[{target:=.collected w.heap.size,args:=#[]}],w1,{target:=.fn (.func f) caps.toArray,args:=#[]++#[.func (.yield (w.heap.size+1)) #[] #[]]},w1,f,(#[]++#[.func (.yield (w.heap.size+1)) #[] #[]])++caps.toArray,w1,?_,?_,fun _ _=> trivial,?_,z6t none n',z6b ?_⟩
           · rw [←hw1];exact hrun
           · simp only [resolve,hvg,Deferred.ofValue]
             simp [Act.eval]
           · simp only [invoke]
             exact zdd hfn
           · have hl1:LRel (C.with st.H.nx (w.heap.size+1)) w1 false (.yl st.H.nx::cap) (.func (.yield (w.heap.size+1)) #[] #[]::caps):=LRel.cons' (by simp only [x3];exact ⟨_,Ctx.with_at C _ _,rfl⟩) (hcaps.step hst01)
             have hcall:=hE (C.with st.H.nx (w.heap.size+1)) w1 _ (n' - 1) (rangePost (fen none) n' P (w.heap.size+1) Q {a with defers:=[({target:=.collected w.heap.size,args:=#[]}:Deferred)]++a.defers})
              (hS1.congr fun b=> by rw [AH.get_new];unfold z1i;by_cases e:b=st.H.nx;{subst e;simp [z6e]};{rw [if_neg e,if_neg (Ne.symm e)]}) (fun b hb=> by
                simp only [AH.nx_new] at hb
                simp only [Ctx.with];rw [if_neg (by omega)];exact hsr.new b (by omega)) hl1 ?_
             · rwa [show ((Value.func (.yield (w.heap.size+1)) #[] #[])::caps).toArray=(#[]++#[.func (.yield (w.heap.size+1)) #[] #[]])++caps.toArray from by apply Array.ext';simp] at hcall
             · intro C2 w2 x hst2 hS2 hnew2 hv2
               have hφ2:=hst2.φ _ _ (Ctx.with_at C st.H.nx (w.heap.size+1))
               obtain ⟨r2,i1,i2,i3,i4,i5,i6,i7,i8⟩:=zgb hS2 hlo hφ2
               obtain ⟨u1,u2⟩:=zht hS2 hlo hφ2 i1 .exhausted p i4 i5 i6 i7 i8
               have hend:=run_endLoop (P:=P) i1 (by rw [i2];exact hbusy)
               have hpend:({r2 with state:=.exhausted}:Loop)={r2 with state:=.exhausted,pending:=p}:=by rw [←i3]
               rw [hpend,i3] at hend
               refine ⟨p,_,hend,?_⟩
               have hall:=(hst01.trans hst2).trans u1
               have:=j3 C2 {a with defers:=[({target:=.collected w.heap.size,args:=#[]}:Deferred)]++a.defers} _ s0 n' Q (Nat.le_trans hs0 hall.size) (by
                rw [hE1]
                exact ⟨hsr.tm.step hall,hsr.n,u2,fun b hb=> hnew2 b (by simpa using hb)⟩) (hm1.step (hst2.trans u1)) (hQ.trans hall)
               cases p with
               | none=> exact this
               | some c=> exact this
       · cases h
     · cases h
   · cases h
/-! ### All code -/
theorem zfp (hm:P.follows .mixedOrders=true) {cf:Cfg} (hcl:z4f P cf.clone):∀k,z4u P (z30 P cf k)
 | 0=> fun c st e st' h=> by cases h
 | k+1=> by
   have ih:=zfp hm hcl k
   intro c st e st' h
   cases c with
   | skip=> simp only [z30,Option.some.injEq,Prod.mk.injEq] at h;obtain ⟨rfl,rfl⟩:=h;exact z2q fun F n Q a w hF hQ=> wpIn_skip hQ
   | label l=> simp only [z30,Option.some.injEq,Prod.mk.injEq] at h;obtain ⟨rfl,rfl⟩:=h;exact z2q fun F n Q a w hF hQ=> wpIn_label hQ
   | ret=> simp only [z30,Option.some.injEq,Prod.mk.injEq] at h;obtain ⟨rfl,rfl⟩:=h;exact z2q fun F n Q a w hF hQ=> wpIn_ret hQ
   | exit id=> simp only [z30,Option.some.injEq,Prod.mk.injEq] at h;obtain ⟨rfl,rfl⟩:=h;exact z2q fun F n Q a w hF hQ=> wpIn_exit hQ
   | goto l=> simp only [z30,Option.some.injEq,Prod.mk.injEq] at h;obtain ⟨rfl,rfl⟩:=h;exact z2q fun F n Q a w hF hQ=> wpIn_goto hQ
   | seq x y=>
     simp only [z30] at h
     split at h
     · rename_i st1 h1;exact zl2 (ih _ _ _ _ h1) (ih _ _ _ _ h)
     · rename_i hno;exact zhf (fun e'=> by subst e';exact hno _ h) (ih _ _ _ _ h)
   | cond c x y=>
     simp only [z30] at h
     split at h
     · rename_i t ht;exact zgv ht (ih _ _ _ _ h)
     · cases h
   | block id c=>
     simp only [z30] at h
     cases hq:z30 P cf k c st with
     | none=> rw [hq] at h;cases h
     | some q=>
       obtain ⟨e1,st1⟩:=q
       rw [hq] at h
       simp only [Option.map_some,Option.some.injEq,Prod.mk.injEq] at h;obtain ⟨rfl,rfl⟩:=h
       exact zfs (ih _ _ _ _ hq)
   | loop c=>
     simp only [z30] at h
     obtain ⟨a1,b1,c1⟩:=zkx ih h
     exact ⟨a1,b1,fun C a w s0 ro n Q hq hs0 hsr hm' hd hQ=> wpIn_loop_rounds k (c1 C a w s0 ro n Q hq hs0 hsr hm' hd hQ)⟩
   | scope c=>
     simp only [z30] at h
     obtain ⟨a1,b1,c1⟩:=zix ih h
     exact ⟨a1,b1,fun C a w s0 ro n Q hq hs0 hsr hm' hd hQ=> zhe k (c1 C a w s0 ro n Q hq hs0 hsr hm' hd hQ)⟩
   | region id ops draw=> simp only [z30] at h;exact zwn hm ih hcl h
   | rangeFunc g ps asg body=> simp only [z30] at h;exact zjt ih h
   | refuse x=> simp only [z30] at h;cases h
end
end Go.Proofs.Ytimcbhhebnikiaa.Ab
