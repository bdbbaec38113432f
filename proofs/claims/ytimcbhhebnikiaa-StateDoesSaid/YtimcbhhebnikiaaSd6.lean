/- The law 'StateDoes': it returns true, and nothing that was there changes. No condition. (Part 6 of 12.) -/
import Derived.Test.YtimcbhhebnikiaaSd5
import Derived.Lib.SliceRun
import Derived.Below
import Derived.KernelRfl
namespace Go.Proofs.Ytimcbhhebnikiaa.Ab
open Go
set_option linter.unusedVariables false
set_option linter.unusedSimpArgs false
def zgg (P:Program) (t z wd:Nat):Bool:=
 match u9 P t with
 | some ti=> match ti.k with
   | .slice e=> match u9 P e with
     | some ei=> ei.size==z && ei.zero.length==z && ei.bytes==wd
     | none=> false
   | _=> false
 | none=> false
theorem zdp {P:Program} {t z wd:Nat} (h:zgg P t z wd=true):∃e ti ei,u9 P t=some ti∧ti.k=.slice e∧u9 P e=some ei∧ei.size=z∧ei.zero.length=z∧ei.bytes=wd:=by
 unfold zgg at h
 split at h
 · rename_i ti ht
   split at h
   · rename_i e hk
     split at h
     · rename_i ei he
       simp only [Bool.and_eq_true,beq_iff_eq] at h
       exact ⟨e,ti,ei,ht,hk,he,h.1.1,h.1.2,h.2⟩
     · cases h
   · cases h
 · cases h
theorem y0k {C:Ctx} {w:World} {h:AH} {z n:Nat} {x:AV} {cs:List AV} {rd:List Nat} {v:Value} (hc:z0a h z x=some (n,cs,rd)) (hv:x3 C w x v):∃a m c,v=.slice a m c∧(a=none→n=0∧cs=[]):=by
 cases x <;> simp only [z0a] at hc <;> first | (cases hc;done) | skip
 · simp only [x3] at hv
   obtain ⟨a,rfl⟩:=hv
   simp only [Option.some.injEq,Prod.mk.injEq] at hc;obtain ⟨rfl,rfl,rfl⟩:=hc
   exact ⟨a,0,0,rfl,fun _=> ⟨rfl,rfl⟩⟩
 · rename_i n' cs'
   simp only [x3] at hv
   obtain ⟨a,c,rfl,hle,hv⟩:=hv
   split at hc
   · rename_i hl
     simp only [Option.some.injEq,Prod.mk.injEq] at hc;obtain ⟨rfl,rfl,rfl⟩:=hc
     refine ⟨a,_,c,rfl,fun ha=> ?_⟩
     rcases hv with hv | ⟨ad,vs,e,_⟩
     · subst hv;simp at hl;exact ⟨rfl,hl⟩
     · rw [e] at ha;cases ha
   · cases hc
 · rename_i b z' off n'
   simp only [x3] at hv
   obtain ⟨a,c,rfl,hle,hv⟩:=hv
   split at hc
   · rename_i hz
     split at hc
     · split at hc
       · rename_i hl
         simp only [Option.some.injEq,Prod.mk.injEq] at hc;obtain ⟨rfl,rfl,rfl⟩:=hc
         refine ⟨a,_,c,rfl,fun ha=> ?_⟩
         rcases hv with hv | ⟨rb,_,e,_⟩
         · have:n'=0:=by omega
           subst this;simp
         · rw [e] at ha;cases ha
       · cases hc
     · cases hc
   · cases hc
def zmj (P : Program) (f : FuncId) (z wd : Nat) : Prop := (∃ fn, P.funcs[f]? = some fn ∧ (fn.name == "runtime.NumGoroutine") = false ∧ fn.body.isNone = false) ∧ (wd = 5000 → DelC P f z) ∧
    ∀(C:Ctx) (K:Nat→Option AObj) (h:AH) (w:World) (x:AV) (n:Nat) (cs:List AV) (rd:List Nat) (v:Value) (m:Nat) (R:Ending→World→Prop),Sim C K w→(∀b∈rd,K b=h.get b)→z0a h z x=some (n,cs,rd)→
     n≤4294967296→wd≤4096→0 < z→C.φ h.nx=none→x3 C w x v→
     (∀C' w' y,x3 C' w' (.rf h.nx z 0 n) y→Step C w C' w'→Sim C' (z1i K h.nx (some (.cells cs))) w'→(∀b,C.φ b=none→b≠h.nx→C'.φ b=none)→R (.returned y) w')→CallsIn Fence.wide m P f #[v] w R
theorem zo5 (P:Program):z4f P []:=fun f z wd h=> by cases h
theorem z6q {P:Program} {f z wd:Nat} {l:List (FuncId×Nat×Nat)} (h:zmj P f z wd) (hl:z4f P l):z4f P ((f,z,wd)::l):=by
 intro g z' wd' e
 simp only [z6o,zb3] at e
 by_cases hg:f=g
 · subst hg
   simp only [decide_true,cond_true,Option.some.injEq,Prod.mk.injEq] at e
   obtain ⟨rfl,rfl⟩:=e
   exact h
 · simp only [hg,decide_false,cond_false] at e
   exact hl g z' wd' e
theorem z6w {P:Program} {m:Nat} {ops:Array Oper} {Q:Exit→Act→World→Prop} {i:Nat} {o:Oper} (ho:ops[i]? =some o) (hg:o.guard=none) {next:Act→World→Prop} {a:Act} {w:World}
 (h:o.uponIn Fence.wide m P a next Q ((execOp a.eval o).run P w)) (hnd:∀c,o.op≠.defer c:=by intro c h;cases h):wpOpIn Fence.wide m P ops Q i next a w:=by
 unfold wpOpIn
 rw [ho]
 have:Region.wanted o (yielded ops a.tmps)=true:=by unfold Region.wanted;rw [hg]
 simp only [this,if_true]
 exact ⟨fun _ _=> trivial,by rw [Oper.semAt_eq _ _ _ hnd];exact h⟩
theorem zcl {P:Program} {m:Nat} {C:Ctx} {K:Nat→Option AObj} {w:World} {n:Nat} {r:OR} {o:Oper} {a:Act} {next:Act→World→Prop} {Q:Exit→Act→World→Prop} (g:zby P C K w n r (execOp a.eval o)) (hnd:∀c,o.op≠.defer c)
 (h:∀v C' w',x3 C' w' r.v v→Step C w C' w'→Sim C' (fun b=> if b∈r.wr then r.h.get b else K b) w'→(∀b,C.φ b=none→(b≠n∨r.h.nx=n)→C'.φ b=none)→next (a.put o.dst v) w'):
 o.uponIn Fence.wide m P a next Q ((execOp a.eval o).run P w):=by
 obtain ⟨v,C',w',hrun,h1,h2,h3,h4⟩:=g
 have hgo:=h v C' w' h1 h2 h3 h4
 rcases hrun with hrun | ⟨hrun,rfl⟩
 · rw [hrun];exact hgo
 · rw [hrun];exact hgo
theorem zj1 {P:Program} {f t z wd:Nat} {fn:Func} {i0 i1 i2 i3:Nat} {y0 y1 y2 y3 y4 y5 y6 y7:TypeId} {p0 p1 p2 p3 p4 p5 p6 p7:String} {b0 b1 b2 b3 b4 b5 b6 b7:Array Edge}
 (hf:P.funcs[f]? =some fn) (hb:fn.body=some (.seq (.region i0 #[⟨some 2,.assign (.const (.slice none 0 0)),y0,p0,b0,none⟩] false) (.seq (.seq (.region i1 #[⟨some 3,.move (.tmp 0),y1,p1,b1,none⟩,⟨some 4,.binOp .eql t (.tmp 3) (.const (.slice none 0 0)) t,y2,p2,b2,none⟩] false) (.cond (.tmp 4) (.seq (.region i2 #[⟨some 2,.assign (.const (.slice none 0 0)),y3,p3,b3,none⟩] false) .ret) .skip)) (.seq (.region i3 #[⟨some 5,.buildSlice t 0 #[],y4,p4,b4,none⟩,⟨some 6,.move (.tmp 0),y5,p5,b5,none⟩,⟨some 7,.call ⟨.builtin .append,#[.tmp 5,.tmp 6],#[t,t]⟩,y6,p6,b6,none⟩,⟨some 2,.assign (.tmp 7),y7,p7,b7,none⟩] false) .ret))))
 (hr : fn.results = #[.tmp 2]) (hnt : fn.ntmps = 8) (hname : (fn.name == "runtime.NumGoroutine") = false) (ht : zgg P t z wd = true) (hwd0 : (wd == 5000) = false := by decide) : zmj P f z wd := by
 refine ⟨⟨fn,hf,hname,by rw [hb];rfl⟩,fun e=> by simp [e] at hwd0,fun C K h w x n cs rd v m R hS hK hsl hn hwd hz hφ hv hR=> ?_⟩
 obtain ⟨e,ti,ei,h1,h2,h3,h4,h5,h6⟩:=zdp ht
 obtain ⟨hT⟩:=u5 h1
 have hund:P.underlying t=some (.slice e):=by
  rw [hT.und]
  have:=hT.kind
  rw [h2] at this
  cases hd:hT.d <;> rw [hd] at this <;> simp [z2r] at this
  rw [this]
 obtain ⟨a,len,cap,rfl,hnil⟩:=y0k hsl hv
 refine callsIn_of_wp hf hb trivial ?_
 rw [hnt]
 have hg:∀w,(eqGuard .eql t (.tmp 3) (.const (.slice none 0 0)) (.slice a len cap) (.slice none 0 0)).run P w=.ok () w:=fun w=> by unfold eqGuard;rfl
 have heq:∀w,(binOp .eql t (.slice a len cap) (.slice none 0 0)).run P w=.ok (.bool a.isNone) w:=fun w=> Lib.run_eql_slice_nil w t e a len cap 0 0 hund
 have hlr:List.range 4=[0,1,2,3]:=by decide
 have hlr2:List.range 2=[0,1]:=by decide
 have hlr1:List.range 1=[0]:=by decide
 have hrep:(#[Value.slice a len cap]++Array.replicate (8 - #[Value.slice a len cap].size) undef)=#[.slice a len cap,undef,undef,undef,undef,undef,undef,undef]:=by rfl
 rw [hrep]
 refine wpIn_seq (wpIn_region ?_)
 simp only [List.size_toArray,List.length_cons,List.length_nil,Nat.zero_add,hlr1,wpOpsIn,List.getElem?_toArray,List.getElem?_cons_zero,Region.wanted,if_true,Oper.wpIn,Oper.about,Oper.semAt_none,execOp,Sem.run_pure,Oper.uponIn_value,Exit.then]
 refine ⟨fun _ h=> (by cases h),wpIn_seq (wpIn_seq (wpIn_region ?_))⟩
 simp only [List.size_toArray,List.length_cons,List.length_nil,Nat.zero_add,hlr2,wpOpsIn,List.getElem?_toArray,List.getElem?_cons_zero,List.getElem?_cons_succ,Region.wanted,if_true,Oper.wpIn,Oper.about,Oper.semAt_none,execOp,Sem.run_pure,Oper.uponIn_value,Exit.then]
 refine ⟨fun _ h=> (by cases h),fun _ h=> (by cases h),?_⟩
 have e1:((do let v:Value ←(do eqGuard .eql t (.tmp 3) (.const (.slice none 0 0)) (.slice a len cap) (.slice none 0 0);binOp .eql t (.slice a len cap) (.slice none 0 0));pure (Next.value v)):Sem Next).run P w=.ok (.value (.bool a.isNone)) w:=by
  simp only [Sem.run_bind,hg,heq,Result.andThen_ok,Sem.run_pure]
 refine (?_:Oper.uponIn _ _ _ _ _ _ _ (((do let v:Value ←(do eqGuard .eql t (.tmp 3) (.const (.slice none 0 0)) (.slice a len cap) (.slice none 0 0);binOp .eql t (.slice a len cap) (.slice none 0 0));pure (Next.value v)):Sem Next).run P w))
 rw [e1,Oper.uponIn_value]
 refine wpIn_cond (t:=a.isNone) rfl ?_
 cases ha:a.isNone with
 | true=>
   have ha':a=none:=by cases a <;> simp_all
   obtain ⟨rfl,rfl⟩:=hnil ha'
   rw [if_pos rfl]
   refine wpIn_seq (wpIn_region ?_)
   simp only [List.size_toArray,List.length_cons,List.length_nil,Nat.zero_add,hlr1,wpOpsIn,List.getElem?_toArray,List.getElem?_cons_zero,Region.wanted,if_true,Oper.wpIn,Oper.about,Oper.semAt_none,execOp,Sem.run_pure,Oper.uponIn_value,Exit.then]
   refine ⟨fun _ h=> (by cases h),wpIn_ret ?_⟩
   refine ⟨rfl,.slice none 0 0,?_,hR C w _ ?_ (Step.refl C w) (z85 hS hφ) fun b e _=> e⟩
   · simp [results,hr,Act.put]
     rfl
   · simp only [x3];exact ⟨none,0,rfl,Nat.le_refl _,.inl rfl⟩
 | false=>
   rw [if_neg (by simp)]
   refine wpIn_skip (wpIn_seq (wpIn_region ?_))
   simp only [List.size_toArray,List.length_cons,List.length_nil,Nat.zero_add,hlr]
   have r0:aOp P h [] (.buildSlice t 0 #[])=some ⟨.nl,h,[],[]⟩:=by
    simp [aOp,h1,h2,h3,h4,h5,hz,g9]
   have r2:aOp P h [(5,.nl),(6,x)] (.call ⟨.builtin .append,#[.tmp 5,.tmp 6],#[t,t]⟩)=some ⟨.rf h.nx ei.size 0 n,h.new (.cells cs),rd,[h.nx]⟩:=by
    have g5:ev [(5,.nl),(6,x)] (.tmp 5)=.nl:=rfl
    have g6:ev [(5,.nl),(6,x)] (.tmp 6)=x:=rfl
    simp only [aOp,List.map_cons,List.map_nil,g5,g6,z51,List.getElem?_toArray,List.getElem?_cons_zero,List.getElem?_cons_succ,z4z,h1,h2,h3,zee,h4,h5]
    rw [hsl]
    simp [hn,h6,hwd,hz]
   rw [wpOpsIn_cons]
   refine z6w (o:=⟨some 5,.buildSlice t 0 #[],y4,p4,b4,none⟩) rfl rfl (zcl (r:=⟨.nl,h,[],[]⟩) (zm2 (h:=h) (T:=[]) r0 hS (fun hne=> absurd rfl hne) (by simp) (fun y hy=> by simp [Op.operands] at hy)) (fun _ e=> by cases e) fun v5 C1 w1 k1 k2 k3 k4=> ?_)
   rw [wpOpsIn_cons]
   refine z6w (o:=⟨some 6,.move (.tmp 0),y5,p5,b5,none⟩) rfl rfl ?_
   simp only [execOp,Sem.run_pure,Oper.uponIn_value]
   rw [wpOpsIn_cons]
   refine z6w (o:=⟨some 7,.call ⟨.builtin .append,#[.tmp 5,.tmp 6],#[t,t]⟩,y6,p6,b6,none⟩) rfl rfl (zcl (r:=⟨.rf h.nx ei.size 0 n,h.new (.cells cs),rd,[h.nx]⟩) (zm2 (h:=h) (T:=[(5,.nl),(6,x)]) r2 (K:=K) (C:=C1) (k3.congr fun b=> by simp) (fun _=> k4 _ hφ (.inr rfl)) hK ?_) (fun _ e=> by cases e) fun v7 C2 w2 j1 j2 j3 j4=> ?_)
   · intro y hy
     simp only [Op.operands,Call.operands] at hy
     intro t' e
     have:y=.tmp 5∨y=.tmp 6:=by simpa using hy
     rcases this with rfl | rfl
     · injection e with e;subst e;exact k1
     · injection e with e;subst e;exact hv.step k2
   · rw [wpOpsIn_cons]
     refine z6w (o:=⟨some 2,.assign (.tmp 7),y7,p7,b7,none⟩) rfl rfl ?_
     simp only [execOp,Sem.run_pure,Oper.uponIn_value]
     simp only [wpOpsIn,Exit.then]
     refine wpIn_ret ⟨rfl,v7,?_,hR C2 w2 _ (h4▸j1) (k2.trans j2) (j3.congr fun b=> ?_) fun b e hb=> j4 b (k4 b e (.inr rfl)) (.inl hb)⟩
     · simp [results,hr,Act.put]
       rfl
     · simp only [List.mem_singleton,z1i,AH.get_new]
       by_cases e:b=h.nx
       · subst e;simp [z6e]
       · simp [e]
/-! ### A law's call -/
def C0 (w:World):Ctx:={φ:=fun _=> none,imm:=fun b=> b < w.heap.size}
theorem y3i (w:World):Sim (C0 w) AH.empty.get w where
 at_ b o e:=by rw [AH.get_empty] at e;cases e
 inj b b' o o' rb e:=by rw [AH.get_empty] at e;cases e
 φlt b rb e:=by cases e
 immlt b e:=e
end Go.Proofs.Ytimcbhhebnikiaa.Ab
namespace Go.Proofs.Ytimcbhhebnikiaa.Ab
open Go
set_option linter.unusedVariables false
set_option linter.unusedSimpArgs false
/-! ### From one world to a later one, blocks from a base on numbered anew -/
structure StepB (base:Nat) (C:Ctx) (w:World) (C':Ctx) (w':World):Prop where
 φ:∀b rb,b < base→C.φ b=some rb→C'.φ b=some rb
 φnew:∀b rb,C'.φ b=some rb→w.heap.size≤rb∨∃i,C.φ i=some rb
 imm:∀b,C.imm b→C'.imm b
 immnew:∀b,C'.imm b→C.imm b∨w.heap.size≤b∨∃i,C.φ i=some b
 size:w.heap.size≤w'.heap.size
 keep:∀b,b < w.heap.size→(∀i,C.φ i≠some b)→w'.heap[b]? =w.heap[b]?
 immkeep:∀b,C.imm b→w'.heap[b]? =w.heap[b]?
 sizes:∀(b:Nat) (c:Array Value) (T:TypeId) (f:Nat×Nat),w.heap[b]? =some (Obj.cells c T f)→∃c':Array Value,w'.heap[b]? =some (Obj.cells c' T f)∧c'.size=c.size
 env:z8t w'=z8t w
theorem Step.toB {base:Nat} {C C':Ctx} {w w':World} (h:Step C w C' w'):StepB base C w C' w':=
 ⟨fun b rb _ e=> h.φ b rb e,fun b rb e=> (h.φnew b rb e).elim (fun g=> .inr ⟨b,g⟩) id,h.imm,h.immnew,h.size,h.keep,h.immkeep,h.sizes,h.env⟩
theorem StepB.toStep {base:Nat} {C C':Ctx} {w w':World} (h:StepB base C w C' w') (hn:∀b,base≤b→C.φ b=none):Step C w C' w':=
 {φ:=fun b rb e=> by
   rcases Nat.lt_or_ge b base with g | g
   · exact h.φ b rb g e
   · rw [hn b g] at e;cases e
  φnew:=fun b rb e=> .inr (h.φnew b rb e)
  imm:=h.imm,immnew:=h.immnew,size:=h.size,keep:=h.keep,immkeep:=h.immkeep,sizes:=h.sizes,env:=h.env}
theorem StepB.trans {base:Nat} {C C' C'':Ctx} {w w' w'':World} (h:StepB base C w C' w') (g:StepB base C' w' C'' w''):StepB base C w C'' w'' where
 φ b rb hb e:=g.φ b rb hb (h.φ b rb hb e)
 φnew b rb e:=by
  rcases g.φnew b rb e with e | ⟨i,e⟩
  · exact .inl (Nat.le_trans h.size e)
  · exact h.φnew i rb e
 imm b e:=g.imm b (h.imm b e)
 immnew b e:=by
  rcases g.immnew b e with e | e | ⟨i,e⟩
  · exact h.immnew b e
  · exact .inr (.inl (Nat.le_trans h.size e))
  · exact .inr (h.φnew i b e)
 size:=Nat.le_trans h.size g.size
 keep b hb hn:=by
  rw [g.keep b (Nat.lt_of_lt_of_le hb h.size) ?_,h.keep b hb hn]
  intro i e
  rcases h.φnew i b e with e | ⟨j,e⟩
  · omega
  · exact hn j e
 immkeep b e:=by rw [g.immkeep b (h.imm b e),h.immkeep b e]
 sizes b c T f e:=by
  obtain ⟨c',e',s'⟩:=h.sizes b c T f e
  obtain ⟨c'',e'',s''⟩:=g.sizes b c' T f e'
  exact ⟨c'',e'',by omega⟩
 env:=g.env.trans h.env
theorem z0o.stepB {base:Nat} {C C':Ctx} {w w':World} {s0:Nat} {ds:List Deferred} (h:z0o C w s0 ds) (hs:StepB base C w C' w'):z0o C' w' s0 ds:=by
 obtain ⟨rs,e,hn,h⟩:=h
 refine ⟨rs,e,hn,fun r hr=> ?_⟩
 obtain ⟨h1,h2,h3,h4⟩:=h r hr
 have hlt:=z0i w h2
 refine ⟨h1,?_,fun i e=> ?_,fun e=> ?_⟩
 · rw [hs.keep r hlt h3];exact h2
 · rcases hs.φnew i r e with g | ⟨j,g⟩
   · omega
   · exact h3 j g
 · rcases hs.immnew r e with g | g | ⟨j,g⟩
   · exact h4 g
   · omega
   · exact h3 j g
/-! ### Facts -/
structure Good (P:Program) (cf:Cfg):Prop where
 mixed:P.follows .mixedOrders=true
 clones:z4f P cf.clone
noncomputable def one (c:Code) (st:St) (x:AX×St):Rec:=fun c' st'=> open Classical in if c'=c∧st'=st then some x else none
theorem y2s (c:Code) (st:St) (x:AX×St):one c st x c st=some x:=by unfold one;rw [if_pos ⟨rfl,rfl⟩]
theorem zug {P:Program} {c:Code} {st:St} {x:AX×St} (h:z23 P c st x.1 x.2):z4u P (one c st x):=by
 intro c' st' e st'' g
 unfold one at g
 split at g
 · rename_i hc
   injection g with g
   subst g
   obtain ⟨rfl,rfl⟩:=hc
   exact h
 · cases g
noncomputable def two (c:Code) (st:St) (x:AX×St) (c2:Code) (st2:St) (x2:AX×St):Rec:=fun c' st'=> open Classical in if c'=c∧st'=st then some x else if c'=c2∧st'=st2 then some x2 else none
theorem zui {P:Program} {c:Code} {st:St} {x:AX×St} {c2:Code} {st2:St} {x2:AX×St} (h:z23 P c st x.1 x.2) (h2:z23 P c2 st2 x2.1 x2.2):z4u P (two c st x c2 st2 x2):=by
 intro c' st' e st'' g
 unfold two at g
 split at g
 · rename_i hc
   injection g with g
   subst g
   obtain ⟨rfl,rfl⟩:=hc
   exact h
 · split at g
   · rename_i hc
     injection g with g
     subst g
     obtain ⟨rfl,rfl⟩:=hc
     exact h2
   · cases g
section
variable (P : Program) (cf : Cfg)
def Ev (c:Code) (st:St) (x:AX×St):Prop:=Good P cf→z23 P c st x.1 x.2
def z4g (f:FuncId) (args:List AV) (h:AH) (x:AV×AH):Prop:=Good P cf→∃rec,z4u P rec∧z8a P rec f args h=some x
def zei (b:Nat) (args:List AV) (h:AH) (x:AV×AH):Prop:=Good P cf→∃rec,z4u P rec∧zi2 rec b args h=some x
def z2f (f:AV) (args:List AV) (h:AH) (x:CR):Prop:=Good P cf→∃rec,z4u P rec∧ze8 P cf rec f args h=some x
def zdo (op:Op) (st:St) (x:CR):Prop:=Good P cf→∃rec,z4u P rec∧doA P cf rec op st=some x
def z6f (ops:Array Oper) (o:Oper) (st:St) (x:St×Ft):Prop:=Good P cf→∃rec,z4u P rec∧zjf P cf rec ops o st=some x
def z7h (ops:Array Oper):List Nat→St→St×List Ft→Prop
 | [],st,x=> x=(st,[])
 | i::l,st,x=> ∃o st1 ft st2 fts,ops[i]? =some o∧z6f P cf ops o st (st1,ft)∧z7h ops l st1 (st2,fts)∧x=(st2,ft::fts)
def zze (base:Nat) (C:Ctx) (w:World) (st':St) (s0:Nat) (ro:Option Nat) (Q:Act→World→Prop):Prop:=
 ∀C' a' w',StepB base C w C' w'→SRel C' st' a' w'→z0o C' w' s0 a'.defers→(ro.isSome=true→a'.defers=[])→Q a' w'
def y07 (base k:Nat) (c:Code) (st:St) (x:AX×St):Prop:=
 ∀(C:Ctx) (a:Act) (w:World) (s0:Nat) (ro:Option Nat) (n:Nat) (Q:Exit→Act→World→Prop),st.q=ro.isSome→s0≤w.heap.size→SRel C st a w→z0o C w s0 a.defers→(ro.isSome=true→a.defers=[])→
  zze base C w x.2 s0 ro (Q (z2n x.1))→Code.roundsIn (fen ro) n P c Q k a w
def z3e (base:Nat) (c:Code) (st:St) (x:AX×St):Prop:=Good P cf→x.2.q=st.q∧base≤x.2.H.nx∧∃k,y07 P base k c st x
def z7f (base:Nat) (st st':St):Prop:=st'.q=st.q∧base≤st'.H.nx∧∀(C:Ctx) (a:Act) (w:World),SRel C st a w→∃C',StepB base C w C' w∧SRel C' st' a w
def zsi (c:Code) (st:St) (x:AX×St):Prop:=∃st1,z7f st.H.nx st st1∧z3e P cf st.H.nx c st1 x
def z3c (body c:Code) (st:St) (x:AX×St):Prop:=Good P cf→x.2.q=st.q∧st.H.nx≤x.2.H.nx∧∃k,∀(C:Ctx) (a:Act) (w:World) (s0:Nat) (ro:Option Nat) (n:Nat) (Q:Exit→Act→World→Prop),st.q=ro.isSome→s0≤w.heap.size→SRel C st a w→z0o C w s0 a.defers→(ro.isSome=true→a.defers=[])→
    zck C w x.2 s0 ro (Q (z2n x.1))→zbn (fen ro) n P body Q k c a w
end
theorem z7f.refl {base:Nat} {st:St} (h:base≤st.H.nx):z7f base st st:=⟨rfl,h,fun C a w hs=> ⟨C,(Step.refl C w).toB,hs⟩⟩
theorem z7f.trans {base:Nat} {st st1 st2:St} (h:z7f base st st1) (g:z7f base st1 st2):z7f base st st2:=
 ⟨g.1.trans h.1,g.2.1,fun C a w hs=> by
   obtain ⟨C1,s1,r1⟩:=h.2.2 C a w hs
   obtain ⟨C2,s2,r2⟩:=g.2.2 C1 a w r1
   exact ⟨C2,s1.trans s2,r2⟩⟩
section
variable {P : Program} {cf : Cfg}
theorem Ev.here {c:Code} {st:St} {e:AX} (h:∀(F:Fence) (n:Nat) (Q:Exit→Act→World→Prop) (a:Act) (w:World),F.fn=(fun _=> True)→Q (z2n e) a w→c.wpIn F n P Q a w):Ev P cf c st (e,st):=fun _=> z2q h
theorem Ev.seq {a b:Code} {st st1:St} {x:AX×St} (h1:Ev P cf a st (.normal,st1)) (h2:Ev P cf b st1 x):Ev P cf (.seq a b) st x:=fun g=> zl2 (h1 g) (h2 g)
theorem Ev.seq' {a b:Code} {st st1:St} {e:AX} (he:e≠.normal) (h1:Ev P cf a st (e,st1)):Ev P cf (.seq a b) st (e,st1):=fun g=> zhf he (h1 g)
theorem Ev.cond {c:Operand} {x y:Code} {st:St} {t:Bool} {z:AX×St} (hc:ev st.T c=.b t) (h:Ev P cf (bif t then x else y) st z):Ev P cf (.cond c x y) st z:=fun g=> zgv hc (h g)
theorem Ev.block {id:Nat} {c:Code} {st st1:St} {e:AX} (h:Ev P cf c st (e,st1)):Ev P cf (.block id c) st (zjp id e,st1):=fun g=> zfs (h g)
theorem z3e.stop {base:Nat} {c:Code} {st st1:St} {e:AX} (he:e≠.normal) (hb:base≤st.H.nx) (h1:Ev P cf c st (e,st1)):z3e P cf base c st (e,st1):=by
 intro g
 obtain ⟨a1,b1,c1⟩:=h1 g
 refine ⟨a1,Nat.le_trans hb b1,1,fun C a w s0 ro n Q hq hs0 hsr hm hd hQ=> ?_⟩
 rw [roundsIn_succ]
 exact c1 C a w s0 ro n _ hq hs0 hsr hm hd fun C' a' w' g1 g2 g3 g4=> zeq he (hQ C' a' w' g1.toB g2 g3 g4)
theorem z3e.step {base:Nat} {c:Code} {st st1 st2:St} {x:AX×St} (h1:Ev P cf c st (.normal,st1)) (hab:z7f base st1 st2) (h2:z3e P cf base c st2 x):z3e P cf base c st x:=by
 intro g
 obtain ⟨a1,b1,c1⟩:=h1 g
 obtain ⟨a2,b2,k,c2⟩:=h2 g
 refine ⟨a2.trans (hab.1.trans a1),b2,k+1,fun C a w s0 ro n Q hq hs0 hsr hm hd hQ=> ?_⟩
 rw [roundsIn_succ]
 refine c1 C a w s0 ro n _ hq hs0 hsr hm hd fun C' a' w' g1 g2 g3 g4=> ?_
 obtain ⟨C2,s2,r2⟩:=hab.2.2 C' a' w' g2
 have h12:=(g1.toB (base:=base)).trans s2
 exact c2 C2 a' w' s0 ro n Q ((hab.1.trans a1).trans hq) (Nat.le_trans hs0 h12.size) r2 (g3.stepB s2) g4 fun C3 a3 w3 k1 k2 k3 k4=> hQ C3 a3 w3 (h12.trans k1) k2 k3 k4
theorem Ev.loop {c:Code} {st:St} {x:AX×St} (h:zsi P cf c st x):Ev P cf (.loop c) st x:=by
 intro g
 obtain ⟨st1,hab,h⟩:=h
 obtain ⟨a1,b1,k,c1⟩:=h g
 refine ⟨a1.trans hab.1,b1,fun C a w s0 ro n Q hq hs0 hsr hm hd hQ=> wpIn_loop_rounds k ?_⟩
 obtain ⟨C1,s1,r1⟩:=hab.2.2 C a w hsr
 exact c1 C1 a w s0 ro n Q (hab.1.trans hq) hs0 r1 (hm.stepB s1) hd fun C2 a2 w2 k1 k2 k3 k4=> hQ C2 a2 w2 ((s1.trans k1).toStep hsr.new) k2 k3 k4
theorem z3c.goto {body c rest:Code} {st st1:St} {l:Nat} {x:AX×St} (h1:Ev P cf c st (.goto l,st1)) (hf:findLabel body l=some rest) (h2:z3c P cf body rest st1 x):z3c P cf body c st x:=by
 intro g
 obtain ⟨a1,b1,c1⟩:=h1 g
 obtain ⟨a2,b2,k,c2⟩:=h2 g
 refine ⟨a2.trans a1,Nat.le_trans b1 b2,k+1,fun C a w s0 ro n Q hq hs0 hsr hm hd hQ=> ?_⟩
 refine c1 C a w s0 ro n _ hq hs0 hsr hm hd fun C' a' w' g1 g2 g3 g4=> ?_
 simp only [z2n,zau,hf]
 exact c2 C' a' w' s0 ro n Q (a1.trans hq) (Nat.le_trans hs0 g1.size) g2 g3 g4 (hQ.trans g1)
theorem z3c.out {body c:Code} {st st1:St} {e:AX} (he:∀l,e=.goto l→findLabel body l=none) (h1:Ev P cf c st (e,st1)):z3c P cf body c st (e,st1):=by
 intro g
 obtain ⟨a1,b1,c1⟩:=h1 g
 refine ⟨a1,b1,1,fun C a w s0 ro n Q hq hs0 hsr hm hd hQ=> ?_⟩
 refine c1 C a w s0 ro n _ hq hs0 hsr hm hd fun C' a' w' g1 g2 g3 g4=> ?_
 have:=hQ C' a' w' g1 g2 g3 g4
 cases e with
 | goto l=> simp only [z2n,zau,he l rfl];exact this
 | _=> exact this
theorem Ev.scope {c:Code} {st:St} {x:AX×St} (h:z3c P cf c c st x):Ev P cf (.scope c) st x:=by
 intro g
 obtain ⟨a1,b1,k,c1⟩:=h g
 exact ⟨a1,b1,fun C a w s0 ro n Q hq hs0 hsr hm hd hQ=> zhe k (c1 C a w s0 ro n Q hq hs0 hsr hm hd hQ)⟩
theorem z7h.nil {ops:Array Oper} {st:St}:z7h P cf ops [] st (st,[]):=rfl
theorem z7h.cons {ops:Array Oper} {i:Nat} {l:List Nat} {o:Oper} {st st1 st2:St} {ft:Ft} {fts:List Ft} (ho:ops[i]? =some o) (h1:z6f P cf ops o st (st1,ft)) (h2:z7h P cf ops l st1 (st2,fts)):z7h P cf ops (i::l) st (st2,ft::fts):=
 ⟨o,st1,ft,st2,fts,ho,h1,h2,rfl⟩
theorem z6f.ok {ops:Array Oper} {o:Oper} {st st1:St} {ft:Ft} (h:z6f P cf ops o st (st1,ft)) (g:Good P cf):OperOk P ops o st st1 ft:=by
 obtain ⟨rec,hrec,he⟩:=h g
 exact zf9 hrec g.clones he
theorem zu3 (g:Good P cf) {ops:Array Oper}:∀{l:List Nat} {st st':St} {fts:List Ft},z7h P cf ops l st (st',fts)→
 st'.q=st.q∧st'.n=st.n∧st.H.nx≤st'.H.nx∧∀(C:Ctx) (a:Act) (w:World) (s0:Nat) (ro:Option Nat) (n:Nat) (Q:Exit→Act→World→Prop),SRel C st a w→z0o C w s0 a.defers→(ro.isSome=true→a.defers=[])→
  zck C w st' s0 ro (Q .normal)→wpOpsIn (fen ro) n P ops Q l a w
 | [],st,st',fts,h=> by
   simp only [z7h,Prod.mk.injEq] at h;obtain ⟨rfl,rfl⟩:=h
   exact ⟨rfl,rfl,Nat.le_refl _,fun C a w s0 ro n Q hsr hm hd hQ=> hQ C a w (Step.refl C w) hsr hm hd⟩
 | i::l,st,st',fts,h=> by
   obtain ⟨o,st1,ft,st2,fts',ho,h1,h2,e⟩:=h
   simp only [Prod.mk.injEq] at e;obtain ⟨rfl,rfl⟩:=e
   have hok:=h1.ok g
   obtain ⟨e1,e1n,e2,e3⟩:=zu3 g h2
   refine ⟨e1.trans hok.q,e1n.trans hok.n,Nat.le_trans hok.frm.1 e2,fun C a w s0 ro n Q hsr hm hd hQ=> ?_⟩
   rw [wpOpsIn_cons]
   refine zd9 ho ?_
   obtain ⟨V,hV,hrun⟩:=hok.run
   refine hrun C st.H.get a w ro n Q _ hsr.sim (fun _ _=> rfl) (fun b _ hb=> hsr.new b hb) (fun t _=> hsr.tm t) fun v C' w' k1 k2 k3 k4=> ?_
   refine e3 C' _ w' s0 ro n Q ⟨?_,?_,k3.congr fun b=> (zow hok.frm b).symm,fun b hb=> k4 b (hsr.new b (Nat.le_trans hok.frm.1 hb)) (.inr hb)⟩ (by rw [z74];exact hm.step k2) (by rw [z74];exact hd) fun C'' a'' w'' g1 g2 g3 g4=> hQ C'' a'' w'' (k2.trans g1) g2 g3 g4
   · rw [hV];exact z2z.put (hsr.tm.step k2) (fun t e=> by rw [hsr.n];exact hok.dst t e) k1
   · rw [zj5,hsr.n,hok.n]
theorem zlj {ops:Array Oper}:∀{l:List Nat} {st st':St} {fts:List Ft},z7h P cf ops l st (st',fts)→
 ∃(s:Nat→St),s 0=st∧s l.length=st'∧fts.length=l.length∧∀k i,l[k]? =some i→∃o ft,ops[i]? =some o∧fts[k]? =some ft∧z6f P cf ops o (s k) (s (k+1),ft)
 | [],st,st',fts,h=> by
   simp only [z7h,Prod.mk.injEq] at h;obtain ⟨rfl,rfl⟩:=h
   exact ⟨fun _=> st',rfl,rfl,rfl,fun k i h=> by simp at h⟩
 | i::l,st,st',fts,h=> by
   obtain ⟨o,st1,ft,st2,fts',ho,h1,h2,e⟩:=h
   simp only [Prod.mk.injEq] at e;obtain ⟨rfl,rfl⟩:=e
   obtain ⟨s,e0,e1,e2,e3⟩:=zlj h2
   refine ⟨fun k=> match k with | 0=> st | k+1=> s k,rfl,e1,by simp [e2],fun k j hk=> ?_⟩
   cases k with
   | zero=>
     simp at hk;subst hk
     exact ⟨o,ft,ho,rfl,by simp only [e0];exact h1⟩
   | succ k=>
     obtain ⟨o',ft',g1,g2,g3⟩:=e3 k j (by simpa using hk)
     exact ⟨o',ft',g1,by simpa using g2,g3⟩
theorem Ev.region {id:Nat} {ops:Array Oper} {draw:Bool} {st st2:St} {fts:List Ft} (hops:z7h P cf ops (List.range ops.size) st (st2,fts)) (hd:draw=false∨(z9 ops=true∧w8 (Region.before ops) [] 0 fts=true)):Ev P cf (.region id ops draw) st (.normal,st2):=by
 intro g
 obtain ⟨e1,e1n,e2,e3⟩:=zu3 g hops
 refine ⟨e1,e2,fun C a w s0 ro n Q hq hs0 hsr hmk hd0 hQ=> ?_⟩
 cases draw with
 | false=> exact wpIn_region (e3 C a w s0 ro n Q hsr hmk hd0 hQ)
 | true=>
   obtain ⟨hord,hall⟩:=hd.resolve_left (by simp)
   obtain ⟨s,t0,t1,t2,t3⟩:=zlj hops
   simp only [List.length_range] at t1 t2
   have hft:∀k,k < ops.size→∃ft,fts[k]? =some ft:=fun k hk=> ⟨fts[k],by simp [t2,hk]⟩
   have T:Trace P ops s (fun k=> fts.getD k (some [],some [])):=by
    refine ⟨fun i o ho=> ?_,(z6i hord).1,fun i j x y hij hx hy=> ?_⟩
    · have hi:i < ops.size:=(Array.getElem?_eq_some_iff.1 ho).1
      obtain ⟨o',ft,g1,g2,g3⟩:=t3 i i (by simp [hi])
      rw [ho] at g1;injection g1 with g1;subst g1
      have:fts.getD i (some [],some [])=ft:=by rw [List.getD_eq_getElem?_getD,g2];rfl
      rw [this]
      exact g3.ok g
    · have hj:j < ops.size:=(Array.getElem?_eq_some_iff.1 hy).1
      rcases (z6i hord).2 i j x y hij hx hy with g | g
      · exact .inl g
      · obtain ⟨fi,hfi⟩:=hft i (by omega)
        obtain ⟨fj,hfj⟩:=hft j hj
        rcases zd7 (l:=fts) (pre:=[]) hall i j fi fj (by simpa using hij) (by simpa using hfi) hfj with k | k
        · exact .inl (by simpa [bef] using k)
        · refine .inr ⟨g,fun z=> ?_⟩
          have e1:fts.getD i (some [],some [])=fi:=by rw [List.getD_eq_getElem?_getD,hfi];rfl
          have e2:fts.getD j (some [],some [])=fj:=by rw [List.getD_eq_getElem?_getD,hfj];rfl
          rw [e1,e2]
          exact zls k z
   have hw:Step C w C {w with drawn:=w.drawn+1}:=Step.heap rfl rfl
   refine wpIn_region_any g.mixed (zqe (C0:=C) (a0:=a) (w0:={w with drawn:=w.drawn+1}) T (fun C' K' a' w' D=> ?_) ops.size (Array.replicate ops.size false) C st.H.get a {w with drawn:=w.drawn+1} (by simp) (by simp) (fun j k hk=> ?_) ?_)
   · -- all have run
     have hlt:∀j,j < ops.size→j < ops.size:=fun _ h=> h
     have hK:∀b,K' b=st2.H.get b:=fun b=> by
      rw [←t1]
      exact z5c (W:=fun j=> inF ((fun k=> fts.getD k (some [],some [])) j).2 b) (val:=fun j=> (s j).H.get b) (T.stepH b) (Nat.le_refl _) (D.heap b) (fun j hj _=> hj) (fun j hj _ hS=> by have hS':j < ops.size:=hS;omega)
     refine hQ C' a' w' (hw.trans D.step) ⟨fun t=> ?_,?_,D.sim.congr fun b=> (hK b).symm,fun b hb=> ?_⟩ (by rw [D.defers];exact hmk.step (hw.trans D.step)) (by rw [D.defers];exact hd0)
     · obtain ⟨X,hX,hv⟩:=D.tmp t
       have:X=st2.T.get t:=by
        rw [←t1]
        exact z5c (W:=Wt ops t) (val:=fun j=> (s j).T.get t) (T.stepT t) (Nat.le_refl _) hX (fun j hj _=> hj) (fun j hj _ hS=> by have hS':j < ops.size:=hS;omega)
       rw [←this];exact hv
     · rw [D.size,←t1,T.n _ (Nat.le_refl _)]
     · have hb:st2.H.nx≤b:=hb
       have h0:(s 0).H.nx≤b:=by
        have:=T.nx ops.size 0 (by omega)
        simp only [Nat.zero_add] at this
        rw [t1] at this
        exact Nat.le_trans this hb
       rcases D.dom b h0 with g | ⟨j,hj,_,hl⟩
       · exact g
       · exfalso
         have hj':j < ops.size:=hj
         have:=T.nx (ops.size - (j+1)) (j+1) (by omega)
         rw [show j+1+(ops.size - (j+1))=ops.size by omega,t1] at this
         omega
   · have:=zbh hk
     simp only [Array.size_replicate] at this
     rw [Array.getD_eq_getD_getElem?] at hk;simp [this] at hk
   · have hno:∀j,¬(Array.replicate ops.size false).getD j false=true:=by
      intro j hj
      have:=zbh hj
      simp only [Array.size_replicate] at this
      rw [Array.getD_eq_getD_getElem?] at hj;simp [this] at hj
     refine ⟨Step.refl _ _,Sim.heap (w:=w) rfl rfl hsr.sim,fun b=> .inr ⟨fun k hk=> absurd hk (hno k),by simp only [t0]⟩,fun t=> ⟨st.T.get t,.inr ⟨fun k hk=> absurd hk (hno k),by simp only [t0]⟩,(hsr.tm t).step hw⟩,fun b hb=> .inl (hsr.new b (by rw [t0] at hb;exact hb)),by rw [t0];exact hsr.n,rfl⟩
theorem z6f.skip {ops:Array Oper} {o:Oper} {st s:St} (hw:z5w ops st.T o=some false) (hp:zop st o.dst (.tu [])=some s):z6f P cf ops o st (s,(some [],some [])):=
 fun _=> ⟨fun _ _=> none,fun _ _ _ _ h=> (by cases h),by simp only [zjf,hw,hp]⟩
theorem z6f.run {ops:Array Oper} {o:Oper} {st s:St} {r:CR} (hw:z5w ops st.T o=some true) (h:zdo P cf o.op st r) (hp:zop {st with H:=r.h} o.dst r.v=some s):z6f P cf ops o st (s,(r.rd,r.wr)):=by
 intro g
 obtain ⟨k,hk,e⟩:=h g
 exact ⟨k,hk,by simp only [zjf,hw,e,hp]⟩
theorem zdo.call {c:Call} {f:Operand} {st:St} {r:CR} (hc:c.callee=.value f) (h:z2f P cf (ev st.T f) (c.args.toList.map (ev st.T)) st.H r):zdo P cf (.call c) st r:=by
 intro g
 obtain ⟨k,hk,e⟩:=h g
 exact ⟨k,hk,by simp only [doA,hc];exact e⟩
theorem zdo.op {op:Op} {st:St} {r:OR} (h:aOp P st.H st.T op=some r):zdo P cf op st (zjh r):=by
 refine fun _=> ⟨fun _ _=> none,fun _ _ _ _ h=> (by cases h),?_⟩
 unfold doA
 split
 · rename_i c
   split
   · rename_i f hc
     simp only [aOp,hc] at h;cases h
   · rw [h];rfl
 · rw [h];rfl
theorem z4g.of {f:FuncId} {args vs:List AV} {h:AH} {af:AF} {e:AX} {st:St} (ha:zas P f=some af) (hb:Ev P cf af.body ⟨zkc 0 args,max af.nt args.length,h,false⟩ (e,st)) (he:e=.normal∨e=.ret) (hr:zc1 P st.T st.H af.res=some vs):z4g P cf f args h (zor vs,st.H):=by
 intro g
 refine ⟨one af.body ⟨zkc 0 args,max af.nt args.length,h,false⟩ (e,st),zug (hb g),?_⟩
 simp only [z8a,ha,y2s]
 rcases he with rfl | rfl <;> simp only [hr]
theorem z2f.own {f:FuncId} {cap args:List AV} {h h':AH} {v:AV} (hno:z6o cf.clone f=none) (hi:(!cap.isEmpty || cf.inl.contains f)=true) (he:z4g P cf f (args++cap) h (v,h')):z2f P cf (.fn f cap) args h ⟨v,h',none,none⟩:=by
 intro g
 obtain ⟨k,hk,e⟩:=he g
 exact ⟨k,hk,by simp only [ze8,hno,hi,if_true,e]⟩
theorem z2f.pure {f:FuncId} {args pargs:List AV} {h h1:AH} {v:AV} {rd:List Nat} {r:CR} (hno:z6o cf.clone f=none) (hi:cf.inl.contains f=false) (hm:z0b (t7 h false z1b) args=some (pargs,rd)) (he:z4g P cf f pargs AH.empty (v,h1))
 (hb:z8r (!cf.move.contains f) (zev cf.thaw f) h rd v h1=some r):z2f P cf (.fn f []) args h r:=by
 intro g
 obtain ⟨k,hk,e⟩:=he g
 exact ⟨k,hk,by simp only [ze8,hno,hi,List.isEmpty_nil,Bool.not_true,Bool.or_self,Bool.false_eq_true,if_false,hm,e,hb]⟩
theorem z2f.round {b:Nat} {args:List AV} {h h':AH} {v:AV} (he:zei P cf b args h (v,h')):z2f P cf (.yl b) args h ⟨v,h',none,none⟩:=by
 intro g
 obtain ⟨k,hk,e⟩:=he g
 exact ⟨k,hk,by simp only [ze8,e]⟩
theorem z2f.clone {f z w n:Nat} {x:AV} {h:AH} {cs:List AV} {rd:List Nat} (hc:z6o cf.clone f=some (z,w)) (hs:z0a h z x=some (n,cs,rd)) (hb:n≤4294967296∧w≤4096∧0 < z):z2f P cf (.fn f []) [x] h ⟨.rf h.nx z 0 n,h.new (.cells cs),some rd,some [h.nx]⟩:=
 fun _=> ⟨fun _ _=> none,fun _ _ _ _ h=> (by cases h),by simp only [ze8,hc,hs,List.isEmpty_nil];rw [if_pos ⟨hb.1,hb.2.1,hb.2.2,trivial⟩]⟩
theorem z2f.del {f z n:Nat} {b:Nat} {i j:Int} {h:AH} {cs:List AV} (hc:z6o cf.clone f=some (z,5000)) (hs:h.wcells b=some cs) (hb:0 < z∧n≤4294967296∧cs.length=n*z∧0≤i∧i < n∧j=i+1):z2f P cf (.fn f []) [.rf b z 0 n,.i i,.i j] h ⟨.rf b z 0 (n - 1),h.put b (.cells (cs.take (i.toNat*z)++cs.drop ((i.toNat+1)*z))),some [b],some [b]⟩:=
 fun _=> ⟨fun _ _=> none,fun _ _ _ _ h=> (by cases h),by simp only [ze8,hc,hs,List.isEmpty_nil];rw [if_pos ⟨trivial,trivial,hb.1,trivial,hb.2.1,hb.2.2.1,hb.2.2.2.1,hb.2.2.2.2.1,hb.2.2.2.2.2,trivial⟩]⟩
theorem zrp {h:AH} {b:Nat} {s:LoopState} {p:Option Code} {T:Tm} {n:Nat} {ps:List Nat} {a c:Code}:z3b (h.put b (.loop s p T n ps a c)) b=some (s,p,T,n,ps,a,c):=by
 unfold z3b
 rw [AH.get_put,if_pos rfl]
 rfl
theorem zei.of {b:Nat} {args:List AV} {h:AH} {p0:Option Code} {T:Tm} {n:Nat} {ps:List Nat} {asg body:Code} {st:St} {p2:Option Code} {T2:Tm} {n2:Nat} {ps2:List Nat} {a2 c2:Code} {e:AX} {st':St} {s3:LoopState} {p3:Option Code} {T3:Tm} {n3:Nat} {ps3:List Nat} {a3 c3:Code}
 (h1:z3b h b=some (.ready,p0,T,n,ps,asg,body)) (h2:args.length=ps.length∧ps.all (· < n)) (h3:Ev P cf asg ⟨z7d T ps args,n,h,true⟩ (.normal,st)) (h4:z3b st.H b=some (.ready,p2,T2,n2,ps2,a2,c2))
 (h5:Ev P cf body {st with H:=st.H.put b (.loop .busy p2 T2 n2 ps2 a2 c2)} (e,st')) (h6:z3b st'.H b=some (s3,p3,T3,n3,ps3,a3,c3)):
 zei P cf b args h (.b (z5i e).isNone,st'.H.put b (.loop (if (z5i e).isNone then .ready else .done) (z5i e) T3 n3 ps3 a3 c3)):=by
 intro g
 refine ⟨two asg ⟨z7d T ps args,n,h,true⟩ (.normal,st) body {st with H:=st.H.put b (.loop .busy p2 T2 n2 ps2 a2 c2)} (e,st'),zui (h3 g) (h5 g),?_⟩
 have t1:two asg ⟨z7d T ps args,n,h,true⟩ (.normal,st) body {st with H:=st.H.put b (.loop .busy p2 T2 n2 ps2 a2 c2)} (e,st') asg ⟨z7d T ps args,n,h,true⟩=some (.normal,st):=by unfold two;rw [if_pos ⟨rfl,rfl⟩]
 have t2:two asg ⟨z7d T ps args,n,h,true⟩ (.normal,st) body {st with H:=st.H.put b (.loop .busy p2 T2 n2 ps2 a2 c2)} (e,st') body {st with H:=st.H.put b (.loop .busy p2 T2 n2 ps2 a2 c2)}=some (e,st'):=by
  unfold two
  rw [if_neg,if_pos ⟨rfl,rfl⟩]
  rintro ⟨_,hh⟩
  have:st.H.put b (.loop .busy p2 T2 n2 ps2 a2 c2)=h:=congrArg St.H hh
  rw [←this,zrp] at h1
  simp at h1
 simp only [zi2,h1]
 rw [if_pos h2]
 simp only [t1,h4,t2,h6]
def zsl:Code→Bool
 | .ret | .exit _ | .goto _=> true
 | _=> false
noncomputable def zbm (r:Rec):Rec:=fun c st=> match c with
 | .ret=> some (.ret,st)
 | .exit id=> some (.exit id,st)
 | .goto l=> some (.goto l,st)
 | c=> r c st
theorem zg7 {r:Rec} (h:z4u P r):z4u P (zbm r):=by
 intro c st e st' g
 cases c <;> first
  | exact h _ _ _ _ g
  | (simp only [zbm,Option.some.injEq,Prod.mk.injEq] at g;obtain ⟨rfl,rfl⟩:=g;first | exact z2q fun F n Q a w hF hQ=> wpIn_ret hQ | exact z2q fun F n Q a w hF hQ=> wpIn_exit hQ | exact z2q fun F n Q a w hF hQ=> wpIn_goto hQ)
def zic (P:Program) (f:FuncId):Bool:=match zas P f with | some af=> zsl af.body | none=> true
def zx4 (st:St):Option Code→Option (AX×St)
 | none=> some (.normal,st)
 | some .ret=> some (.ret,st)
 | some (.exit id)=> some (.exit id,st)
 | some (.goto l)=> some (.goto l,st)
 | _=> none
theorem Ev.range {g:Operand} {ps:Array Tmp} {asg body:Code} {st:St} {f:FuncId} {cap:List AV} {v:AV} {h2:AH} {s:LoopState} {p:Option Code} {T:Tm} {n:Nat} {qs:List Nat} {a b:Code} {x:AX×St} (hq:st.q=false) (hg:ev st.T g=.fn f cap) (hj:zic P f=false)
 (he:z4g P cf f (.yl st.H.nx::cap) (st.H.new (.loop .ready none st.T st.n ps.toList asg body)) (v,h2)) (hl:z3b h2 st.H.nx=some (s,p,T,n,qs,a,b)) (hs:s≠.busy) (hx:zx4 {st with H:=h2.put st.H.nx (.loop .exhausted p T n qs a b)} p=some x):
 Ev P cf (.rangeFunc g ps asg body) st x:=by
 intro gd
 obtain ⟨rec,hrec,e⟩:=he gd
 obtain ⟨x1,x2⟩:=x
 refine zjt (cf:=cf) (zg7 hrec) ?_
 have e':z8a P (zbm rec) f (.yl st.H.nx::cap) (st.H.new (.loop .ready none st.T st.n ps.toList asg body))=some (v,h2):=by
  unfold z8a at e⊢
  unfold zic at hj
  split at e
  · rename_i af haf
    simp only [haf] at hj
    have:zbm rec af.body=rec af.body:=by
     funext st
     cases hbd:af.body <;> rw [hbd] at hj <;> first | rfl | (simp [zsl] at hj)
    rw [this];exact e
  · cases e
 unfold zn0
 rw [if_neg (by simp [hq])]
 simp only [hg,e',hl]
 rw [if_neg hs]
 cases p with
 | none=> exact hx
 | some c=> cases c <;> first | exact hx | (simp [zx4] at hx)
end
end Go.Proofs.Ytimcbhhebnikiaa.Ab
namespace Go.Proofs.Ytimcbhhebnikiaa.Ab
open Go
set_option linter.unusedVariables false
set_option linter.unusedSimpArgs false
structure Rn where
 H:AH
 base:Nat
 ord:List Nat
 frz:List Nat
def Rn.m (R:Rn) (b':Nat):Option Nat:=if b' < R.base then some b' else R.ord[b' - R.base]?
mutual
inductive VTo (R:Rn):AV→AV→Prop
 | top (v:AV):VTo R v .top
 | pur {v v':AV} {bs:List Nat} (k:Nat) (h:t7 R.H false k v=some (v',bs)) (hb:∀b∈bs,b∈R.frz):VTo R v v'
 | rf {b b' z off n:Nat} (h:R.m b'=some b):VTo R (.rf b z off n) (.rf b' z off n)
 | pt {b b' off:Nat} (h:R.m b'=some b):VTo R (.pt b off) (.pt b' off)
 | yl {b b':Nat} (h:R.m b'=some b):VTo R (.yl b) (.yl b')
 | mp {b b':Nat} (h:R.m b'=some b):VTo R (.mp b) (.mp b')
 | nl {b' z:Nat}:VTo R .nl (.rf b' z 0 0)
 | nl0:VTo R .nl .nl
 | ag {xs ys:List AV} (h:LTo R xs ys):VTo R (.ag xs) (.ag ys)
 | tu {xs ys:List AV} (h:LTo R xs ys):VTo R (.tu xs) (.tu ys)
 | fn {f:FuncId} {xs ys:List AV} (h:LTo R xs ys):VTo R (.fn f xs) (.fn f ys)
inductive LTo (R:Rn):List AV→List AV→Prop
 | nil:LTo R [] []
 | cons {x y:AV} {xs ys:List AV} (h:VTo R x y) (t:LTo R xs ys):LTo R (x::xs) (y::ys)
 | pur {l l':List AV} {bs:List Nat} (k:Nat) (h:z0b (t7 R.H false k) l=some (l',bs)) (hb:∀b∈bs,b∈R.frz):LTo R l l'
end
def TTo (R:Rn) (T T':Tm):Prop:=∀t,VTo R (T.get t) (T'.get t)
theorem TTo.nil {R:Rn} {T:Tm}:TTo R T []:=fun t=> .top _
theorem TTo.cons {R:Rn} {T T':Tm} {k:Nat} {v:AV} (h:VTo R (T.get k) v) (t:TTo R T T'):TTo R T ((k,v)::T'):=by
 intro i
 simp only [Tm.get,zb3]
 by_cases e:k=i
 · subst e;simpa using h
 · simpa [e] using t i
inductive OTo (R:Rn):AObj→AObj→Prop
 | cells {xs ys:List AV} (h:LTo R xs ys):OTo R (.cells xs) (.cells ys)
 | ro {xs ys:List AV} (h:LTo R xs ys):OTo R (.ro xs) (.ro ys)
 | loop {s:LoopState} {p:Option Code} {T T':Tm} {n:Nat} {ps:List Nat} {a b:Code} (h:TTo R T T'):OTo R (.loop s p T n ps a b) (.loop s p T' n ps a b)
def BTo (R:Rn) (b':Nat) (o':AObj):Prop:=
 (∃b o,R.m b'=some b∧R.H.get b=some o∧OTo R o o')∨(isNone o'=true∧∀b,R.m b'=some b→R.H.nx≤b)
def HTo (R:Rn) (l':List (Nat×AObj)):Prop:=∀b' o',AH.look l' b'=some o'→BTo R b' o'
theorem HTo.nil {R:Rn}:HTo R []:=fun b' o' h=> by cases h
theorem HTo.dead {R:Rn} {b':Nat} {l:List (Nat×AObj)} (t:HTo R l):HTo R ((b',.dead)::l):=by
 intro c o h
 simp only [AH.look,zb3] at h
 by_cases e:b'=c
 · simp [e,z6e] at h
 · simp only [e,decide_false,cond_false] at h;exact t c o h
theorem HTo.cons {R:Rn} {b':Nat} {o':AObj} {l:List (Nat×AObj)} (h:BTo R b' o') (t:HTo R l):HTo R ((b',o')::l):=by
 intro c o hc
 simp only [AH.look,zb3] at hc
 by_cases e:b'=c
 · subst e
   simp only [decide_true,cond_true] at hc
   have:o=o':=by cases o' <;> simp [z6e] at hc <;> exact hc.symm
   rw [this];exact h
 · simp only [e,decide_false,cond_false] at hc;exact t c o hc
theorem BTo.old {R:Rn} {b' b:Nat} {o o':AObj} (h1:R.m b'=some b) (h2:R.H.get b=some o) (h3:OTo R o o'):BTo R b' o':=.inl ⟨b,o,h1,h2,h3⟩
theorem BTo.none {R:Rn} {b' b:Nat} {o':AObj} (h1:R.m b'=some b) (h2:R.H.nx≤b) (h3:isNone o'=true):BTo R b' o':=.inr ⟨h3,fun c hc=> by rw [h1] at hc;injection hc with hc;omega⟩
def Rn.ctx (R:Rn) (C:Ctx):Ctx where
 φ b':=match R.m b' with | some b=> C.φ b | none=> Option.none
 imm rb:=C.imm rb∨∃b∈R.frz,C.φ b=some rb
section
variable {R : Rn} {C : Ctx} {w : World}
theorem zd4 {b' b:Nat} (h:R.m b'=some b):(R.ctx C).φ b'=C.φ b:=by simp only [Rn.ctx,h]
theorem zts {bs:List Nat} (hb:∀b∈bs,b∈R.frz):Mono (PC C false bs) w (R.ctx C) w:=
 z6d (fun _ _ e=> by cases e) fun rb e=> by
  rcases e with ⟨_,e⟩ | ⟨b,hm,e⟩
  · exact .inl e
  · exact .inr ⟨b,hb b hm,e⟩
theorem ze5 (hS:Sim C R.H.get w) {k:Nat} {one:Bool}:∀{l l':List AV} {bs:List Nat} {vs:List Value},z0b (t7 R.H false k) l=some (l',bs)→(∀b∈bs,b∈R.frz)→LRel C w one l vs→LRel (R.ctx C) w one l' vs
 | [],l',bs,vs,h,hb,hl=> by
   simp only [z0b,Option.some.injEq,Prod.mk.injEq] at h;obtain ⟨rfl,rfl⟩:=h
   simp only [LRel] at hl⊢;exact hl
 | x::l,l',bs,vs,h,hb,hl=> by
   simp only [z0b] at h
   cases hx:t7 R.H false k x with
   | none=> rw [hx] at h;cases h
   | some q=>
     obtain ⟨x',b1⟩:=q
     rw [hx] at h
     cases hr:z0b (t7 R.H false k) l with
     | none=> rw [hr] at h;cases h
     | some q2=>
       obtain ⟨r',b2⟩:=q2
       rw [hr] at h
       simp only [Option.some.injEq,Prod.mk.injEq] at h;obtain ⟨rfl,rfl⟩:=h
       simp only [LRel] at hl
       obtain ⟨v,r,rfl,ho,hv,hl⟩:=hl
       have hv':=z8u hS false k x x' b1 v hx (fun _ _=> rfl) hv
       exact LRel.cons ho (x3.mono (zts fun b h=> hb b (List.mem_append_left _ h)) _ _ hv') (ze5 hS hr (fun b h=> hb b (List.mem_append_right _ h)) hl)
mutual
theorem VTo.rel (hS:Sim C R.H.get w):∀{x y:AV},VTo R x y→∀{v:Value},x3 C w x v→x3 (R.ctx C) w y v
 | _,_,.top _,v,h=> by simp only [x3]
 | _,_,.pur k hp hb,v,h=> x3.mono (zts hb) _ _ (z8u hS false k _ _ _ v hp (fun _ _=> rfl) h)
 | _,_,.rf hm,v,h=> by
   simp only [x3] at h⊢
   obtain ⟨a,c,e,l,k⟩:=h
   refine ⟨a,c,e,l,k.imp id ?_⟩
   rintro ⟨rb,e1,e2,e3⟩
   exact ⟨rb,by rw [zd4 hm];exact e1,e2,e3⟩
 | _,_,.pt hm,v,h=> by
   simp only [x3] at h⊢
   obtain ⟨rb,e1,e2⟩:=h
   exact ⟨rb,by rw [zd4 hm];exact e1,e2⟩
 | _,_,.yl hm,v,h=> by
   simp only [x3] at h⊢
   obtain ⟨rb,e1,e2⟩:=h
   exact ⟨rb,by rw [zd4 hm];exact e1,e2⟩
 | _,_,.mp hm,v,h=> by
   simp only [x3] at h⊢
   obtain ⟨rb,e1,e2⟩:=h
   exact ⟨rb,by rw [zd4 hm];exact e1,e2⟩
 | _,_,.nl,v,h=> by
   simp only [x3] at h⊢
   obtain ⟨a,e⟩:=h
   exact ⟨a,0,e,Nat.le_refl _,.inl rfl⟩
 | _,_,.nl0,v,h=> by
   simp only [x3] at h⊢
   exact h
 | _,_,.ag ht,v,h=> by
   simp only [x3] at h⊢
   obtain ⟨vs,e1,e2⟩:=h
   exact ⟨vs,e1,LTo.rel hS ht e2⟩
 | _,_,.tu ht,v,h=> by
   simp only [x3] at h⊢
   obtain ⟨vs,e1,e2⟩:=h
   exact ⟨vs,e1,LTo.rel hS ht e2⟩
 | _,_,.fn ht,v,h=> by
   simp only [x3] at h⊢
   obtain ⟨vs,e1,e2⟩:=h
   exact ⟨vs,e1,LTo.rel hS ht e2⟩
theorem LTo.rel (hS:Sim C R.H.get w) {one:Bool}:∀{xs ys:List AV},LTo R xs ys→∀{vs:List Value},LRel C w one xs vs→LRel (R.ctx C) w one ys vs
 | _,_,.nil,vs,h=> by simp only [LRel] at h⊢;exact h
 | _,_,.cons hv ht,vs,h=> by
   simp only [LRel] at h
   obtain ⟨v,r,rfl,ho,h1,h2⟩:=h
   exact LRel.cons ho (VTo.rel hS hv h1) (LTo.rel hS ht h2)
 | _,_,.pur k hp hb,vs,h=> ze5 hS hp hb h
end
theorem OTo.rel (hS:Sim C R.H.get w) {rb:Nat} {o o':AObj} (h:OTo R o o') (hr:z6k C w rb o):z6k (R.ctx C) w rb o':=by
 cases h with
 | cells h=>
   obtain ⟨vs,rest,T,e,hl⟩:=hr
   exact ⟨vs,rest,T,e,LTo.rel hS h hl⟩
 | ro h=>
   obtain ⟨vs,e,hl⟩:=hr
   exact ⟨vs,e,LTo.rel hS h hl⟩
 | loop h=>
   obtain ⟨l,e1,e2,e3,e4,e5,e6,e7,e8⟩:=hr
   exact ⟨l,e1,e2,e3,e4,e5,e6,e7,fun i=> VTo.rel hS (h i) (e8 i)⟩
theorem OTo.ro_eq {o o':AObj} (h:OTo R o o'):z9r o'=z9r o:=by cases h <;> rfl
theorem LTo.empty {ys:List AV} (h:LTo R [] ys):ys=[]:=by
 cases h with
 | nil=> rfl
 | pur k hp hb=> simp only [z0b,Option.some.injEq,Prod.mk.injEq] at hp;exact hp.1.symm
theorem OTo.none_eq {o o':AObj} (h:OTo R o o') (hn:isNone o=true):isNone o'=true:=by
 cases h with
 | cells h=>
   rename_i xs ys
   cases xs with
   | nil=> rw [h.empty];rfl
   | cons _ _=> cases hn
 | ro h=>
   rename_i xs ys
   cases xs with
   | nil=> rw [h.empty];rfl
   | cons _ _=> cases hn
 | loop h=> cases hn
end
def Rn.okB (R:Rn) (nx':Nat) (l':List (Nat×AObj)):Bool:=
 R.ord.all (fun b=> decide (R.base≤b) || (AH.look l' b).isNone) && decide ((R.ord.filter (· < R.H.nx)).Nodup) && R.frz.all (fun b=> (decide (R.base≤b) || (AH.look l' b).isNone) && !R.ord.contains b && (R.H.get b).isSome) && decide (R.base+R.ord.length≤nx') && decide (R.base≤R.H.nx)
theorem zxh {l:List Nat}:∀{i j a:Nat} {n:Nat},(l.filter (· < n)).Nodup→l[i]? =some a→l[j]? =some a→a < n→i=j:=by
 induction l with
 | nil=> intro i j a n h hi;simp at hi
 | cons x l ih=>
   intro i j a n h hi hj ha
   cases i with
   | zero=>
     cases j with
     | zero=> rfl
     | succ j=>
       simp only [List.getElem?_cons_zero,Option.some.injEq] at hi
       subst hi
       simp only [List.getElem?_cons_succ] at hj
       rw [List.filter_cons_of_pos (by simpa using ha)] at h
       have:=(List.nodup_cons.1 h).1
       exact absurd (List.mem_filter.2 ⟨List.mem_of_getElem? hj,by simpa using ha⟩) this
   | succ i=>
     cases j with
     | zero=>
       simp only [List.getElem?_cons_zero,Option.some.injEq] at hj
       subst hj
       simp only [List.getElem?_cons_succ] at hi
       rw [List.filter_cons_of_pos (by simpa using ha)] at h
       have:=(List.nodup_cons.1 h).1
       exact absurd (List.mem_filter.2 ⟨List.mem_of_getElem? hi,by simpa using ha⟩) this
     | succ j=>
       simp only [List.getElem?_cons_succ] at hi hj
       have h':(l.filter (· < n)).Nodup:=by
        by_cases hx:x < n
        · rw [List.filter_cons_of_pos (by simpa using hx)] at h
          exact (List.nodup_cons.1 h).2
        · rw [List.filter_cons_of_neg (by simpa using hx)] at h;exact h
       rw [ih h' hi hj ha]
theorem x0 {base:Nat} {st:St} {T':Tm} {nx':Nat} {l':List (Nat×AObj)} (ord frz:List Nat) (hok:(⟨st.H,base,ord,frz⟩:Rn).okB nx' l'=true) (hT:TTo ⟨st.H,base,ord,frz⟩ st.T T') (hH:HTo ⟨st.H,base,ord,frz⟩ l'):
 z7f base st ⟨T',st.n,⟨nx',l'⟩,st.q⟩:=by
 simp only [Rn.okB,Bool.and_eq_true,Bool.or_eq_true,List.all_eq_true,decide_eq_true_eq,Bool.not_eq_true',List.contains_eq_mem,decide_eq_false_iff_not,Option.isNone_iff_eq_none] at hok
 obtain ⟨⟨⟨⟨h1,h2⟩,h3⟩,h4⟩,h5⟩:=hok
 refine ⟨rfl,Nat.le_trans (Nat.le_add_right _ _) h4,fun C a w hs=> ⟨(⟨st.H,base,ord,frz⟩:Rn).ctx C,?_,?_⟩⟩
 · refine ⟨fun b rb hb e=> ?_,fun b rb e=> ?_,fun b e=> .inl e,fun b e=> ?_,Nat.le_refl _,fun _ _ _=> rfl,fun _ _=> rfl,fun _ c _ _ e=> ⟨c,e,rfl⟩,rfl⟩
   · rw [zd4 (b:=b) (by simp only [Rn.m];rw [if_pos hb])];exact e
   · simp only [Rn.ctx] at e
     split at e
     · rename_i i _;exact .inr ⟨i,e⟩
     · cases e
   · rcases e with e | ⟨i,_,e⟩
     · exact .inl e
     · exact .inr (.inr ⟨i,e⟩)
 · have hS:=hs.sim
   have hmlt:∀{b' b},(⟨st.H,base,ord,frz⟩:Rn).m b'=some b→(b' < base∧b'=b)∨b∈ord:=by
    intro b' b e
    simp only [Rn.m] at e
    split at e
    · injection e with e;subst e;exact .inl ⟨by assumption,rfl⟩
    · exact .inr (List.mem_of_getElem? e)
   have hminj:∀{b1 b2 b:Nat} {o1 o2:AObj},AH.look l' b1=some o1→AH.look l' b2=some o2→(⟨st.H,base,ord,frz⟩:Rn).m b1=some b→(⟨st.H,base,ord,frz⟩:Rn).m b2=some b→b < st.H.nx→b1=b2:=by
    intro b1 b2 b o1 o2 l1 l2 e1 e2 hb
    simp only [Rn.m] at e1 e2
    split at e1
    · injection e1 with e1
      split at e2
      · injection e2 with e2;omega
      · rcases h1 b (List.mem_of_getElem? e2) with g | g
        · omega
        · subst e1;rw [l1] at g;cases g
    · split at e2
      · injection e2 with e2
        rcases h1 b (List.mem_of_getElem? e1) with g | g
        · omega
        · subst e2;rw [l2] at g;cases g
      · have:=zxh h2 e1 e2 hb
        omega
   have hlive:∀{b rb},C.φ b=some rb→b < st.H.nx:=by
    intro b rb e
    rcases Nat.lt_or_ge b st.H.nx with g | g
    · exact g
    · rw [hs.new b g] at e;cases e
   refine ⟨fun i=> VTo.rel hS (hT i) (hs.tm i),hs.n,⟨fun b' o' e=> ?_,fun b1 b2 o1 o2 rb e1 e2 hro f1 f2=> ?_,fun b' rb e=> ?_,fun rb e=> ?_⟩,fun b' hb=> ?_⟩
   · rcases hH b' o' e with ⟨b,o,m1,m2,m3⟩ | ⟨m1,m2⟩
     · rcases hS.at_ b o m2 with ⟨g1,g2⟩ | ⟨rb,g1,g2,g3⟩
       · exact .inl ⟨by rw [zd4 m1];exact g1,m3.none_eq g2⟩
       · refine .inr ⟨rb,by rw [zd4 m1];exact g1,m3.rel hS g2,?_⟩
         rw [m3.ro_eq]
         refine ⟨fun hr=> .inl (g3.1 hr),fun hi=> ?_⟩
         rcases hi with hi | ⟨f,hf,ef⟩
         · exact g3.2 hi
         · cases hro:z9r o with
           | true=> rfl
           | false=>
             exfalso
             obtain ⟨⟨k1,k2⟩,k3⟩:=h3 f hf
             obtain ⟨of,hof⟩:=Option.isSome_iff_exists.1 k3
             have:=hS.inj b f o of rb m2 hof hro g1 ef
             subst this
             rcases hmlt m1 with ⟨g,g'⟩ | g
             · rcases k1 with k1 | k1
               · omega
               · subst g'
                 have hl:AH.look l' b'=some o':=e
                 rw [hl] at k1;cases k1
             · exact k2 g
     · refine .inl ⟨?_,m1⟩
       simp only [Rn.ctx]
       split
       · rename_i b hb;exact hs.new b (m2 b hb)
       · rfl
   · simp only [Rn.ctx] at f1 f2
     split at f1
     · rename_i c1 hc1
       split at f2
       · rename_i c2 hc2
         rcases hH b1 o1 e1 with ⟨b,o,m1,m2,m3⟩ | ⟨m1,m2⟩
         · rw [hc1] at m1;injection m1 with m1;subst m1
           rcases hH b2 o2 e2 with ⟨b',o',n1,n2,n3⟩ | ⟨n1,n2⟩
           · rw [hc2] at n1;injection n1 with n1;subst n1
             have:=hS.inj c1 c2 o o' rb m2 n2 (by rw [←m3.ro_eq];exact hro) f1 f2
             subst this
             exact hminj e1 e2 hc1 hc2 (hlive f1)
           · have:st.H.nx≤c2:=n2 c2 hc2;have:=hlive f2;omega
         · have:st.H.nx≤c1:=m2 c1 hc1;have:=hlive f1;omega
       · cases f2
     · cases f1
   · simp only [Rn.ctx] at e
     split at e
     · exact hS.φlt _ _ e
     · cases e
   · rcases e with e | ⟨b,_,e⟩
     · exact hS.immlt rb e
     · exact hS.φlt b rb e
   · simp only [Rn.ctx]
     split
     · rename_i b hbm
       simp only [Rn.m] at hbm
       have hb':nx'≤b':=hb
       split at hbm
       · omega
       · have:b' - base < ord.length:=by
          rcases Nat.lt_or_ge (b' - base) ord.length with g | g
          · exact g
          · rw [List.getElem?_eq_none g] at hbm;cases hbm
         omega
     · rfl
/-! ### Loops by what stays -/
section
variable (P : Program) (cf : Cfg)
def v4 (base:Nat) (c:Code) (st st':St):Prop:=base≤st'.H.nx∧∃st1,Ev P cf c st (.normal,st1)∧z7f base st1 st'
def x4 (c:Code) (st st':St):Prop:=st.H.nx≤st'.H.nx∧∀x,z3e P cf st.H.nx c st' x→zsi P cf c st x
end
inductive Runs {σ:Type} (step:σ→Option σ):σ→σ→Prop
 | refl (s:σ):Runs step s s
 | step {s s' s'':σ} (h:step s=some s') (t:Runs step s' s''):Runs step s s''
theorem Runs.det {σ:Type} {step:σ→Option σ} {s a b:σ} (h:Runs step s a) (ha:step a=none) (g:Runs step s b) (hb:step b=none):a=b:=by
 induction h with
 | refl s=>
   cases g with
   | refl=> rfl
   | step h _=> rw [ha] at h;cases h
 | step h _ ih=>
   cases g with
   | refl=> rw [hb] at h;cases h
   | step h' t=> rw [h] at h';injection h' with h';subst h';exact ih ha t
section
variable {P : Program} {cf : Cfg}
theorem zuj {σ:Type} {step:σ→Option σ} {S:σ→St} {base:Nat} {c:Code} (hs:∀s s',step s=some s'→v4 P cf base c (S s) (S s')) {s s':σ} (h:Runs step s s') {x:AX×St} (hx:z3e P cf base c (S s') x):z3e P cf base c (S s) x:=by
 induction h with
 | refl=> exact hx
 | step h _ ih=>
   obtain ⟨_,st1,e1,e2⟩:=hs _ _ h
   exact z3e.step e1 e2 (ih hx)
theorem Ev.abs {c:Code} {st st1 st2:St} {e:AX} (h:Ev P cf c st (e,st1)) (hab:z7f st.H.nx st1 st2):Ev P cf c st (e,st2):=by
 intro g
 obtain ⟨a1,b1,c1⟩:=h g
 refine ⟨hab.1.trans a1,hab.2.1,fun C a w s0 ro n Q hq hs0 hsr hm hd hQ=> c1 C a w s0 ro n Q hq hs0 hsr hm hd fun C' a' w' g1 g2 g3 g4=> ?_⟩
 obtain ⟨C2,s2,r2⟩:=hab.2.2 C' a' w' g2
 exact hQ C2 a' w' (((g1.toB (base:=st.H.nx)).trans s2).toStep hsr.new) r2 (g3.stepB s2) g4
theorem v4.ev {base:Nat} {c:Code} {S S':St} (h:v4 P cf base c S S') (hb:S.H.nx=base):Ev P cf c S (.normal,S'):=by
 obtain ⟨_,st1,e1,e2⟩:=h
 subst hb
 exact e1.abs e2
theorem x4.of {σ:Type} {step:σ→Option σ} {S:σ→St} {c:Code} {st:St} {s s':σ} (hs:∀s s',step s=some s'→v4 P cf st.H.nx c (S s) (S s')) (h0:z7f st.H.nx st (S s)) (h:Runs step s s'):x4 P cf c st (S s'):=by
 have hb:st.H.nx≤(S s').H.nx:=by
  induction h with
  | refl=> exact h0.2.1
  | step h t ih=>
    obtain ⟨b1,st1,e1,e2⟩:=hs _ _ h
    cases t with
    | refl=> exact b1
    | step h' t'=>
      clear ih h0
      have:∀a b,Runs step a b→st.H.nx≤(S a).H.nx→st.H.nx≤(S b).H.nx:=by
       intro a b r
       induction r with
       | refl=> exact id
       | step h _ ih=> exact fun _=> ih (hs _ _ h).1
      exact this _ _ (.step h' t') b1
 exact ⟨hb,fun x hx=> ⟨S s,h0,zuj hs h hx⟩⟩
end
/-! ### Jumps back in a scope by what stays -/
section
variable (P : Program) (cf : Cfg)
def z21 (base:Nat) (body c:Code) (st:St) (x:AX×St):Prop:=Good P cf→x.2.q=st.q∧base≤x.2.H.nx∧∃k,∀(C:Ctx) (a:Act) (w:World) (s0:Nat) (ro:Option Nat) (n:Nat) (Q:Exit→Act→World→Prop),st.q=ro.isSome→s0≤w.heap.size→SRel C st a w→z0o C w s0 a.defers→(ro.isSome=true→a.defers=[])→
    zze base C w x.2 s0 ro (Q (z2n x.1))→zbn (fen ro) n P body Q k c a w
def z9u (body c:Code) (st st':St):Prop:=st.H.nx≤st'.H.nx∧∀x,z21 P cf st.H.nx body c st' x→z3c P cf body c st x
def zm9 (base:Nat) (body c:Code) (st st':St):Prop:=base≤st'.H.nx∧∃l st1,findLabel body l=some c∧Ev P cf c st (.goto l,st1)∧z7f base st1 st'
end
section
variable {P : Program} {cf : Cfg}
theorem z21.out {base:Nat} {body c:Code} {st st1:St} {e:AX} (he:∀l,e=.goto l→findLabel body l=none) (hb:base≤st.H.nx) (h1:Ev P cf c st (e,st1)):z21 P cf base body c st (e,st1):=by
 intro g
 obtain ⟨a1,b1,c1⟩:=h1 g
 refine ⟨a1,Nat.le_trans hb b1,1,fun C a w s0 ro n Q hq hs0 hsr hm hd hQ=> ?_⟩
 refine c1 C a w s0 ro n _ hq hs0 hsr hm hd fun C' a' w' g1 g2 g3 g4=> ?_
 have:=hQ C' a' w' g1.toB g2 g3 g4
 cases e with
 | goto l=> simp only [z2n,zau,he l rfl];exact this
 | _=> exact this
theorem z21.goto {base:Nat} {body c rest:Code} {st st1 st2:St} {l:Nat} {x:AX×St} (h1:Ev P cf c st (.goto l,st1)) (hf:findLabel body l=some rest) (hab:z7f base st1 st2) (h2:z21 P cf base body rest st2 x):z21 P cf base body c st x:=by
 intro g
 obtain ⟨a1,b1,c1⟩:=h1 g
 obtain ⟨a2,b2,k,c2⟩:=h2 g
 refine ⟨a2.trans (hab.1.trans a1),b2,k+1,fun C a w s0 ro n Q hq hs0 hsr hm hd hQ=> ?_⟩
 refine c1 C a w s0 ro n _ hq hs0 hsr hm hd fun C' a' w' g1 g2 g3 g4=> ?_
 obtain ⟨C2,s2,r2⟩:=hab.2.2 C' a' w' g2
 have h12:=(g1.toB (base:=base)).trans s2
 simp only [z2n,zau,hf]
 exact c2 C2 a' w' s0 ro n Q ((hab.1.trans a1).trans hq) (Nat.le_trans hs0 h12.size) r2 (g3.stepB s2) g4 fun C3 a3 w3 k1 k2 k3 k4=> hQ C3 a3 w3 (h12.trans k1) k2 k3 k4
theorem z21.scope {body c:Code} {st st1:St} {x:AX×St} (hab:z7f st.H.nx st st1) (h:z21 P cf st.H.nx body c st1 x):z3c P cf body c st x:=by
 intro g
 obtain ⟨a1,b1,k,c1⟩:=h g
 refine ⟨a1.trans hab.1,b1,k,fun C a w s0 ro n Q hq hs0 hsr hm hd hQ=> ?_⟩
 obtain ⟨C1,s1,r1⟩:=hab.2.2 C a w hsr
 exact c1 C1 a w s0 ro n Q (hab.1.trans hq) hs0 r1 (hm.stepB s1) hd fun C2 a2 w2 k1 k2 k3 k4=> hQ C2 a2 w2 ((s1.trans k1).toStep hsr.new) k2 k3 k4
theorem z9u.of {σ:Type} {step:σ→Option σ} {S:σ→St} {body c:Code} {st:St} {s s':σ} (hs:∀s s',step s=some s'→zm9 P cf st.H.nx body c (S s) (S s')) (h0:z7f st.H.nx st (S s)) (h:Runs step s s'):z9u P cf body c st (S s'):=by
 have hb:∀a b,Runs step a b→st.H.nx≤(S a).H.nx→st.H.nx≤(S b).H.nx:=by
  intro a b r
  induction r with
  | refl=> exact id
  | step h _ ih=> exact fun _=> ih (hs _ _ h).1
 have hr:∀a b x,Runs step a b→z21 P cf st.H.nx body c (S b) x→z21 P cf st.H.nx body c (S a) x:=by
  intro a b x r
  induction r with
  | refl=> exact id
  | step h _ ih=>
    intro hx
    obtain ⟨_,l,st1,e1,e2,e3⟩:=hs _ _ h
    exact z21.goto e2 e1 e3 (ih hx)
 exact ⟨hb _ _ h h0.2.1,fun x hx=> z21.scope h0 (hr _ _ _ h hx)⟩
end
end Go.Proofs.Ytimcbhhebnikiaa.Ab
namespace Go.Proofs.Ytimcbhhebnikiaa.Ab
open Go
set_option linter.unusedVariables false
set_option linter.unusedSimpArgs false
theorem ztp {f:AV→Option (AV×List Nat)}:∀{l:List AV},(∀v∈l,f v=some (v,[]))→z0b f l=some (l,[])
 | [],_=> rfl
 | v::l,h=> by
   simp only [z0b,h v (by simp),ztp (l:=l) fun u hu=> h u (by simp [hu]),List.append_nil]
def plain (fr:Bool):AV→Bool
 | .i _ | .y _ | .b _ | .st _ | .sc _=> true
 | .sl _ _=> !fr
 | _=> false
def Pl (fr:Bool) (l:List AV):Prop:=∀v∈l,plain fr v=true
theorem z3g {h:AH} {fr:Bool} {k:Nat} {v:AV} (hv:plain fr v=true):t7 h fr (k+1) v=some (v,[]):=by
 cases v <;> first | rfl | cases hv | skip
 cases fr with
 | true=> cases hv
 | false=> simp [t7]
@[simp] theorem z4x (h:AH) (fr:Bool) (k:Nat) (l:List AV) (hl:Pl fr l):z0b (t7 h fr (k+1)) l=some (l,[]):=
 ztp fun v hv=> z3g (hl v hv)
theorem zbj {f:AV→Option (AV×List Nat)}:∀{a b a' b':List AV} {x y:List Nat},z0b f a=some (a',x)→z0b f b=some (b',y)→z0b f (a++b)=some (a'++b',x++y)
 | [],b,a',b',x,y,h1,h2=> by
   simp only [z0b,Option.some.injEq,Prod.mk.injEq] at h1;obtain ⟨rfl,rfl⟩:=h1;simpa using h2
 | v::a,b,a',b',x,y,h1,h2=> by
   simp only [z0b] at h1
   cases hv:f v with
   | none=> rw [hv] at h1;cases h1
   | some q=>
     rw [hv] at h1
     cases ha:z0b f a with
     | none=> rw [ha] at h1;cases h1
     | some p=>
       obtain ⟨p1,p2⟩:=p
       obtain ⟨q1,q2⟩:=q
       rw [ha] at h1
       simp only [Option.some.injEq,Prod.mk.injEq] at h1;obtain ⟨rfl,rfl⟩:=h1
       simp only [List.cons_append,z0b,hv,zbj ha h2,List.append_assoc]
theorem z2s {f:AV→Option (AV×List Nat)} {v v':AV} {l l':List AV} {x y:List Nat} (h1:f v=some (v',x)) (h2:z0b f l=some (l',y)):z0b f (v::l)=some (v'::l',x++y):=by
 simp only [z0b,h1,h2]
theorem zhb {h:AH} {fr:Bool} {k b z off n:Nat} {cs:List AV} (hc:h.cells b=some cs) (hle:off+n*z≤cs.length) (hp:Pl fr ((cs.drop off).take (n*z))):t7 h fr (k+1+1) (.rf b z off n)=some (.sl n ((cs.drop off).take (n*z)),[b]):=by
 have e:=z4x h fr k _ hp
 generalize k+1=j at e⊢
 simp only [t7,hc]
 rw [if_pos hle,e]
inductive Hint where
 | auto | yes | no
 | op (r:OR)
 | call (r:CR)
 | res (e:AX) (st:St)
 | val (c:AV)
 | str (l:List UInt8)
 | cells (cs:List AV)
 | cellsb (cs:List AV) (bs:List Nat)
 | fres (v:AV)
 | head (st:St)
 | truth (b:Bool)
 | fc
inductive Q where
 | bit (b:Bool)
 | op (o:Op) (st:St)
 | call (f:AV) (args:List AV) (h:AH)
 | loop (c:Code) (st:St)
 | body (c:Code) (st:St)
 | scope (body rest:Code) (l:Nat) (st:St)
 | prop (p:Prop)
 | one (cs:List AV)
 | bytes (cs:List AV)
 | pur (h:AH) (fr:Bool) (k:Nat) (cs:List AV)
 | efun (f:FuncId) (args:List AV) (fr:Bool)
 | lst (cs:List AV)
 | eqc (a b:List AV)
 | eqb (a b:List AV)
 | ord (ops:Array Oper) (fts:List Ft)
inductive F (α:Type) where
 | ret (a:α)
 | ask (q:Q) (k:Hint→F α)
 | stop
def F.bind {α β:Type} (m:F α) (f:α→F β):F β:=
 match m with
 | .ret a=> f a
 | .ask q k=> .ask q fun h=> F.bind (k h) f
 | .stop=> .stop
def F.of {α:Type}:Option α→F α
 | some a=> .ret a
 | none=> .stop
abbrev z9v:=Code→St→F (AX×St)
/-! A value told on the spot: nothing but what it was. -/
def zxx {α:Type} (v:AV) (k:AV→F α):F α:=
 match v with
 | .top=> k .top
 | .i n=> k (.i n)
 | .y n=> k (.y n)
 | .b n=> k (.b n)
 | .st l=> k (.st l)
 | .sc v=> k (.sc v)
 | .nl=> k .nl
 | .sl n cs=> k (.sl n cs)
 | .rf b z o n=> k (.rf b z o n)
 | .pt b o=> k (.pt b o)
 | .ip cs=> k (.ip cs)
 | .ag xs=> k (.ag xs)
 | .tu xs=> k (.tu xs)
 | .fn f c=> k (.fn f c)
 | .yl b=> k (.yl b)
 | .mp b=> k (.mp b)
def zmx {α:Type}:Tm→(Tm→F α)→F α
 | [],k=> k []
 | (i,v)::l,k=> zmx l fun l=> k ((i,v)::l)
def zy7 {α:Type} (o:AObj) (k:AObj→F α):F α:=
 match o with
 | .dead=> k .dead
 | .cells cs=> k (.cells cs)
 | .ro cs=> k (.ro cs)
 | .map es=> k (.map es)
 | .loop s p T n ps a b=> k (.loop s p T n ps a b)
def zm4 {α:Type}:List (Nat×AObj)→(List (Nat×AObj)→F α)→F α
 | [],k=> k []
 | (i,v)::l,k=> zy7 v fun v=> zm4 l fun l=> k ((i,v)::l)
theorem zuo {α:Type} (o:AObj) (k:AObj→F α):zy7 o k=k o:=by cases o <;> rfl
def zen {α:Type} (n:Nat) (k:Nat→F α):F α:=match n with | 0=> k 0 | n+1=> k (n+1)
def zxu {α:Type} (b:Bool) (k:Bool→F α):F α:=match b with | true=> k true | false=> k false
theorem zv7 {α:Type} (b:Bool) (k:Bool→F α):zxu b k=k b:=by cases b <;> rfl
def znj {α:Type} (s:St) (k:St→F α):F α:=
 zmx s.T fun T=> zen s.n fun n=> zen s.H.nx fun nx=> zm4 s.H.l fun l=> zxu s.q fun q=> k ⟨T,n,⟨nx,l⟩,q⟩
theorem zvy {α:Type} (v:AV) (k:AV→F α):zxx v k=k v:=by cases v <;> rfl
theorem zl5 {α:Type}:∀(T:Tm) (k:Tm→F α),zmx T k=k T
 | [],k=> rfl
 | (i,v)::l,k=> by rw [zmx,zl5 l]
theorem zll {α:Type}:∀(T:List (Nat×AObj)) (k:List (Nat×AObj)→F α),zm4 T k=k T
 | [],k=> rfl
 | (i,v)::l,k=> by rw [zm4,zuo,zll l]
theorem zbx {α:Type} (n:Nat) (k:Nat→F α):zen n k=k n:=by cases n <;> rfl
theorem zlv {α:Type} (s:St) (k:St→F α):znj s k=k s:=by
 simp only [znj,zl5,zbx,zll,zv7]
/-! What an operation asks for. -/
def z3p {α:Type} (p:Prop) [Decidable p] (m:F α):F α:=.ask (.prop p) fun
 | .yes=> m
 | .auto=> if p then m else .stop
 | _=> .stop
def zh6 {α:Type} (cs:List AV) (k:AV→F α):F α:=.ask (.one cs) fun
 | .val c=> k c
 | .auto=> match cs with | [c]=> k c | _=> .stop
 | _=> .stop
def zgw {α:Type}:List AV→(List AV→F α)→F α
 | [],k=> k []
 | x::xs,k=> zgw xs fun ys=> k (x::ys)
theorem zes {α:Type}:∀(cs:List AV) (k:List AV→F α),zgw cs k=k cs
 | [],k=> rfl
 | x::xs,k=> by rw [zgw,zes xs]
def z59 {α:Type} (cs:List AV) (k:List AV→F α):F α:=.ask (.lst cs) fun
 | .cells cs'=> k cs'
 | .auto=> k cs
 | .fc=> zgw cs k
 | _=> .stop
def zk0 {α:Type} (cs:List AV) (k:List UInt8→F α):F α:=.ask (.bytes cs) fun
 | .str l=> k l
 | .auto=> match g0 cs with | some l=> k l | none=> .stop
 | _=> .stop
structure View where
 P:Program
 ti:TypeId→Option TI
 fa:FuncId→Option AF
def View.of (P:Program):View:=⟨P,u9 P,zas P⟩
def y2v (V:View) (t:Option TypeId):Bool:=
 match t with
 | some t=> match V.ti t with | some ti=> (match ti.k with | .slice _=> true | .string=> true | _=> false) | none=> false
 | none=> true
def binY (op:BinOp) (a b:UInt8):Option AV:=match op with | .xor=> some (.y (a ^^^ b)) | .rem=> if b.toNat=0 then none else some (.y (a % b)) | op=> zio .u8 op a.toNat b.toNat
theorem y0j (op:BinOp) (a b:UInt8):binY op a b=zio .u8 op a.toNat b.toNat:=by
 unfold binY
 split
 · have e:∀x:UInt8,BitVec.ofInt 8 (x.toNat:Int)=x.toBitVec:=fun x=> by
    rw [BitVec.ofInt_natCast]
    exact BitVec.eq_of_toNat_eq (by rw [BitVec.toNat_ofNat];exact Nat.mod_eq_of_lt x.toNat_lt)
   have e2:((BitVec.ofInt IntKind.u8.bits (a.toNat:Int) ^^^ BitVec.ofInt IntKind.u8.bits (b.toNat:Int)).toNat:Int)=((a ^^^ b).toNat:Int):=by
    show ((BitVec.ofInt 8 (a.toNat:Int) ^^^ BitVec.ofInt 8 (b.toNat:Int)).toNat:Int)=_
    rw [e,e];rfl
   have h:(a ^^^ b).toNat < 256:=(a ^^^ b).toNat_lt
   have e3:IntKind.u8.wrap ((a ^^^ b).toNat:Int)=((a ^^^ b).toNat:Int):=by
    show ((a ^^^ b).toNat:Int) % (2 ^ 8:Nat)=_
    omega
   simp only [zio,e2,e3,ofInt]
   rw [if_pos (by omega),Int.toNat_natCast,UInt8.ofNat_toNat]
 · have hb:b.toNat < 256:=b.toNat_lt
   have ha:a.toNat < 256:=a.toNat_lt
   have e1:((a.toNat:Int)).tmod (b.toNat:Int)=((a % b).toNat:Int):=by
    rw [UInt8.toNat_mod]
    rfl
   simp only [zio]
   by_cases h:b.toNat=0
   · rw [if_pos h,if_pos (by omega)]
   · rw [if_neg h,if_neg (by omega),e1]
     have h2:(a % b).toNat < 256:=(a % b).toNat_lt
     simp only [ofInt]
     rw [if_pos (by omega),Int.toNat_natCast,UInt8.ofNat_toNat]
 · rfl
def opV (V:View) (h:AH) (T:Tm) (op:Op):Option OR:=
 match op with
 | .move x | .assign x=> g9 h (ev T x)
 | .alloc e=> match V.ti e with | some ti=> if ti.zero.length=ti.size then some ⟨.pt h.nx 0,h.new (.cells ti.zero),[],[h.nx]⟩ else none | none=> none
 | .box _ x=> match z4o (ev T x) with | some cs=> some ⟨.pt h.nx 0,h.new (.cells cs),[],[h.nx]⟩ | none=> none
 | .fieldAddr s x f=> match V.ti s with
   | some ti=> match ti.k with
     | .struct fs=> match fs[f]? with
       | some (off,sz,_)=> if sz=0 then none else
         match ev T x with
         | .pt b o=> g9 h (.pt b (o+off))
         | .ip cs=> g9 h (.ip (cs.drop off))
         | _=> none
       | none=> none
     | _=> none
   | none=> none
 | .field s x f=> match V.ti s with
   | some ti=> match ti.k,ev T x with
     | .struct fs,.ag cs=> match fs[f]? with
       | some (off,sz,ag)=> if off+sz≤cs.length then
          match zao ag ((cs.drop off).take sz) with | some v=> g9 h v | none=> none
         else none
       | none=> none
     | _,_=> none
   | none=> none
 | .build t parts=> match V.ti t with
   | some ti=> match ti.k with
     | .struct fs=> match z7x (fun i=> (fs[i]?).map fun f=> (f.1,f.2.1)) ti.zero (parts.toList.map fun p=> (p.1,ev T p.2)) with
       | some cs=> g9 h (.ag cs)
       | none=> none
     | _=> aOp V.P h T (.build t parts)
   | none=> none
 | .binOp op t x y t2=> match ev T x,ev T y with
   | .i a,.i b=> match zio .i64 op a b with | some v=> g9 h v | none=> none
   | .y a,.y b=> match binY op a b with | some v=> g9 h v | none=> none
   | _,_=> aOp V.P h T (.binOp op t x y t2)
 | .convert s d x=> match V.ti s,V.ti d with
   | some si,some di=> match di.k,si.k with
     | .int k,.int _=> match isI (ev T x) with | some n=> g9 h (ofInt k (k.wrap n)) | none=> none
     | _,_=> aOp V.P h T (.convert s d x)
   | _,_=> none
 | .call c=> match c.callee,c.args.toList.map (ev T) with
   | .builtin .len,[x]=> match c.argTypes[0]? with
     | some t=> match V.ti t with
       | some ti=> match ti.k,x with
         | .slice _,.st _=> none
         | .slice _,x=> (zo1 x).bind fun n=> g9 h (.i n)
         | .string,.st l=> g9 h (.i l.length)
         | _,_=> none
       | none=> none
     | none=> none
   | _,_=> aOp V.P h T (.call c)
 | op=> aOp V.P h T op
theorem y2w {P:Program} {h:AH} {T:Tm} {op:Op} {r:OR} (e:opV (View.of P) h T op=some r):aOp P h T op=some r:=by
 unfold opV at e
 split at e
 case h_1=> (simp only [aOp];exact e)
 case h_2=> (simp only [aOp];exact e)
 case h_3=> (simp only [aOp];exact e)
 case h_4=> (simp only [aOp];exact e)
 case h_5=> (simp only [aOp];exact e)
 case h_6=> (simp only [aOp];exact e)
 case h_7 t parts=>
  split at e
  · rename_i ti ht
    have ht:u9 P t=some ti:=ht
    split at e
    · rename_i fs hk
      simp only [aOp,ht,hk];exact e
    · exact e
  · cases e
 case h_8 op t x y t2=>
  split at e
  · rename_i a b ha hb
    simp only [aOp,ha,hb,bin];exact e
  · rename_i a b ha hb
    rw [y0j] at e
    simp only [aOp,ha,hb,bin];exact e
  · exact e
 case h_9 s d x=>
  split at e
  · rename_i si di hs hd
    have hs:u9 P s=some si:=hs
    have hd:u9 P d=some di:=hd
    split at e
    · rename_i k k2 hk1 hk2
      simp only [aOp,conv,hs,hd,hk1,hk2];exact e
    · exact e
  · cases e
 case h_10 c=>
  split at e
  · rename_i x hc ha
    simp only [aOp,hc,ha,z51];exact e
  · exact e
 case h_11=> exact e
def zva (V:View) (f:FuncId):Bool:=match V.fa f with | some af=> zsl af.body | none=> true
def slF {α:Type} (h:AH) (z:Nat) (v:AV) (k:Nat×List AV×List Nat→F α):F α:=
 match v with
 | .nl=> k (0,[],[])
 | .sl n cs=> z3p (cs.length=n*z) (k (n,cs,[]))
 | .rf b z' off n=> if z'=z then
    (match h.cells b with
     | some cs=> .ask (.prop (off=0∧cs.length=n*z)) fun
       | .yes=> k (n,cs,[b])
       | .no=> z3p (off+n*z≤cs.length) (k (n,(cs.drop off).take (n*z),[b]))
       | .auto=> if off+n*z≤cs.length then k (n,(cs.drop off).take (n*z),[b]) else .stop
       | _=> .stop
     | none=> .stop) else .stop
 | _=> .stop
def znn (V:View) (h:AH) (t:TypeId) (t1:Option TypeId) (s x:AV):F OR:=
 match V.ti t with
 | some ti=> match ti.k with
   | .slice e=> match V.ti e with
     | some ei=>
       if y2v V t1=false∨ei.zero.length≠ei.size then .stop else
       slF h ei.size x fun r=>
        match s with
        | .nl=> z3p (r.1≤4294967296) (if ei.bytes≤4096∧0 < ei.size then .ret ⟨.rf h.nx ei.size 0 r.1,h.new (.cells r.2.1),r.2.2,[h.nx]⟩ else .stop)
        | .rf b z 0 m=>
          match h.wcells b with
          | some old=>
            z3p (old.length=m*z∧m+r.1≤4294967296) (if z=ei.size∧ei.bytes≤4096∧0 < ei.size then
             .ret ⟨.rf h.nx z 0 (m+r.1),(h.kill b).new (.cells (old++r.2.1)),b::r.2.2,[b,h.nx]⟩
            else .stop)
          | none=> .stop
        | _=> .stop
     | none=> .stop
   | _=> .stop
 | none=> .stop
def zzp (V:View) (h:AH) (src dst:TypeId) (x:AV):F OR:=
 match V.ti src,V.ti dst with
 | some s,some d=>
   match d.k,s.k with
   | .string,.slice e=>
     match V.ti e with
     | some ei=> match ei.k with
       | .int .u8=> slF h 1 x fun r=> zk0 r.2.1 fun l=> .ret ⟨.st l,h,r.2.2,[]⟩
       | _=> .stop
     | none=> .stop
   | _,_=> F.of (conv V.P h src dst x)
 | _,_=> .stop
def zxe (V:View) (h:AH) (t:TypeId) (a:AV):F OR:=
 match V.ti t with
 | some ti=> if ti.size=0 then .stop else
   match a with
   | .pt b off=> match h.cells b with
     | some cs=> z3p (off+ti.size≤cs.length) (if ti.agg then z59 ((cs.drop off).take ti.size) fun cs=> .ret ⟨.ag cs,h,[b],[]⟩ else zh6 ((cs.drop off).take ti.size) fun c=> .ret ⟨c,h,[b],[]⟩)
     | none=> .stop
   | .ip cs=> z3p (ti.size≤cs.length) (if ti.agg then z59 (cs.take ti.size) fun cs=> .ret ⟨.ag cs,h,[],[]⟩ else zh6 (cs.take ti.size) fun c=> .ret ⟨c,h,[],[]⟩)
   | _=> .stop
 | none=> .stop
def zou {α:Type} (lo:Option AV) (d:Nat) (k:Nat→F α):F α:=
 match lo with
 | none=> k d
 | some (.i n)=> z3p (0≤n) (k n.toNat)
 | _=> .stop
def zsm (V:View) (h:AH) (t:TypeId) (x:AV) (lo hi mx:Option AV):F OR:=
 match V.ti t with
 | none=> .stop
 | some ti=>
   match ti.k with
   | .slice e=>
     match V.ti e,mx with
     | some ei,none=>
       match x with
       | .nl=> F.of (z58 V.P h t x lo hi mx)
       | .sl n cs=> zou lo 0 fun l=> zou hi n fun h'=> z3p (l≤h'∧h'≤n∧cs.length=n*ei.size) (.ret ⟨.sl (h' - l) ((cs.drop (l*ei.size)).take ((h' - l)*ei.size)),h,[],[]⟩)
       | .rf b z off n=> zou lo 0 fun l=> zou hi n fun h'=> z3p (l≤h'∧h'≤n) (if z=ei.size then .ret ⟨.rf b z (off+l*z) (h' - l),h,[],[]⟩ else .stop)
       | _=> .stop
     | _,_=> F.of (z58 V.P h t x lo hi mx)
   | .array n e=>
     match V.ti e,mx with
     | some ei,none=> zou lo 0 fun l=> zou hi n fun h'=>
       match x with
       | .pt b off=> match h.cells b with
         | some cs=> z3p (l≤h'∧h'≤n∧off+n*ei.size≤cs.length) (if 0 < n*ei.size then .ret ⟨.rf b ei.size (off+l*ei.size) (h' - l),h,[b],[]⟩ else .stop)
         | none=> .stop
       | .ip cs=> z3p (l≤h'∧h'≤n∧n*ei.size≤cs.length) (z59 ((cs.drop (l*ei.size)).take ((h' - l)*ei.size)) fun cs'=> .ret ⟨.sl (h' - l) cs',h,[],[]⟩)
       | _=> .stop
     | _,_=> F.of (z58 V.P h t x lo hi mx)
   | _=> F.of (z58 V.P h t x lo hi mx)
def idxF (V:View) (h:AH) (t:TypeId) (x ix:AV):F OR:=
 match V.ti t,isI ix with
 | some ti,some i=>
   match ti.k with
   | .array n e=> match V.ti e with
     | some ei=> z3p (0≤i∧i < n)
        (match x with
        | .pt b off=> .ret ⟨.pt b (off+i.toNat*ei.size),h,[],[]⟩
        | .ip cs=> .ret ⟨.ip (cs.drop (i.toNat*ei.size)),h,[],[]⟩
        | _=> .stop)
     | none=> .stop
   | .slice e=> match V.ti e with
     | some ei=>
       match x with
       | .rf b z off n=> z3p (0≤i∧i < n) (if z=ei.size then .ret ⟨.pt b (off+i.toNat*z),h,[],[]⟩ else .stop)
       | .sl n cs=> z3p (0≤i∧i < n) (.ret ⟨.ip (cs.drop (i.toNat*ei.size)),h,[],[]⟩)
       | _=> .stop
     | none=> .stop
   | _=> .stop
 | _,_=> .stop
def zrq (V:View) (h:AH) (t:TypeId) (a v:AV):F OR:=
 match V.ti t,a,z4o v with
 | some ti,.pt b off,some vs=>
   match h.wcells b with
   | some cs=> z3p (vs.length=ti.size∧off+vs.length≤cs.length) (z59 (over cs off vs) fun cs'=> .ret ⟨.top,h.put b (.cells cs'),[b],[b]⟩)
   | none=> .stop
 | _,_,_=> .stop
def zz4 (V:View) (h:AH) (t:TypeId) (l c:AV):F OR:=
 match V.ti t,l,c with
 | some ti,.i n,.i m=> match ti.k with
   | .slice e=> match V.ti e with
     | some ei=> z3p (n=m∧0≤n∧n≤4294967296) (if ei.bytes≤4096∧ei.zero.length=ei.size∧0 < ei.size then
        .ret ⟨.rf h.nx ei.size 0 n.toNat,h.new (.cells (zct n.toNat ei.zero)),[],[h.nx]⟩ else .stop)
     | none=> .stop
   | _=> .stop
 | _,_,_=> .stop
def zzb (V:View) (h:AH) (t:TypeId) (d x:AV):F OR:=
 match V.ti t with
 | some ti=> match ti.k with
   | .slice e=> match V.ti e with
     | some ei=>
       slF h ei.size x fun r=>
        match d with
        | .rf b z off m=> match h.wcells b with
          | some cs=> z3p (off+m*z≤cs.length) (if z=ei.size then z59 (over cs off (r.2.1.take (min r.1 m*z))) fun cs'=> .ret ⟨.i (min r.1 m:Nat),h.put b (.cells cs'),b::r.2.2,[b]⟩ else .stop)
          | none=> .stop
        | _=> .stop
     | none=> .stop
   | _=> .stop
 | none=> .stop
def zt7 (V:View) (h:AH) (op:BinOp) (t:TypeId) (a b:List AV):F OR:=
 match z53 V.P 8 t with
 | some s=> z3p (a.length=s∧b.length=s) (if V.P.eqGuardType V.P.depth t=false∧(V.P.underlying t).map z2i=some true then
    .ask (.eqc a b) fun
    | .truth r=> match op with
      | .eql=> .ret ⟨.b r,h,[],[]⟩
      | .neq=> .ret ⟨.b !r,h,[],[]⟩
      | _=> .stop
    | .auto=> match op,z0n a b with
      | .eql,some r=> .ret ⟨.b r,h,[],[]⟩
      | .neq,some r=> .ret ⟨.b !r,h,[],[]⟩
      | _,_=> .stop
    | _=> .stop
   else .stop)
 | none=> match ze3 V.P t with
   | some s=> z3p (a.length=s∧b.length=s) (if V.P.eqGuardType V.P.depth t=false then
     .ask (.eqb a b) fun
     | .truth r=> match op with
       | .eql=> .ret ⟨.b r,h,[],[]⟩
       | .neq=> .ret ⟨.b !r,h,[],[]⟩
       | _=> .stop
     | _=> .stop
     else .stop)
   | none=> .stop
def isAg:AV→Bool | .ag _=> true | _=> false
def glue (a b c:List AV):List AV:=match a,c with | a,[]=> a++b | a,c=> a++(b++c)
theorem y12 (a b c:List AV):glue a b c=a++(b++c):=by
 unfold glue
 split
 · simp
 · rfl
def zfv {α:Type} (places:Nat→Option (Nat×Nat)):List AV→List (Nat×AV)→(List AV→F α)→F α
 | cells,[],k=> k cells
 | cells,(i,v)::rest,k=>
   match places i,v with
   | some (off,size),.ag vs=> zen off fun off=> zen size fun size=> z3p (vs.length=size∧off+vs.length≤cells.length) (z59 vs fun vs'=> zfv places (glue (cells.take off) vs' (cells.drop (off+size))) rest k)
   | some (off,size),v=> zen off fun off=> match z4o v with
     | some [u]=> if 1=size∧off+1≤cells.length then zfv places (cells.set off u) rest k else .stop
     | _=> .stop
   | none,_=> .stop
def zt0 (V:View) (h:AH) (T:Tm) (t:TypeId) (parts:List (Nat×Operand)):F OR:=
 match V.ti t with
 | some ti=> match ti.k with
   | .struct fs=> zfv (fun i=> (fs[i]?).map fun f=> (f.1,f.2.1)) ti.zero (parts.map fun p=> (p.1,ev T p.2)) fun cs=> z59 cs fun cs=> .ret ⟨.ag cs,h,[],[]⟩
   | .array _ e=> match V.ti e with
     | some ei=> zfv (fun i=> some (i*ei.size,ei.size)) ti.zero (parts.map fun p=> (p.1,ev T p.2)) fun cs=> z59 cs fun cs=> .ret ⟨.ag cs,h,[],[]⟩
     | none=> .stop
   | _=> .stop
 | none=> .stop
def zhz (V:View) (h:AH) (T:Tm) (t:TypeId) (len:Nat) (parts:List (Nat×Operand)):F OR:=
 match V.ti t with
 | some ti=> match ti.k with
   | .slice e=> match V.ti e with
     | some ei=> if len*ei.size≤16777216∧ei.zero.length=ei.size∧0 < ei.size∧len≠0 then
        zfv (fun i=> some (i*ei.size,ei.size)) (zct len ei.zero) (parts.map fun p=> (p.1,ev T p.2)) fun cs=> z59 cs fun cs=> .ret ⟨.rf h.nx ei.size 0 len,h.new (.cells cs),[],[h.nx]⟩
       else .stop
     | none=> .stop
   | _=> .stop
 | none=> .stop
def zm5 (V:View) (h:AH) (arr:TypeId) (x:AV):F OR:=
 match V.ti arr with
 | some ti=> match ti.k,x with
   | .array n _,.sl m cs=> z3p (n≤m∧0 < n) (.ret ⟨.ip cs,h,[],[]⟩)
   | .array n _,.rf b _ off m=> z3p (n≤m∧0 < n) (.ret ⟨.pt b off,h,[],[]⟩)
   | _,_=> .stop
 | none=> .stop
def zsc (V:View) (h:AH) (s:TypeId) (cs:List AV) (f:Nat):F OR:=
 match V.ti s with
 | some ti=> match ti.k with
   | .struct fs=> match fs[f]? with
     | some (off,sz,ag)=> z3p (off+sz≤cs.length) (match ag with
       | true=> z59 ((cs.drop off).take sz) fun cs=> .ret ⟨.ag cs,h,[],[]⟩
       | false=> zh6 ((cs.drop off).take sz) fun c=> .ret ⟨c,h,[],[]⟩)
     | none=> .stop
   | _=> .stop
 | none=> .stop
/-! An index, a key of a table: told apart, one by one. -/
def zjb {α:Type} (i:Int) (k:Nat→F α):Nat→Nat→F α
 | 0,_=> .stop
 | n+1,j=> .ask (.bit (decide (i=(j:Int)))) fun
   | .yes=> k j
   | .no=> zjb i k n (j+1)
   | .auto=> bif decide (i=(j:Int)) then k j else zjb i k n (j+1)
   | _=> .stop
def zh7 {α:Type} (n:Int) (k:Option AV→F α):List (AV×AV)→F α
 | []=> k none
 | (.i a,v)::r=> .ask (.bit (decide (a=n))) fun
   | .yes=> k (some v)
   | .no=> zh7 n k r
   | .auto=> bif decide (a=n) then k (some v) else zh7 n k r
   | _=> .stop
 | _::_=> .stop
def zrv (V:View) (h:AH) (t:TypeId) (x ix:AV):F OR:=
 match V.ti t,isI ix with
 | some ti,some i=> match ti.k,x with
   | .array n e,.ag cs=> match V.ti e with
     | some ei=> if n≤16 then zjb i (fun j=> z3p (0≤i∧i < n) (if j*ei.size+ei.size≤cs.length then
        zgw ((cs.drop (j*ei.size)).take ei.size) fun c=> F.of (match zao ei.agg c with | some v=> g9 h v | none=> none)
        else .stop)) n 0
       else F.of (if 0≤i∧i < n∧i.toNat*ei.size+ei.size≤cs.length then
        match zao ei.agg ((cs.drop (i.toNat*ei.size)).take ei.size) with | some v=> g9 h v | none=> none
        else none)
     | none=> .stop
   | _,_=> .stop
 | _,_=> .stop
def zmi (V:View) (h:AH) (t:TypeId) (x ix:AV) (ok:Bool):F OR:=
 match V.ti t,x,ix with
 | some ti,.mp b,.i n=> match ti.k,h.get b with
   | .map kt et,some (.map es)=> match V.ti kt,V.ti et with
     | some ki,some ei=> match ki.k with
       | .int .i64=> zh7 n (fun r=> match r with
          | some v=> .ret ⟨if ok then .tu [v,.b true] else v,h,[b],[]⟩
          | none=> .ret ⟨if ok then .tu [ei.zv,.b false] else ei.zv,h,[b],[]⟩) es
       | _=> .stop
     | _,_=> .stop
   | _,_=> .stop
 | _,_,_=> .stop
def divF (h:AH) (op:BinOp) (a b:Int):F OR:=z3p ((b==0)=false) (.ret ⟨.i (match op with | .quo=> IntKind.i64.wrap (a.tdiv b) | _=> a.tmod b),h,[],[]⟩)
def y1n (op:BinOp):Bool:=match op with | .quo | .rem=> true | _=> false
def opF (V:View) (h:AH) (T:Tm):Op→Option (F OR)
 | .load t a=> some (zxe V h t (ev T a))
 | .store t a x=> some (zrq V h t (ev T a) (ev T x))
 | .convert s d x=> some (zzp V h s d (ev T x))
 | .slice t x lo hi mx=> some (zsm V h t (ev T x) (lo.map (ev T)) (hi.map (ev T)) (mx.map (ev T)))
 | .indexAddr t x ix=> some (idxF V h t (ev T x) (ev T ix))
 | .index t x ix=> some (zrv V h t (ev T x) (ev T ix))
 | .lookup t x ix ok=> some (zmi V h t (ev T x) (ev T ix) ok)
 | .makeSlice t l c=> some (zz4 V h t (ev T l) (ev T c))
 | .binOp op t x y _=> match ev T x,ev T y with
   | .ag a,.ag b=> some (zt7 V h op t a b)
   | .i a,.i b=> match y1n op with | true=> some (divF h op a b) | false=> none
   | _,_=> none
 | .build t parts=> match parts.toList.any fun p=> isAg (ev T p.2) with
   | true=> some (zt0 V h T t parts.toList)
   | false=> none
 | .buildSlice t len parts=> match parts.toList.any fun p=> isAg (ev T p.2) with
   | true=> some (zhz V h T t len parts.toList)
   | false=> none
 | .sliceToArrayPointer arr x=> some (zm5 V h arr (ev T x))
 | .field s x f=> match ev T x with
   | .ag cs=> some (zsc V h s cs f)
   | _=> none
 | .call c=> match c.callee,c.args.toList.map (ev T) with
   | .builtin .append,[s,x]=> match c.argTypes[0]? with | some t=> some (znn V h t c.argTypes[1]? s x) | none=> none
   | .builtin .copy,[d,x]=> match c.argTypes[0]? with | some t=> some (zzb V h t d x) | none=> none
   | _,_=> none
 | _=> none
/-! Values without blocks of the call's own, asked for. -/
def zql {α:Type} (f:AV→(AV×List Nat→F α)→F α):List AV→(List AV×List Nat→F α)→F α
 | [],k=> k ([],[])
 | v::r,k=> f v fun a=> zql f r fun b=> k (a.1::b.1,a.2++b.2)
def zmu {α:Type} (h:AH) (fr:Bool) (j:Nat) (cs:List AV) (k:List AV×List Nat→F α):F α:=.ask (.pur h fr j cs) fun
 | .cells cs'=> k (cs',[])
 | .cellsb cs' bs=> k (cs',bs)
 | .yes=> k (cs,[])
 | .auto=> match z0b (t7 h fr j) cs with | some r=> k r | none=> .stop
 | _=> .stop
def za7 {α:Type} (h:AH) (fr:Bool):Nat→AV→(AV×List Nat→F α)→F α
 | 0,_,_=> .stop
 | j+1,v,k=>
   match v with
   | .sl n cs=> bif fr then z3p (n=0) (k (.sl n cs,[])) else k (.sl n cs,[])
   | .rf b z off n=> slF h z (.rf b z off n) fun r=> zmu h fr j r.2.1 fun q=> k (.sl n q.1,b::q.2)
   | .ag xs=> zql (za7 h fr j) xs fun r=> k (.ag r.1,r.2)
   | .tu xs=> zql (za7 h fr j) xs fun r=> k (.tu r.1,r.2)
   | v=> match t7 h fr (j+1) v with | some r=> k r | none=> .stop
def zcx {α:Type} (z:Nat) (h0 h1:AH) (fr:Bool) (h:AH) (v:AV) (k:AV×AH→F α):F α:=
 match v with
 | .rf b z off n=> match h0.cells b with
   | some cs=> z3p (off=0∧cs.length=n*z) (zmu h1 fr z1b cs fun r=> k (.rf h.nx z 0 n,h.new (.cells r.1)))
   | none=> .stop
 | .nl=> match z4v z h0 h1 fr h .nl with | some r=> k r | none=> .stop
 | .mp b=> match z4v z h0 h1 fr h (.mp b) with | some r=> k r | none=> .stop
 | v=> za7 h1 fr z1b v fun r=> k (r.1,h)
def zrs {α:Type} (h0 h1:AH) (fr:Bool):List Nat→AH→List AV→(List AV×AH→F α)→F α
 | _,h,[],k=> k ([],h)
 | zs,h,v::r,k=> zcx (zs.headD 0) h0 h1 fr h v fun a=> zrs h0 h1 fr zs.tail a.2 r fun b=> k (a.1::b.1,b.2)
def zi5 {α:Type} (zs:List Nat) (h0 h1:AH) (fr:Bool) (h:AH) (v:AV) (k:AV×AH→F α):F α:=
 match v with
 | .ag xs=> zrs h0 h1 fr zs h xs fun r=> k (.ag r.1,r.2)
 | v=> zcx (zs.headD 0) h0 h1 fr h v k
def zsn {α:Type} (h0 h1:AH) (fr:Bool):List (List Nat)→AH→List AV→(List AV×AH→F α)→F α
 | _,h,[],k=> k ([],h)
 | zss,h,v::r,k=> zi5 (zss.headD []) h0 h1 fr h v fun a=> zsn h0 h1 fr zss.tail a.2 r fun b=> k (a.1::b.1,b.2)
def zti {α:Type} (zss:List (List Nat)) (h0 h1:AH) (fr:Bool) (h:AH) (v:AV) (k:AV×AH→F α):F α:=
 match v with
 | .tu xs=> zsn h0 h1 fr zss h xs fun r=> k (.tu r.1,r.2)
 | v=> zi5 (zss.headD []) h0 h1 fr h v k
def zzf (fr:Bool) (th:Option (List (List Nat))) (h:AH) (rd:List Nat) (v:AV) (h1:AH):F CR:=
 let h':=if fr || rd.isEmpty then h else z3a h rd
 let wr:=if fr then [] else rd
 match th with
 | some zss=>
   match zpw h1 v with
   | some h2=> zti zss h1 h2 (fr && !rd.isEmpty) h' v fun r=> .ret ⟨r.1,r.2,some rd,some (wr++(List.range (r.2.nx - h'.nx)).map (h'.nx+·))⟩
   | none=> .stop
 | none=> za7 h1 (fr && !rd.isEmpty) z1b v fun r=> .ret ⟨r.1,h',some rd,some wr⟩
/-! A value told, its slices in blocks of one's own. -/
def zpt (z:Nat) (v:AV) (h:AH):AV×AH:=
 match v with
 | .sl n cs=> bif Nat.beq z 0 then (.sl n cs,h) else (.rf h.nx z 0 n,h.new (.cells cs))
 | v=> (v,h)
def zol:List Nat→List AV→AH→List AV×AH
 | _,[],h=> ([],h)
 | zs,v::r,h=> let a:=zpt (zs.headD 0) v h;let b:=zol zs.tail r a.2;(a.1::b.1,b.2)
def zof (zs:List Nat) (v:AV) (h:AH):AV×AH:=
 match v with
 | .ag xs=> let r:=zol zs xs h;(.ag r.1,r.2)
 | v=> zpt (zs.headD 0) v h
def zpe:List (List Nat)→List AV→AH→List AV×AH
 | _,[],h=> ([],h)
 | zss,v::r,h=> let a:=zof (zss.headD []) v h;let b:=zpe zss.tail r a.2;(a.1::b.1,b.2)
def zml (zss:List (List Nat)) (v:AV) (h:AH):AV×AH:=
 match v with
 | .tu xs=> let r:=zpe zss xs h;(.tu r.1,r.2)
 | v=> zof (zss.headD []) v h
def zq0 {α:Type} (V:View) (T:Tm) (h:AH):List ResultVar→(List AV→F α)→F α
 | [],k=> k []
 | .tmp t::r,k=> zq0 V T h r fun vs=> k (T.get t::vs)
 | .cell a t::r,k=> match V.ti t with
   | some ti=> if ti.size=0 then .stop else
     match ti.agg,T.get a with
     | true,.pt b off=> match h.cells b with
       | some cs=> z3p (off+ti.size≤cs.length) (z59 ((cs.drop off).take ti.size) fun cs=> zq0 V T h r fun vs=> k (.ag cs::vs))
       | none=> .stop
     | ag,a=> match z2v h a ti.size with
       | some (cs,_)=> match zfd ti cs with
         | some v=> zq0 V T h r fun vs=> k (v::vs)
         | none=> .stop
       | none=> .stop
   | none=> .stop
def zcr (V:View) (rec:z9v) (f:FuncId) (args:List AV) (h:AH):F (AV×AH):=
 match V.fa f with
 | some af=> (rec af.body ⟨zkc 0 args,max af.nt args.length,h,false⟩).bind fun x=>
   match x.1 with
   | .normal | .ret=> zq0 V x.2.T x.2.H af.res fun vs=> .ret (zor vs,x.2.H)
   | _=> .stop
 | none=> .stop
def zsj (rec:z9v) (b:Nat) (args:List AV) (h:AH):F (AV×AH):=
 match z3b h b with
 | some (.ready,_,T,n,ps,asg,body)=>
   if args.length=ps.length∧ps.all (· < n) then
    (rec asg ⟨z7d T ps args,n,h,true⟩).bind fun x=>
      match x.1 with
      | .normal=> match z3b x.2.H b with
        | some (.ready,p2,T2,n2,ps2,a2,c2)=>
          (F.ask (.body body {x.2 with H:=x.2.H.put b (.loop .busy p2 T2 n2 ps2 a2 c2)}) fun
            | .res e st'=> .ret (e,st')
            | .auto=> rec body {x.2 with H:=x.2.H.put b (.loop .busy p2 T2 n2 ps2 a2 c2)}
            | _=> .stop).bind fun y=>
            match z3b y.2.H b with
            | some (_,_,T3,n3,ps3,a3,c3)=> .ret (.b (z5i y.1).isNone,y.2.H.put b (.loop (if (z5i y.1).isNone then .ready else .done) (z5i y.1) T3 n3 ps3 a3 c3))
            | none=> .stop
        | _=> .stop
      | _=> .stop
   else .stop
 | _=> .stop
def delC (z i:Nat) (cs:List AV):List AV:=cs.take (i*z)++cs.drop ((i+1)*z)
def zz1 (V:View) (cf:Cfg) (rec:z9v) (f:AV) (args:List AV) (h:AH):F CR:=
 match f with
 | .fn f cap=>
   match z6o cf.clone f with
   | some (z,w)=>
     match args with
     | [x]=> slF h z x fun r=> z3p (r.1≤4294967296) (if w≤4096∧0 < z∧cap.isEmpty=true then .ret ⟨.rf h.nx z 0 r.1,h.new (.cells r.2.1),some r.2.2,some [h.nx]⟩ else .stop)
     | [.rf b z' off n,.i i,.i j]=> match h.wcells b with
       | some cs=> if (w==5000 && z'==z && decide (0 < z) && off==0 && cap.isEmpty)=true then
          z3p (n≤4294967296) (z3p (cs.length=n*z) (z3p (0≤i∧i < n) (z3p (j=i+1) (z59 (delC z i.toNat cs) fun cs'=>
           .ret ⟨.rf b z 0 (n - 1),h.put b (.cells cs'),some [b],some [b]⟩))))
         else .stop
       | none=> .stop
     | _=> .stop
   | none=>
   if !cap.isEmpty || cf.inl.contains f then (zcr V rec f (args++cap) h).bind fun x=> .ret ⟨x.1,x.2,none,none⟩
   else
    zql (za7 h false z1b) args fun q=> .ask (.efun f q.1 (!cf.move.contains f && !q.2.isEmpty)) fun
     | .fres v=> match zev cf.thaw f with
       | some zss=>
         let h':=if !cf.move.contains f || q.2.isEmpty then h else z3a h q.2
         let r:=zml zss v h'
         .ret ⟨r.1,r.2,some q.2,some ((if !cf.move.contains f then [] else q.2)++(List.range (r.2.nx - h'.nx)).map (h'.nx+·))⟩
       | none=> .ret ⟨v,if !cf.move.contains f || q.2.isEmpty then h else z3a h q.2,some q.2,some (if !cf.move.contains f then [] else q.2)⟩
     | .auto=> (zcr V rec f q.1 AH.empty).bind fun x=> zzf (!cf.move.contains f) (zev cf.thaw f) h q.2 x.1 x.2
     | _=> .stop
 | .yl b=> (zsj rec b args h).bind fun x=> .ret ⟨x.1,x.2,none,none⟩
 | _=> .stop
def zz5 (V:View) (cf:Cfg) (rec:z9v) (f:AV) (args:List AV) (h:AH):F CR:=
 .ask (.call f args h) fun
  | .call r=> .ret r
  | .auto=> zz1 V cf rec f args h
  | _=> .stop
def zmy (V:View) (st:St) (op:Op):F CR:=
 match opF V st.H st.T op with
 | some m=> m.bind fun r=> .ret (zjh r)
 | none=> .ask (.op op st) fun
   | .op r=> .ret (zjh r)
   | .auto=> F.of ((opV V st.H st.T op).map zjh)
   | _=> .stop
def doF (V:View) (cf:Cfg) (rec:z9v) (op:Op) (st:St):F CR:=
 match op with
 | .call c=> match c.callee with
   | .value f=> zz5 V cf rec (ev st.T f) (c.args.toList.map (ev st.T)) st.H
   | _=> zmy V st (.call c)
 | .pick c a b=> match ev st.T c with
   | .b t=> .ask (.bit t) fun
     | .yes=> .ret (zjh ⟨ev st.T a,st.H,[],[]⟩)
     | .no=> .ret (zjh ⟨ev st.T b,st.H,[],[]⟩)
     | .auto=> .ret (zjh ⟨bif t then ev st.T a else ev st.T b,st.H,[],[]⟩)
     | _=> .stop
   | _=> .stop
 | op=> zmy V st op
def znm (ops:Array Oper) (T:Tm) (o:Oper):F Bool:=
 match o.guard with
 | none=> .ret true
 | some (j,w)=> match (ops[j]?).bind (·.dst) with
   | some d=> match T.get d with
     | .b x=> .ask (.bit x) fun
       | .yes=> .ret (true==w)
       | .no=> .ret (false==w)
       | .auto=> .ret (x==w)
       | _=> .stop
     | .tu []=> .ret false
     | _=> .stop
   | none=> .stop
def zyw (V:View) (cf:Cfg) (rec:z9v) (ops:Array Oper) (o:Oper) (st:St):F (St×Ft):=
 (znm ops st.T o).bind fun w=>
   bif w then (doF V cf rec o.op st).bind fun r=> zxx r.v fun v=> match zop {st with H:=r.h} o.dst v with
    | some s=> znj s fun s=> .ret (s,(r.rd,r.wr))
    | none=> .stop
   else match zop st o.dst (.tu []) with
    | some s=> znj s fun s=> .ret (s,(some [],some []))
    | none=> .stop
def opsF (V:View) (cf:Cfg) (rec:z9v) (ops:Array Oper):List Nat→St→F (St×List Ft)
 | [],st=> .ret (st,[])
 | i::r,st=> match ops[i]? with
   | some o=> (zyw V cf rec ops o st).bind fun x=> (opsF V cf rec ops r x.1).bind fun y=> .ret (y.1,x.2::y.2)
   | none=> .stop
def regF (V:View) (cf:Cfg) (rec:z9v) (ops:Array Oper) (draw:Bool) (st:St):F (AX×St):=
 (opsF V cf rec ops (List.range ops.size) st).bind fun x=>
   match draw with
   | false=> .ret (.normal,x.1)
   | true=> .ask (.ord ops x.2) fun
     | .yes=> .ret (.normal,x.1)
     | .auto=> if z9 ops=true∧w8 (Region.before ops) [] 0 x.2=true then .ret (.normal,x.1) else .stop
     | _=> .stop
def zme (rec:z9v) (body:Code):Nat→Code→St→F (AX×St)
 | 0,_,_=> .stop
 | k+1,c,st=> (rec c st).bind fun x=> match x.1 with
   | .goto l=> match findLabel body l with
     | some rest=> .ask (.scope body rest l x.2) fun
       | .head st'=> (rec rest st').bind fun y=> match y.1 with
         | .goto l'=> match findLabel body l' with
           | some _=> .stop
           | none=> .ret y
         | _=> .ret y
       | .auto=> zme rec body k rest x.2
       | _=> .stop
     | none=> .ret x
   | _=> .ret x
def zt9 (rec:z9v) (base:Nat) (body:Code):Nat→St→F (AX×St)
 | 0,_=> .stop
 | k+1,st=> (rec body st).bind fun x=> match x.1 with
   | .normal=> if base≤x.2.H.nx then zt9 rec base body k x.2 else .stop
   | _=> .ret x
def zzq (V:View) (cf:Cfg) (rec:z9v) (g:Operand) (ps:Array Tmp) (asg body:Code) (st:St):F (AX×St):=
 if st.q then .stop else
 match ev st.T g with
 | .fn f cap=>
   if zva V f then .stop else
   (zcr V rec f (.yl st.H.nx::cap) (st.H.new (.loop .ready none st.T st.n ps.toList asg body))).bind fun x=>
     match z3b x.2 st.H.nx with
     | some (s,p,T,n,qs,a,b)=>
       if s=.busy then .stop else F.of (zx4 {st with H:=x.2.put st.H.nx (.loop .exhausted p T n qs a b)} p)
     | none=> .stop
 | _=> .stop
def zwg (cf:Cfg) (i:Nat) (ops:Array Oper):Bool:=cf.jn.any fun x=> Nat.beq x.1 i && (Nat.beq x.2.1 ops.size && Nat.beq x.2.2 (ops.toList.filter fun o=> o.guard.isSome).length)
def z25 (V:View) (cf:Cfg):Nat→z9v
 | 0,_,_=> .stop
 | k+1,c,st=>
   match c with
   | .skip=> .ret (.normal,st)
   | .label _=> .ret (.normal,st)
   | .ret=> .ret (.ret,st)
   | .exit id=> .ret (.exit id,st)
   | .goto l=> .ret (.goto l,st)
   | .seq a b=> (z25 V cf k a st).bind fun x=> match x.1 with
     | .normal=> z25 V cf k b x.2
     | _=> .ret x
   | .cond c x y=> match ev st.T c with
     | .b t=> .ask (.bit t) fun
       | .yes=> z25 V cf k x st
       | .no=> z25 V cf k y st
       | .auto=> z25 V cf k (bif t then x else y) st
       | _=> .stop
     | _=> .stop
   | .block id c=> (z25 V cf k c st).bind fun x=> .ret (zjp id x.1,x.2)
   | .loop c=> .ask (.loop c st) fun
     | .res e st'=> .ret (e,st')
     | .head st'=> (z25 V cf k c st').bind fun x=> match x.1 with
       | .normal=> .stop
       | _=> .ret x
     | .auto=> zt9 (z25 V cf k) st.H.nx c k st
     | _=> .stop
   | .scope c=> zme (z25 V cf k) c k c st
   | .region i ops draw=> bif zwg cf i ops then .ask (.body (.region i ops draw) st) fun
      | .res e st'=> .ret (e,st')
      | .auto=> regF V cf (z25 V cf k) ops draw st
      | _=> .stop
     else regF V cf (z25 V cf k) ops draw st
   | .rangeFunc g ps asg body=> zzq V cf (z25 V cf k) g ps asg body st
   | .refuse _=> .stop
def z06 (P:Program) (cf:Cfg) (fr:Bool) (f:FuncId) (args:List AV) (v:AV):Prop:=∃v1 h1 bs,z4g P cf f args AH.empty (v1,h1)∧t7 h1 fr z1b v1=some (v,bs)
def zbz (P:Program) (cf:Cfg) (fr:Bool) (zss:List (List Nat)) (f:FuncId) (args:List AV) (v:AV):Prop:=
 ∀H,∃v1 h1 h2,z4g P cf f args AH.empty (v1,h1)∧zpw h1 v1=some h2∧thaw zss h1 h2 fr H v1=some (zml zss v H)
def funO (V:View) (cf:Cfg) (k:Nat) (fr:Bool) (zss:List (List Nat)) (f:FuncId) (args:List AV) (H:AH):F (AV×AH):=
 (zcr V (z25 V cf k) f args AH.empty).bind fun x=> match zpw x.2 x.1 with
   | some h2=> zti zss x.2 h2 fr H x.1 fun r=> .ret r
   | none=> .stop
def funR (V:View) (cf:Cfg) (k:Nat) (fr:Bool) (f:FuncId) (args:List AV):F AV:=
 (zcr V (z25 V cf k) f args AH.empty).bind fun x=> za7 x.2 fr z1b x.1 fun r=> .ret r.1
/-! ### Run on answers -/
def z1n (P:Program) (cf:Cfg):Q→Hint→List Prop
 | .bit b,.yes=> [b=true]
 | .bit b,.no=> [b=false]
 | .op o st,.op r=> [aOp P st.H st.T o=some r]
 | .call f args h,.call r=> [z2f P cf f args h r]
 | .loop c st,.res e st'=> [zsi P cf c st (e,st')]
 | .body c st,.res e st'=> [Ev P cf c st (e,st')]
 | .scope body c l st,.head st'=> [z9u P cf body c st st']
 | .loop c st,.head st'=> [x4 P cf c st st']
 | .prop p,.yes=> [p]
 | .one cs,.val c=> [cs=[c]]
 | .bytes cs,.str l=> [g0 cs=some l]
 | .pur h fr k cs,.cells cs'=> [z0b (t7 h fr k) cs=some (cs',[])]
 | .pur h fr k cs,.cellsb cs' bs=> [z0b (t7 h fr k) cs=some (cs',bs)]
 | .pur h fr k cs,.yes=> match k with | 0=> [False] | _+1=> [Pl fr cs]
 | .efun f args fr,.fres v=> match zev cf.thaw f with
   | some zss=> [zbz P cf fr zss f args v]
   | none=> [z06 P cf fr f args v]
 | .lst cs,.cells cs'=> [cs=cs']
 | .eqc a b,.truth r=> [z0n a b=some r]
 | .eqb a b,.truth r=> [ze2 a b=some r]
 | .ord ops fts,.yes=> [z9 ops=true∧w8 (Region.before ops) [] 0 fts=true]
 | _,_=> []
def exec {α:Type} (P:Program) (cf:Cfg):F α→List Hint→Option (α×List Prop×List Hint)
 | .ret a,hs=> some (a,[],hs)
 | .ask q k,hs=> match hs with
   | h::hs=> match exec P cf (k h) hs with
     | some (a,ps,r)=> some (a,z1n P cf q h++ps,r)
     | none=> none
   | []=> none
 | .stop,_=> none
def All:List Prop→Prop
 | []=> True
 | p::ps=> p∧All ps
theorem zho {a b:List Prop}:All (a++b)↔All a∧All b:=by
 induction a with
 | nil=> simp [All]
 | cons p a ih=> simp [All,ih,and_assoc]
section
variable {P : Program} {cf : Cfg}
def Ok {α:Type} (P:Program) (cf:Cfg) (m:F α) (R:α→Prop):Prop:=∀hs x ps r,exec P cf m hs=some (x,ps,r)→All ps→R x
theorem Ok.ret {α:Type} {a:α} {R:α→Prop} (h:R a):Ok P cf (.ret a) R:=by
 intro hs x ps r e _
 simp only [exec,Option.some.injEq,Prod.mk.injEq] at e
 obtain ⟨rfl,_,_⟩:=e
 exact h
theorem Ok.stop {α:Type} {R:α→Prop}:Ok P cf (.stop:F α) R:=fun hs x ps r e _=> by cases e
theorem Ok.of {α:Type} {o:Option α} {R:α→Prop} (h:∀a,o=some a→R a):Ok P cf (F.of o) R:=by
 cases o with
 | none=> exact Ok.stop
 | some a=> exact Ok.ret (h a rfl)
theorem Ok.ask {α:Type} {q:Q} {k:Hint→F α} {R:α→Prop} (h:∀hi,All (z1n P cf q hi)→Ok P cf (k hi) R):Ok P cf (.ask q k) R:=by
 intro hs x ps r e hp
 cases hs with
 | nil=> cases e
 | cons hi hs=>
   simp only [exec] at e
   split at e
   · rename_i a qs r' he
     simp only [Option.some.injEq,Prod.mk.injEq] at e
     obtain ⟨rfl,rfl,rfl⟩:=e
     rw [zho] at hp
     exact h hi hp.1 hs _ _ _ he hp.2
   · cases e
theorem Ok.bind {α β:Type} {m:F α} {f:α→F β} {R:α→Prop} {S:β→Prop} (hm:Ok P cf m R) (hf:∀x,R x→Ok P cf (f x) S):Ok P cf (m.bind f) S:=by
 induction m with
 | ret a=>
   have:R a:=hm [] a [] [] rfl trivial
   exact hf a this
 | stop=> exact Ok.stop
 | ask q k ih=>
   refine Ok.ask (k:=fun h=> (k h).bind f) fun hi hp=> ih hi ?_
   intro hs x ps r e hps
   exact hm (hi::hs) x (z1n P cf q hi++ps) r (by simp only [exec,e]) (zho.2 ⟨hp,hps⟩)
theorem z04 {α:Type} {p:Prop} [Decidable p] {m:F α} {R:α→Prop} (h:p→Ok P cf m R):Ok P cf (z3p p m) R:=by
 unfold z3p
 refine Ok.ask fun hi hp=> ?_
 cases hi <;> simp only [z1n,All] at hp⊢<;> first | exact Ok.stop | skip
 · split
   · rename_i hh;exact h hh
   · exact Ok.stop
 · exact h hp.1
theorem zfg {α:Type} {cs:List AV} {k:AV→F α} {R:α→Prop} (h:∀c,cs=[c]→Ok P cf (k c) R):Ok P cf (zh6 cs k) R:=by
 unfold zh6
 refine Ok.ask fun hi hp=> ?_
 cases hi <;> simp only [z1n,All] at hp⊢<;> first | exact Ok.stop | skip
 · split
   · exact h _ rfl
   · exact Ok.stop
 · exact h _ hp.1
theorem z1x {α:Type} {cs:List AV} {k:List AV→F α} {R:α→Prop} (h:Ok P cf (k cs) R):Ok P cf (z59 cs k) R:=by
 unfold z59
 refine Ok.ask fun hi hp=> ?_
 cases hi <;> simp only [z1n,All] at hp⊢<;> first | exact Ok.stop | skip
 · exact h
 · rw [←hp.1];exact h
 · rw [zes];exact h
theorem zpo {α:Type} {cs:List AV} {k:List UInt8→F α} {R:α→Prop} (h:∀l,g0 cs=some l→Ok P cf (k l) R):Ok P cf (zk0 cs k) R:=by
 unfold zk0
 refine Ok.ask fun hi hp=> ?_
 cases hi <;> simp only [z1n,All] at hp⊢<;> first | exact Ok.stop | skip
 · split
   · rename_i l hl;exact h _ hl
   · exact Ok.stop
 · exact h _ hp.1
theorem zjo {α:Type} {h:AH} {z:Nat} {v:AV} {k:Nat×List AV×List Nat→F α} {R:α→Prop} (hk:∀r,z0a h z v=some r→Ok P cf (k r) R):Ok P cf (slF h z v k) R:=by
 unfold slF
 split
 · exact hk _ rfl
 · rename_i n cs
   refine z04 fun hp=> hk _ ?_
   simp only [z0a];rw [if_pos hp]
 · rename_i b z' off n
   split
   · rename_i hz
     split
     · rename_i cs hcs
       have hgen:off+n*z≤cs.length→z0a h z (.rf b z' off n)=some (n,(cs.drop off).take (n*z),[b]):=by
        intro hp
        simp only [z0a];rw [if_pos hz,hcs];simp only;rw [if_pos hp]
       refine Ok.ask fun hi hp=> ?_
       cases hi <;> simp only [z1n,All] at hp⊢<;> first | exact Ok.stop | skip
       · split
         · rename_i hh;exact hk _ (hgen hh)
         · exact Ok.stop
       · refine hk _ ?_
         rw [hgen (by omega),hp.1.1,←hp.1.2];simp
       · exact z04 fun hh=> hk _ (hgen hh)
     · exact Ok.stop
   · exact Ok.stop
 · exact Ok.stop
theorem zbw {α:Type} {lo:Option AV} {d:Nat} {k:Nat→F α} {R:α→Prop} (hk:∀n,bnd lo d=some n→Ok P cf (k n) R):Ok P cf (zou lo d k) R:=by
 unfold zou
 split
 · exact hk _ rfl
 · rename_i n
   refine z04 fun hp=> hk _ ?_
   simp only [bnd];rw [if_pos hp]
 · exact Ok.stop
theorem zrr {h:AH} {t:TypeId} {t1:Option TypeId} {s x:AV}:Ok P cf (znn (View.of P) h t t1 s x) (fun r=> z4z P h t t1 s x=some r):=by
 unfold znn
 split
 · rename_i ti ht
   split
   · rename_i e hk
     split
     · rename_i ei he
       split
       · exact Ok.stop
       · rename_i hno
         have hno:¬(zee P t1=false∨ei.zero.length≠ei.size):=hno
         have ht:u9 P t=some ti:=ht
         have he:u9 P e=some ei:=he
         refine zjo fun r hr=> ?_
         split
         · refine z04 fun h1=> ?_
           split
           · rename_i h2
             refine Ok.ret ?_
             simp only [z4z,ht,hk,he]
             rw [if_neg hno,hr]
             simp only
             rw [if_pos ⟨h1,h2.1,h2.2⟩]
           · exact Ok.stop
         · rename_i b z m
           split
           · rename_i old hold
             refine z04 fun h1=> ?_
             split
             · rename_i h2
               refine Ok.ret ?_
               simp only [z4z,ht,hk,he]
               rw [if_neg hno,hr]
               simp only [hold]
               rw [if_pos ⟨h2.1,h1.1,h1.2,h2.2.1,h2.2.2⟩]
             · exact Ok.stop
           · exact Ok.stop
         · exact Ok.stop
     · exact Ok.stop
   · exact Ok.stop
 · exact Ok.stop
theorem zyu {h:AH} {t:TypeId} {d x:AV}:Ok P cf (zzb (View.of P) h t d x) (fun r=> zje P h t d x=some r):=by
 unfold zzb
 split
 · rename_i ti ht
   split
   · rename_i e hk
     split
     · rename_i ei he
       have ht:u9 P t=some ti:=ht
       have he:u9 P e=some ei:=he
       refine zjo fun r hr=> ?_
       split
       · rename_i b z off m
         split
         · rename_i cs hcs
           refine z04 fun h1=> ?_
           split
           · rename_i h2
             refine z1x (Ok.ret ?_)
             obtain ⟨n,new,rd⟩:=r
             simp only [zje,ht,hk,he,hr,hcs]
             rw [if_pos ⟨h2,h1⟩]
           · exact Ok.stop
         · exact Ok.stop
       · exact Ok.stop
     · exact Ok.stop
   · exact Ok.stop
 · exact Ok.stop
theorem zyy {h:AH} {s d:TypeId} {x:AV}:Ok P cf (zzp (View.of P) h s d x) (fun r=> conv P h s d x=some r):=by
 unfold zzp
 split
 · rename_i si di hs hd
   have hs:u9 P _=some _:=hs
   have hd:u9 P _=some _:=hd
   split
   · rename_i e hk1 hk2
     split
     · rename_i ei he
       have he:u9 P _=some _:=he
       split
       · rename_i hu
         refine zjo fun r hr=> zpo fun l hl=> Ok.ret ?_
         obtain ⟨n,cs,rd⟩:=r
         simp only at hl
         simp only [conv,hs,hd,hk1,hk2,he,hu,hr,hl]
       · exact Ok.stop
     · exact Ok.stop
   · exact Ok.of fun a ha=> ha
 · exact Ok.stop
theorem zyr {h:AH} {T:Tm} {t:TypeId} {a:Operand}:Ok P cf (zxe (View.of P) h t (ev T a)) (fun r=> aOp P h T (.load t a)=some r):=by
 unfold zxe
 split
 · rename_i ti ht
   have ht:u9 P _=some _:=ht
   split
   · exact Ok.stop
   · rename_i hz
     generalize hx:ev T a=x
     have key:∀cs rd v,z2v h x ti.size=some (cs,rd)→zfd ti cs=some v→aOp P h T (.load t a)=some ⟨v,h,rd,[]⟩:=by
      intro cs rd v h1 h2
      simp only [aOp,ht,hx]
      rw [if_neg hz,h1]
      simp only [h2]
     split
     · rename_i b off
       split
       · rename_i cs hcs
         refine z04 fun hp=> ?_
         have hc:z2v h (.pt b off) ti.size=some ((cs.drop off).take ti.size,[b]):=by simp only [z2v,hcs];rw [if_pos hp]
         split
         · rename_i hag;exact z1x (Ok.ret (key _ _ _ hc (by unfold zfd;rw [if_pos hag])))
         · rename_i hag;exact zfg fun c he=> Ok.ret (key _ _ _ hc (by unfold zfd;rw [if_neg hag,he]))
       · exact Ok.stop
     · rename_i cs
       refine z04 fun hp=> ?_
       have hc:z2v h (.ip cs) ti.size=some (cs.take ti.size,[]):=by simp only [z2v];rw [if_pos hp]
       split
       · rename_i hag;exact z1x (Ok.ret (key _ _ _ hc (by unfold zfd;rw [if_pos hag])))
       · rename_i hag;exact zfg fun c he=> Ok.ret (key _ _ _ hc (by unfold zfd;rw [if_neg hag,he]))
     · exact Ok.stop
 · exact Ok.stop
theorem zvu {h:AH} {t:TypeId} {x:AV} {lo hi mx:Option AV}:Ok P cf (zsm (View.of P) h t x lo hi mx) (fun r=> z58 P h t x lo hi mx=some r):=by
 unfold zsm
 split
 · exact Ok.stop
 · rename_i ti ht
   have ht:u9 P _=some _:=ht
   split
   · rename_i e hk
     split
     · rename_i ei he
       have he:u9 P _=some _:=he
       split
       · exact Ok.of fun a ha=> ha
       · rename_i n cs
         refine zbw fun l hl=> zbw fun h' hh=> z04 fun hp=> Ok.ret ?_
         have hcut:zmo lo hi none n=some (l,h',false):=by
          have hb:bnd none n=some n:=rfl
          simp only [zmo,hl,hh,hb]
          rw [if_pos ⟨hp.1,hp.2.1,Nat.le_refl _,fun e=> by cases e⟩];rfl
         simp only [z58,ht,hk,he,hcut]
         rw [if_pos hp.2.2];rfl
       · rename_i b z off n
         refine zbw fun l hl=> zbw fun h' hh=> z04 fun hp=> ?_
         have hcut:zmo lo hi none n=some (l,h',false):=by
          have hb:bnd none n=some n:=rfl
          simp only [zmo,hl,hh,hb]
          rw [if_pos ⟨hp.1,hp.2,Nat.le_refl _,fun e=> by cases e⟩];rfl
         split
         · rename_i hz
           refine Ok.ret ?_
           simp only [z58,ht,hk,he,hcut]
           rw [if_pos hz];rfl
         · exact Ok.stop
       · exact Ok.stop
     · exact Ok.of fun a ha=> ha
   · rename_i n e hk
     split
     · rename_i ei he
       have he:u9 P _=some _:=he
       refine zbw fun l hl=> zbw fun h' hh=> ?_
       split
       · rename_i b off
         split
         · rename_i cs hcs
           refine z04 fun hp=> ?_
           split
           · rename_i hz
             refine Ok.ret ?_
             simp only [z58,ht,hk,he,hl,hh,hcs]
             rw [if_pos ⟨hp.1,hp.2.1,rfl⟩,if_pos ⟨hp.2.2,hz⟩]
           · exact Ok.stop
         · exact Ok.stop
       · rename_i cs
         refine z04 fun hp=> z1x (Ok.ret ?_)
         simp only [z58,ht,hk,he,hl,hh]
         rw [if_pos ⟨hp.1,hp.2.1,rfl⟩,if_pos hp.2.2];rfl
       · exact Ok.stop
     · exact Ok.of fun a ha=> ha
   · exact Ok.of fun a ha=> ha
theorem y0r {h:AH} {t:TypeId} {x ix:AV}:Ok P cf (idxF (View.of P) h t x ix) (fun r=> z5v P h t x ix=some r):=by
 unfold idxF
 split
 · rename_i ti i ht hi
   have ht:u9 P _=some _:=ht
   split
   · rename_i n e hk
     split
     · rename_i ei he
       have he:u9 P _=some _:=he
       refine z04 fun hp=> ?_
       split
       · refine Ok.ret ?_;simp only [z5v,ht,hi,hk,he];rw [if_pos hp];rfl
       · refine Ok.ret ?_;simp only [z5v,ht,hi,hk,he];rw [if_pos hp];rfl
       · exact Ok.stop
     · exact Ok.stop
   · rename_i e hk
     split
     · rename_i ei he
       have he:u9 P _=some _:=he
       split
       · refine z04 fun hp=> ?_
         split
         · rename_i hz;refine Ok.ret ?_;simp only [z5v,ht,hi,hk,he];rw [if_pos ⟨hp.1,hp.2,hz⟩];rfl
         · exact Ok.stop
       · refine z04 fun hp=> Ok.ret ?_;simp only [z5v,ht,hi,hk,he];rw [if_pos hp];rfl
       · exact Ok.stop
     · exact Ok.stop
   · exact Ok.stop
 · exact Ok.stop
theorem zvd {h:AH} {T:Tm} {t:TypeId} {a x:Operand}:Ok P cf (zrq (View.of P) h t (ev T a) (ev T x)) (fun r=> aOp P h T (.store t a x)=some r):=by
 unfold zrq
 split
 · rename_i ti b off vs ht ha hv
   have ht:u9 P _=some _:=ht
   split
   · rename_i cs hcs
     refine z04 fun hp=> z1x (Ok.ret ?_)
     have:zdc P h t (ev T a) (ev T x)=(some (h.put b (.cells (over cs off vs))),[b]):=by
      simp only [zdc,ht,ha,hv,hcs];rw [if_pos hp]
     simp only [aOp,this]
   · exact Ok.stop
 · exact Ok.stop
theorem zyt {h:AH} {T:Tm} {t:TypeId} {l c:Operand}:Ok P cf (zz4 (View.of P) h t (ev T l) (ev T c)) (fun r=> aOp P h T (.makeSlice t l c)=some r):=by
 unfold zz4
 split
 · rename_i ti n m ht hl hc
   have ht:u9 P _=some _:=ht
   split
   · rename_i e hk
     split
     · rename_i ei he
       have he:u9 P _=some _:=he
       refine z04 fun hp=> ?_
       split
       · rename_i hq
         refine Ok.ret ?_
         simp only [aOp,ht,hl,hc,hk,he]
         rw [if_pos ⟨hp.1,hp.2.1,hp.2.2,hq.1,hq.2.1,hq.2.2⟩]
       · exact Ok.stop
     · exact Ok.stop
   · exact Ok.stop
 · exact Ok.stop
theorem zuc {h:AH} {T:Tm} {op:BinOp} {t t2:TypeId} {x y:Operand} {a b:List AV} (hx:ev T x=.ag a) (hy:ev T y=.ag b):Ok P cf (zt7 (View.of P) h op t a b) (fun r=> aOp P h T (.binOp op t x y t2)=some r):=by
 unfold zt7
 split
 · rename_i s hs
   have hs:z53 P 8 t=some s:=hs
   refine z04 fun hl=> ?_
   split
   · rename_i hg
     have hg:P.eqGuardType P.depth t=false∧(P.underlying t).map z2i=some true:=hg
     have key:∀r v,z0n a b=some r→(op=.eql∧v=AV.b r∨op=.neq∧v=AV.b !r)→aOp P h T (.binOp op t x y t2)=some ⟨v,h,[],[]⟩:=by
      intro r v he hv
      have hb:bin P op t (.ag a) (.ag b)=some v:=by
       simp only [bin,hs]
       rw [if_pos ⟨hl.1,hl.2,hg.1,hg.2⟩]
       rcases hv with ⟨rfl,rfl⟩ | ⟨rfl,rfl⟩ <;> simp only [he]
      simp only [aOp,hx,hy,hb,g9]
     refine Ok.ask fun hi hp=> ?_
     cases hi <;> simp only [z1n,All] at hp⊢<;> first | exact Ok.stop | skip
     · split
       · rename_i r he;exact Ok.ret (key r _ he (.inl ⟨rfl,rfl⟩))
       · rename_i r he;exact Ok.ret (key r _ he (.inr ⟨rfl,rfl⟩))
       · exact Ok.stop
     · split
       · exact Ok.ret (key _ _ hp.1 (.inl ⟨rfl,rfl⟩))
       · exact Ok.ret (key _ _ hp.1 (.inr ⟨rfl,rfl⟩))
       · exact Ok.stop
   · exact Ok.stop
 · rename_i hn
   have hn:z53 P 8 t=none:=hn
   split
   · rename_i s hs
     have hs:ze3 P t=some s:=hs
     refine z04 fun hl=> ?_
     split
     · rename_i hg
       have hg:P.eqGuardType P.depth t=false:=hg
       have key:∀r v,ze2 a b=some r→(op=.eql∧v=AV.b r∨op=.neq∧v=AV.b !r)→aOp P h T (.binOp op t x y t2)=some ⟨v,h,[],[]⟩:=by
        intro r v he hv
        have hb:bin P op t (.ag a) (.ag b)=some v:=by
         simp only [bin,hn,hs]
         rw [if_pos ⟨hl.1,hl.2,hg⟩]
         rcases hv with ⟨rfl,rfl⟩ | ⟨rfl,rfl⟩ <;> simp only [he]
        simp only [aOp,hx,hy,hb,g9]
       refine Ok.ask fun hi hp=> ?_
       cases hi <;> simp only [z1n,All] at hp⊢<;> first | exact Ok.stop | skip
       split
       · exact Ok.ret (key _ _ hp.1 (.inl ⟨rfl,rfl⟩))
       · exact Ok.ret (key _ _ hp.1 (.inr ⟨rfl,rfl⟩))
       · exact Ok.stop
     · exact Ok.stop
   · exact Ok.stop
theorem y0e {h:AH} {T:Tm} {op:BinOp} {t t2:TypeId} {x y:Operand} {a b:Int} (hx:ev T x=.i a) (hy:ev T y=.i b) (ho:y1n op=true):Ok P cf (divF h op a b) (fun r=> aOp P h T (.binOp op t x y t2)=some r):=by
 unfold divF
 refine z04 fun hb=> Ok.ret ?_
 cases op <;> first | (cases ho;done) | (simp only [aOp,hx,hy,bin,zio,if_neg (beq_eq_false_iff_ne.1 hb),ofInt,g9])
theorem zyh {cells:List AV} {off:Nat} {u:AV} (h:off+1≤cells.length):over cells off [u]=cells.set off u:=by
 rw [List.set_eq_take_append_cons_drop,if_pos (by omega)]
 simp [over]
theorem zb7 {α:Type} {places:Nat→Option (Nat×Nat)} {k:List AV→F α} {R:α→Prop}:∀(parts:List (Nat×AV)) (cells:List AV),(∀out,z7x places cells parts=some out→Ok P cf (k out) R)→Ok P cf (zfv places cells parts k) R
 | [],cells,hk=> by simp only [zfv];exact hk _ rfl
 | (i,v)::rest,cells,hk=> by
   simp only [zfv]
   split
   · rename_i off size vs hpl
     rw [zbx,zbx]
     refine z04 fun hp=> z1x (zb7 rest _ fun out ho=> hk _ ?_)
     simp only [z7x,hpl,z4o]
     rw [if_pos hp]
     have e:over cells off vs=cells.take off++(vs++cells.drop (off+size)):=by unfold over;rw [hp.1,List.append_assoc]
     rw [e,←y12];exact ho
   · rename_i off size hpl hv
     rw [zbx]
     split
     · rename_i u hvs
       split
       · rename_i hp
         refine zb7 rest _ fun out ho=> hk _ ?_
         simp only [z7x,hpl,hvs]
         rw [if_pos (by simpa using hp),zyh hp.2];exact ho
       · exact Ok.stop
     · exact Ok.stop
   · exact Ok.stop
theorem zw2 {h:AH} {T:Tm} {t:TypeId} {parts:Array (Nat×Operand)}:Ok P cf (zt0 (View.of P) h T t parts.toList) (fun r=> aOp P h T (.build t parts)=some r):=by
 unfold zt0
 split
 · rename_i ti ht
   have ht:u9 P _=some _:=ht
   split
   · rename_i fs hk
     refine zb7 _ _ fun out ho=> z1x (Ok.ret ?_)
     simp only [aOp,ht,hk,ho,g9]
   · rename_i n e hk
     split
     · rename_i ei he
       have he:u9 P _=some _:=he
       refine zb7 _ _ fun out ho=> z1x (Ok.ret ?_)
       simp only [aOp,ht,hk,he,ho,g9]
     · exact Ok.stop
   · exact Ok.stop
 · exact Ok.stop
theorem zqs {h:AH} {T:Tm} {t:TypeId} {len:Nat} {parts:Array (Nat×Operand)}:Ok P cf (zhz (View.of P) h T t len parts.toList) (fun r=> aOp P h T (.buildSlice t len parts)=some r):=by
 unfold zhz
 split
 · rename_i ti ht
   have ht:u9 P _=some _:=ht
   split
   · rename_i e hk
     split
     · rename_i ei he
       have he:u9 P _=some _:=he
       split
       · rename_i hc
         refine zb7 _ _ fun out ho=> z1x (Ok.ret ?_)
         simp only [aOp,ht,hk,he]
         rw [if_pos ⟨hc.1,hc.2.1,hc.2.2.1⟩,if_neg hc.2.2.2,ho]
       · exact Ok.stop
     · exact Ok.stop
   · exact Ok.stop
 · exact Ok.stop
theorem zs4 {h:AH} {T:Tm} {arr:TypeId} {x:Operand}:Ok P cf (zm5 (View.of P) h arr (ev T x)) (fun r=> aOp P h T (.sliceToArrayPointer arr x)=some r):=by
 unfold zm5
 split
 · rename_i ti ht
   have ht:u9 P _=some _:=ht
   split
   · rename_i n e m cs hk hx
     refine z04 fun hp=> Ok.ret ?_
     simp only [aOp,ht,hk,hx]
     rw [if_pos hp];rfl
   · rename_i n e b z off m hk hx
     refine z04 fun hp=> Ok.ret ?_
     simp only [aOp,ht,hk,hx]
     rw [if_pos hp];rfl
   · exact Ok.stop
 · exact Ok.stop
theorem zve {h:AH} {T:Tm} {s:TypeId} {x:Operand} {f:Nat} {cs:List AV} (hx:ev T x=.ag cs):Ok P cf (zsc (View.of P) h s cs f) (fun r=> aOp P h T (.field s x f)=some r):=by
 unfold zsc
 split
 · rename_i ti ht
   have ht:u9 P _=some _:=ht
   split
   · rename_i fs hk
     split
     · rename_i off sz ag hf
       refine z04 fun hp=> ?_
       split
       · refine z1x (Ok.ret ?_)
         simp only [aOp,ht,hk,hx,hf]
         rw [if_pos hp];rfl
       · refine zfg fun c hc=> Ok.ret ?_
         simp only [aOp,ht,hk,hx,hf]
         rw [if_pos hp,hc];rfl
     · exact Ok.stop
   · exact Ok.stop
 · exact Ok.stop
theorem zfb {α:Type} {i:Int} {k:Nat→F α} {R:α→Prop} (hk:∀j:Nat,i=(j:Int)→Ok P cf (k j) R):∀n j:Nat,Ok P cf (zjb i k n j) R
 | 0,j=> Ok.stop
 | n+1,j=> by
   rw [zjb]
   refine Ok.ask fun hi hp=> ?_
   cases hi <;> simp only [z1n,All] at hp⊢<;> first | exact Ok.stop | skip
   · cases h:decide (i=(j:Int)) with
     | true=> exact hk j (of_decide_eq_true h)
     | false=> exact zfb hk n (j+1)
   · exact hk j (of_decide_eq_true hp.1)
   · exact zfb hk n (j+1)
theorem zq4 {α:Type} {n:Int} {k:Option AV→F α} {R:α→Prop}:∀{es:List (AV×AV)},(∀r,zdm es n=some r→Ok P cf (k r) R)→Ok P cf (zh7 n k es) R
 | [],hk=> by rw [zh7];exact hk _ rfl
 | (a,v)::r,hk=> by
   cases a <;> simp only [zh7] <;> first | exact Ok.stop | skip
   rename_i a
   have h1:a=n→Ok P cf (k (some v)) R:=fun e=> hk _ (by simp only [zdm];rw [if_pos e])
   have h2:a≠n→Ok P cf (zh7 n k r) R:=fun e=> zq4 fun q hq=> hk q (by simp only [zdm];rw [if_neg e];exact hq)
   refine Ok.ask fun hi hp=> ?_
   cases hi <;> simp only [z1n,All] at hp⊢<;> first | exact Ok.stop | skip
   · cases h:decide (a=n) with
     | true=> exact h1 (of_decide_eq_true h)
     | false=> exact h2 (of_decide_eq_false h)
   · exact h1 (of_decide_eq_true hp.1)
   · exact h2 (of_decide_eq_false hp.1)
theorem zuz {h:AH} {T:Tm} {t:TypeId} {x ix:Operand}:Ok P cf (zrv (View.of P) h t (ev T x) (ev T ix)) (fun r=> aOp P h T (.index t x ix)=some r):=by
 simp only [aOp,zrv]
 show Ok P cf (match u9 P t,isI (ev T ix) with | some ti,some i=> _ | _,_=> _) _
 cases ht:u9 P t with
 | none=> exact Ok.stop
 | some ti=>
   cases hi:isI (ev T ix) with
   | none=> exact Ok.stop
   | some i=>
     simp only
     cases hk:ti.k <;> cases hx:ev T x <;> first | exact Ok.stop | skip
     rename_i n e cs
     simp only
     show Ok P cf (match u9 P e with | some ei=> _ | none=> _) _
     cases he:u9 P e with
     | none=> exact Ok.stop
     | some ei=>
       simp only
       split
       · refine zfb (fun j hj=> z04 fun hp=> ?_) _ _
         split
         · rename_i hc
           rw [zes]
           refine Ok.of fun a ha=> ?_
           have ej:i.toNat=j:=by omega
           rw [ej,if_pos ⟨hp.1,hp.2,hc⟩]
           exact ha
         · exact Ok.stop
       · exact Ok.of fun a ha=> ha
theorem zrk {h:AH} {T:Tm} {t:TypeId} {x ix:Operand} {ok:Bool}:Ok P cf (zmi (View.of P) h t (ev T x) (ev T ix) ok) (fun r=> aOp P h T (.lookup t x ix ok)=some r):=by
 simp only [aOp,zmi]
 show Ok P cf (match u9 P t,ev T x,ev T ix with | some ti,.mp b,.i n=> _ | _,_,_=> _) _
 cases ht:u9 P t with
 | none=> exact Ok.stop
 | some ti=>
   cases hx:ev T x <;> first | exact Ok.stop | skip
   rename_i b
   cases hi:ev T ix <;> first | exact Ok.stop | skip
   rename_i n
   simp only
   cases hk:ti.k <;> first | exact Ok.stop | skip
   rename_i kt et
   cases hb:h.get b with
   | none=> exact Ok.stop
   | some o=>
     cases o <;> first | exact Ok.stop | skip
     rename_i es
     simp only
     show Ok P cf (match u9 P kt,u9 P et with | some ki,some ei=> _ | _,_=> _) _
     cases h1:u9 P kt with
     | none=> exact Ok.stop
     | some ki=>
       cases h2:u9 P et with
       | none=> exact Ok.stop
       | some ei=>
         simp only
         cases h3:ki.k <;> first | exact Ok.stop | skip
         rename_i ik
         cases ik <;> first | exact Ok.stop | skip
         simp only
         refine zq4 fun r hr=> ?_
         rw [hr]
         cases r with
         | none=> exact Ok.ret (by simp only [h3])
         | some v=> exact Ok.ret (by simp only [h3])
theorem y20 {h:AH} {T:Tm} {op:Op} {m:F OR} (hm:opF (View.of P) h T op=some m):Ok P cf m (fun r=> aOp P h T op=some r):=by
 cases op <;> simp only [opF] at hm <;> first | (cases hm;done) | skip
 case load t a=> injection hm with hm;subst hm;exact zyr
 case store t a x=> injection hm with hm;subst hm;exact zvd
 case convert s d x=> injection hm with hm;subst hm;exact zyy
 case slice t x lo hi mx=> injection hm with hm;subst hm;exact zvu
 case indexAddr t x ix=> injection hm with hm;subst hm;exact y0r
 case index t x ix=> injection hm with hm;subst hm;exact zuz
 case lookup t x ix ok=> injection hm with hm;subst hm;exact zrk
 case makeSlice t l c=> injection hm with hm;subst hm;exact zyt
 case build t parts=>
  split at hm
  · injection hm with hm;subst hm;exact zw2
  · cases hm
 case buildSlice t len parts=>
  split at hm
  · injection hm with hm;subst hm;exact zqs
  · cases hm
 case sliceToArrayPointer arr x=> injection hm with hm;subst hm;exact zs4
 case field s x f=>
  split at hm
  · rename_i cs hx;injection hm with hm;subst hm;exact zve hx
  · cases hm
 case binOp op t x y t2=>
  split at hm
  · rename_i a b ha hb
    injection hm with hm;subst hm;exact zuc ha hb
  · rename_i a b ha hb
    split at hm
    · rename_i ho
      injection hm with hm;subst hm;exact y0e ha hb ho
    · cases hm
  · cases hm
 case call c=>
  split at hm
  · rename_i s x hc ha
    split at hm
    · rename_i t ht
      injection hm with hm;subst hm
      intro hs r ps q e hp
      have:=zrr hs r ps q e hp
      simp only [aOp,hc,ha,z51,ht]
      exact this
    · cases hm
  · rename_i d x hc ha
    split at hm
    · rename_i t ht
      injection hm with hm;subst hm
      intro hs r ps q e hp
      have:=zyu hs r ps q e hp
      simp only [aOp,hc,ha,z51,ht]
      exact this
    · cases hm
  · cases hm
theorem ze0 {α:Type} {f:AV→(AV×List Nat→F α)→F α} {g:AV→Option (AV×List Nat)} (hf:∀(v:AV) (k:AV×List Nat→F α) (R:α→Prop),(∀r,g v=some r→Ok P cf (k r) R)→Ok P cf (f v k) R):
 ∀(xs:List AV) (k:List AV×List Nat→F α) (R:α→Prop),(∀r,z0b g xs=some r→Ok P cf (k r) R)→Ok P cf (zql f xs k) R
 | [],k,R,hk=> hk _ rfl
 | v::xs,k,R,hk=> by
   refine hf v _ R fun a ha=> ze0 hf xs _ R fun b hb=> hk _ ?_
   obtain ⟨a1,a2⟩:=a
   obtain ⟨b1,b2⟩:=b
   simp only [z0b,ha,hb]
theorem zla {α:Type} {h:AH} {fr:Bool} {j:Nat} {cs:List AV} {k:List AV×List Nat→F α} {R:α→Prop} (hk:∀r,z0b (t7 h fr j) cs=some r→Ok P cf (k r) R):Ok P cf (zmu h fr j cs k) R:=by
 unfold zmu
 refine Ok.ask fun hi hp=> ?_
 cases hi <;> simp only [z1n,All] at hp⊢<;> first | exact Ok.stop | skip
 · split
   · rename_i r hr;exact hk _ hr
   · exact Ok.stop
 · cases j with
   | zero=> exact hp.1.elim
   | succ j=> exact hk _ (z4x _ _ _ _ hp.1)
 · exact hk _ hp.1
 · exact hk _ hp.1
theorem ze4 {α:Type} {h:AH} {fr:Bool}:∀(j:Nat) (v:AV) (k:AV×List Nat→F α) (R:α→Prop),(∀r,t7 h fr j v=some r→Ok P cf (k r) R)→Ok P cf (za7 h fr j v k) R:=by
 intro j
 induction j with
 | zero=> exact fun v k R hk=> Ok.stop
 | succ j ih=>
   intro v k R hk
   have hdef:Ok P cf (match t7 h fr (j+1) v with | some r=> k r | none=> .stop) R:=by
    split
    · rename_i r hr;exact hk _ hr
    · exact Ok.stop
   cases v with
   | sl n cs=>
     simp only [za7]
     cases fr with
     | true=>
       simp only [cond_true]
       refine z04 fun hp=> hk _ ?_
       simp only [t7];rw [if_neg (fun e=> e.2 hp)]
     | false=> exact hk _ (by simp [t7])
   | rf b z off n=>
     simp only [za7]
     refine zjo fun r hr=> zla fun q hq=> hk _ ?_
     simp only [z0a,if_true] at hr
     split at hr
     · rename_i cs hcs
       split at hr
       · rename_i hle
         injection hr with hr;subst hr
         simp only at hq
         simp only [t7,hcs]
         rw [if_pos hle,hq]
       · cases hr
     · cases hr
   | ag xs=>
     simp only [za7]
     exact ze0 ih xs _ R fun r hr=> hk _ (by simp only [t7,hr,Option.map_some])
   | tu xs=>
     simp only [za7]
     exact ze0 ih xs _ R fun r hr=> hk _ (by simp only [t7,hr,Option.map_some])
   | _=> exact hdef
theorem zkv {α:Type} {z:Nat} {h0 h1:AH} {fr:Bool} {h:AH} {v:AV} {k:AV×AH→F α} {R:α→Prop} (hk:∀r,z4v z h0 h1 fr h v=some r→Ok P cf (k r) R):Ok P cf (zcx z h0 h1 fr h v k) R:=by
 have hdef:(∀r,t7 h1 fr z1b v=some r→z4v z h0 h1 fr h v=some (r.1,h))→Ok P cf (za7 h1 fr z1b v fun r=> k (r.1,h)) R:=fun hh=> ze4 _ _ _ _ fun r hr=> hk _ (hh r hr)
 cases v with
 | rf b z off n=>
   simp only [zcx]
   split
   · rename_i cs hcs
     refine z04 fun hp=> zla fun q hq=> hk _ ?_
     obtain ⟨q1,q2⟩:=q
     simp only [z4v,hcs]
     rw [if_pos hp,hq]
   · exact Ok.stop
 | nl=>
   simp only [zcx]
   split
   · rename_i r hr;exact hk _ hr
   · exact Ok.stop
 | mp b=>
   simp only [zcx]
   split
   · rename_i r hr;exact hk _ hr
   · exact Ok.stop
 | _=> exact hdef (fun r hr=> by obtain ⟨r1,r2⟩:=r;simp only [z4v,hr])
theorem zln {α:Type} {h0 h1:AH} {fr:Bool} {R:α→Prop}:∀{zs:List Nat} {xs:List AV} {h:AH} {k:List AV×AH→F α},(∀r,z64 h0 h1 fr zs h xs=some r→Ok P cf (k r) R)→Ok P cf (zrs h0 h1 fr zs h xs k) R
 | _,[],h,k,hk=> hk _ rfl
 | zs,v::xs,h,k,hk=> by
   refine zkv fun a ha=> zln fun b hb=> hk _ ?_
   obtain ⟨a1,a2⟩:=a
   obtain ⟨b1,b2⟩:=b
   simp only at hb
   simp only [z64,ha,hb]
theorem zlz {α:Type} {zs:List Nat} {h0 h1:AH} {fr:Bool} {R:α→Prop} {h:AH} {v:AV} {k:AV×AH→F α} (hk:∀r,z5b zs h0 h1 fr h v=some r→Ok P cf (k r) R):Ok P cf (zi5 zs h0 h1 fr h v k) R:=by
 by_cases hag:∃xs,v=.ag xs
 · obtain ⟨xs,rfl⟩:=hag
   exact zln fun r hr=> hk _ (by simp only [z5b,hr,Option.map_some])
 · have e1:zi5 zs h0 h1 fr h v k=zcx (zs.headD 0) h0 h1 fr h v k:=by cases v <;> first | rfl | exact absurd ⟨_,rfl⟩ hag
   have e2:z5b zs h0 h1 fr h v=z4v (zs.headD 0) h0 h1 fr h v:=by cases v <;> first | rfl | exact absurd ⟨_,rfl⟩ hag
   rw [e1]
   exact zkv fun r hr=> hk _ (by rw [e2];exact hr)
theorem zlx {α:Type} {h0 h1:AH} {fr:Bool} {R:α→Prop}:∀{zss:List (List Nat)} {xs:List AV} {h:AH} {k:List AV×AH→F α},(∀r,z62 h0 h1 fr zss h xs=some r→Ok P cf (k r) R)→Ok P cf (zsn h0 h1 fr zss h xs k) R
 | _,[],h,k,hk=> hk _ rfl
 | zss,v::xs,h,k,hk=> by
   refine zlz fun a ha=> zlx fun b hb=> hk _ ?_
   obtain ⟨a1,a2⟩:=a
   obtain ⟨b1,b2⟩:=b
   simp only at hb
   simp only [z62,ha,hb]
theorem zot {α:Type} {zss:List (List Nat)} {h0 h1:AH} {fr:Bool} {R:α→Prop} {h:AH} {v:AV} {k:AV×AH→F α} (hk:∀r,thaw zss h0 h1 fr h v=some r→Ok P cf (k r) R):Ok P cf (zti zss h0 h1 fr h v k) R:=by
 by_cases htu:∃xs,v=.tu xs
 · obtain ⟨xs,rfl⟩:=htu
   exact zlx fun r hr=> hk _ (by simp only [thaw,hr,Option.map_some])
 · have e1:zti zss h0 h1 fr h v k=zi5 (zss.headD []) h0 h1 fr h v k:=by cases v <;> first | rfl | exact absurd ⟨_,rfl⟩ htu
   have e2:thaw zss h0 h1 fr h v=z5b (zss.headD []) h0 h1 fr h v:=by cases v <;> first | rfl | exact absurd ⟨_,rfl⟩ htu
   rw [e1]
   exact zlz fun r hr=> hk _ (by rw [e2];exact hr)
theorem zy3 {fr:Bool} {th:Option (List (List Nat))} {h h1:AH} {rd:List Nat} {v:AV}:Ok P cf (zzf fr th h rd v h1) (fun r=> z8r fr th h rd v h1=some r):=by
 unfold zzf
 cases th with
 | some zss=>
   simp only
   split
   · rename_i h2 hg
     refine zot fun r hr=> Ok.ret ?_
     obtain ⟨r1,r2⟩:=r
     simp only [z8r,hg,hr]
   · exact Ok.stop
 | none=>
   simp only
   refine ze4 _ _ _ _ fun r hr=> Ok.ret ?_
   obtain ⟨r1,r2⟩:=r
   simp only [z8r,hr]
def zi0 (P:Program) (cf:Cfg) (rec:z9v):Prop:=∀c st,Ok P cf (rec c st) (Ev P cf c st)
theorem zdi {α:Type} {T:Tm} {h:AH}:∀(l:List ResultVar) {k:List AV→F α} {R:α→Prop},(∀vs,zc1 P T h l=some vs→Ok P cf (k vs) R)→Ok P cf (zq0 (View.of P) T h l k) R
 | [],k,R,hk=> by simp only [zq0];exact hk _ rfl
 | .tmp t::r,k,R,hk=> by
   simp only [zq0]
   refine zdi r fun vs hv=> hk _ ?_
   simp only [zc1,hv]
 | .cell a t::r,k,R,hk=> by
   simp only [zq0]
   split
   · rename_i ti ht
     have ht:u9 P _=some _:=ht
     split
     · exact Ok.stop
     · rename_i hz
       have key:∀cs rd v vs,z2v h (T.get a) ti.size=some (cs,rd)→zfd ti cs=some v→zc1 P T h r=some vs→zc1 P T h (.cell a t::r)=some (v::vs):=by
        intro cs rd v vs h1 h2 h3
        simp only [zc1,ht]
        rw [if_neg hz,h1]
        simp only [h2,h3]
       split
       · rename_i b off hag ha
         split
         · rename_i cs hcs
           refine z04 fun hp=> z1x (zdi r fun vs hv=> hk _ (key ((cs.drop off).take ti.size) [b] _ _ ?_ ?_ hv))
           · rw [ha];simp only [z2v,hcs];rw [if_pos hp]
           · unfold zfd;rw [if_pos hag]
         · exact Ok.stop
       · split
         · rename_i cs rd hc
           split
           · rename_i v hv
             exact zdi r fun vs hvs=> hk _ (key _ _ _ _ hc hv hvs)
           · exact Ok.stop
         · exact Ok.stop
   · exact Ok.stop
theorem z9d {rec:z9v} (hrec:zi0 P cf rec) (f:FuncId) (args:List AV) (h:AH):Ok P cf (zcr (View.of P) rec f args h) (z4g P cf f args h):=by
 unfold zcr
 split
 · rename_i af haf
   refine Ok.bind (hrec _ _) fun x hx=> ?_
   obtain ⟨e,st⟩:=x
   cases e with
   | normal=>
     simp only
     exact zdi _ fun vs hvs=> Ok.ret (z4g.of haf hx (.inl rfl) hvs)
   | ret=>
     simp only
     exact zdi _ fun vs hvs=> Ok.ret (z4g.of haf hx (.inr rfl) hvs)
   | exit id=> exact Ok.stop
   | goto l=> exact Ok.stop
 · exact Ok.stop
theorem zvx {rec:z9v} (hrec:zi0 P cf rec) (b:Nat) (args:List AV) (h:AH):Ok P cf (zsj rec b args h) (zei P cf b args h):=by
 unfold zsj
 split
 · rename_i p0 T n ps asg body h1
   split
   · rename_i h2
     refine Ok.bind (hrec _ _) fun x hx=> ?_
     obtain ⟨e,st⟩:=x
     cases e with
     | normal=>
       simp only
       split
       · rename_i p2 T2 n2 ps2 a2 c2 h4
         refine Ok.bind (R:=Ev P cf body {st with H:=st.H.put b (.loop .busy p2 T2 n2 ps2 a2 c2)}) (Ok.ask fun hi hp=> ?_) fun y hy=> ?_
         · cases hi <;> simp only [z1n,All] at hp⊢<;> first | exact Ok.stop | skip
           · exact hrec _ _
           · exact Ok.ret hp.1
         obtain ⟨e',st'⟩:=y
         simp only
         split
         · rename_i s3 p3 T3 n3 ps3 a3 c3 h6
           exact Ok.ret (zei.of h1 h2 hx h4 hy h6)
         · exact Ok.stop
       · exact Ok.stop
     | _=> exact Ok.stop
   · exact Ok.stop
 · exact Ok.stop
theorem zxq {rec:z9v} (hrec:zi0 P cf rec) (f:AV) (args:List AV) (h:AH):Ok P cf (zz5 (View.of P) cf rec f args h) (z2f P cf f args h):=by
 unfold zz5
 refine Ok.ask fun hi hp=> ?_
 cases hi with
 | call r=> simp only [z1n,All] at hp;exact Ok.ret hp.1
 | auto=>
   simp only
   unfold zz1
   split
   · rename_i f cap
     split
     · rename_i z w hc
       split
       · rename_i x
         refine zjo fun r hs=> z04 fun h1=> ?_
         obtain ⟨n,cs,rd⟩:=r
         split
         · rename_i hb
           have:cap=[]:=by simpa using hb.2.2
           subst this
           exact Ok.ret (z2f.clone hc hs ⟨h1,hb.1,hb.2.1⟩)
         · exact Ok.stop
       · rename_i b z' off n i j
         split
         · rename_i cs hcs
           split
           · rename_i hb
             simp only [Bool.and_eq_true,beq_iff_eq,decide_eq_true_eq] at hb
             obtain ⟨⟨⟨⟨rfl,rfl⟩,g3⟩,rfl⟩,g5⟩:=hb
             have:cap=[]:=by simpa using g5
             subst this
             exact z04 fun h1=> z04 fun h2=> z04 fun h3=> z04 fun h4=> z1x (Ok.ret (z2f.del hc hcs ⟨g3,h1,h2,h3.1,h3.2,h4⟩))
           · exact Ok.stop
         · exact Ok.stop
       · exact Ok.stop
     · rename_i hno
       split
       · rename_i hi
         exact Ok.bind (z9d hrec _ _ _) fun x hx=> Ok.ret (z2f.own hno hi hx)
       · rename_i hi
         have hcap:cap=[]:=by
          cases cap with
          | nil=> rfl
          | cons _ _=> simp at hi
         subst hcap
         have hc:cf.inl.contains f=false:=by simpa using hi
         refine ze0 (g:=t7 h false z1b) (fun v k R hk=> ze4 _ _ _ _ hk) _ _ _ fun q hm=> ?_
         obtain ⟨pargs,rd⟩:=q
         refine Ok.ask fun hi' hp'=> ?_
         cases hi' <;> simp only [z1n,All] at hp'⊢<;> first | exact Ok.stop | skip
         · refine Ok.bind (z9d hrec _ _ _) fun x hx=> ?_
           intro hs r ps rest e hp
           exact z2f.pure hno hc hm hx (zy3 hs r ps rest e hp)
         · split
           · rename_i zss hth
             rw [hth] at hp'
             obtain ⟨v1,h1,h2,he,hg,hpv⟩:=hp'.1 (if (!cf.move.contains f || rd.isEmpty)=true then h else z3a h rd)
             refine Ok.ret (z2f.pure hno hc hm he ?_)
             rw [hth]
             simp only [z8r,hg,hpv]
           · rename_i hth
             rw [hth] at hp'
             obtain ⟨v1,h1,bs,he,hpv⟩:=hp'.1
             refine Ok.ret (z2f.pure hno hc hm he ?_)
             rw [hth]
             simp only [z8r,hpv]
   · exact Ok.bind (zvx hrec _ _ _) fun x hx=> Ok.ret (z2f.round hx)
   · exact Ok.stop
 | _=> exact Ok.stop
theorem y3n {rec:z9v} (hrec:zi0 P cf rec) (op:Op) (st:St):Ok P cf (doF (View.of P) cf rec op st) (zdo P cf op st):=by
 have hop:∀op:Op,Ok P cf (zmy (View.of P) st op) (zdo P cf op st):=by
  intro op
  unfold zmy
  split
  · rename_i m hm
    exact Ok.bind (y20 hm) fun r hr=> Ok.ret (zdo.op hr)
  refine Ok.ask fun hi hp=> ?_
  cases hi with
  | op r=> simp only [z1n,All] at hp;exact Ok.ret (zdo.op hp.1)
  | auto=>
    refine Ok.of fun r hr=> ?_
    cases hq:opV (View.of P) st.H st.T op with
    | none=> rw [hq] at hr;cases hr
    | some q=> rw [hq] at hr;simp only [Option.map_some,Option.some.injEq] at hr;subst hr;exact zdo.op (y2w hq)
  | _=> exact Ok.stop
 unfold doF
 split
 · rename_i c
   split
   · rename_i f hc
     intro hs x ps r e hp
     exact zdo.call hc (zxq hrec _ _ _ hs x ps r e hp)
   · exact hop _
 · rename_i c a b
   split
   · rename_i t ht
     have hp:aOp P st.H st.T (.pick c a b)=some ⟨bif t then ev st.T a else ev st.T b,st.H,[],[]⟩:=by simp only [aOp,ht,g9]
     refine Ok.ask fun hi hq=> ?_
     cases hi <;> simp only [z1n,All] at hq⊢<;> first | exact Ok.stop | skip
     · exact Ok.ret (zdo.op hp)
     · rw [hq.1] at hp;exact Ok.ret (zdo.op hp)
     · rw [hq.1] at hp;exact Ok.ret (zdo.op hp)
   · exact Ok.stop
 · exact hop _
theorem zrz {ops:Array Oper} {T:Tm} {o:Oper}:Ok P cf (znm ops T o) (fun b=> z5w ops T o=some b):=by
 unfold znm
 split
 · rename_i hg;exact Ok.ret (by simp only [z5w,hg])
 · rename_i j w hg
   split
   · rename_i d hd
     split
     · rename_i x hx
       have hw:z5w ops T o=some (x==w):=by simp only [z5w,hg,hd,hx]
       refine Ok.ask fun hi hp=> ?_
       cases hi <;> simp only [z1n,All] at hp⊢<;> first | exact Ok.stop | skip
       · exact Ok.ret hw
       · exact Ok.ret (by rw [hw,hp.1])
       · exact Ok.ret (by rw [hw,hp.1])
     · rename_i hx;exact Ok.ret (by simp only [z5w,hg,hd,hx])
     · exact Ok.stop
   · exact Ok.stop
theorem zzr {rec:z9v} (hrec:zi0 P cf rec) (ops:Array Oper) (o:Oper) (st:St):Ok P cf (zyw (View.of P) cf rec ops o st) (z6f P cf ops o st):=by
 unfold zyw
 refine Ok.bind zrz fun b hb=> ?_
 cases b with
 | true=>
   simp only [cond_true]
   refine Ok.bind (y3n hrec _ _) fun r hr=> ?_
   rw [zvy]
   split
   · rename_i s hs;rw [zlv];exact Ok.ret (z6f.run hb hr hs)
   · exact Ok.stop
 | false=>
   simp only [cond_false]
   split
   · rename_i s hs;rw [zlv];exact Ok.ret (z6f.skip hb hs)
   · exact Ok.stop
theorem zty {rec:z9v} (hrec:zi0 P cf rec) (ops:Array Oper):∀(l:List Nat) (st:St),Ok P cf (opsF (View.of P) cf rec ops l st) (z7h P cf ops l st)
 | [],st=> Ok.ret z7h.nil
 | i::l,st=> by
   unfold opsF
   split
   · rename_i o ho
     refine Ok.bind (zzr hrec _ _ _) fun x hx=> Ok.bind (zty hrec ops l _) fun y hy=> Ok.ret (z7h.cons ho hx hy)
   · exact Ok.stop
theorem zdt:∀k,zi0 P cf (z25 (View.of P) cf k)
 | 0=> fun c st=> Ok.stop
 | k+1=> by
   have ih:=zdt k
   have hloop:∀(c:Code) (j:Nat) (base:Nat) (st:St),base≤st.H.nx→Ok P cf (zt9 (z25 (View.of P) cf k) base c j st) (z3e P cf base c st):=by
    intro c j
    induction j with
    | zero=> exact fun base st _=> Ok.stop
    | succ j ihj=>
      intro base st hb
      unfold zt9
      refine Ok.bind (ih _ _) fun x hx=> ?_
      obtain ⟨e,st1⟩:=x
      cases e with
      | normal=>
        simp only
        split
        · rename_i hb1
          exact fun hs y ps r he hp=> z3e.step hx (z7f.refl hb1) (ihj base st1 hb1 hs y ps r he hp)
        · exact Ok.stop
      | _=> exact Ok.ret (z3e.stop (by simp) hb hx)
   have hscope:∀(body:Code) (j:Nat) (c:Code) (st:St),Ok P cf (zme (z25 (View.of P) cf k) body j c st) (z3c P cf body c st):=by
    intro body j
    induction j with
    | zero=> exact fun c st=> Ok.stop
    | succ j ihj=>
      intro c st
      unfold zme
      refine Ok.bind (ih _ _) fun x hx=> ?_
      obtain ⟨e,st1⟩:=x
      cases e with
      | goto l=>
        simp only
        split
        · rename_i rest hf
          refine Ok.ask fun hi hp=> ?_
          cases hi <;> simp only [z1n,All] at hp⊢<;> first | exact Ok.stop | skip
          · exact fun hs y ps r he hp=> z3c.goto hx hf (ihj rest st1 hs y ps r he hp)
          · refine Ok.bind (ih _ _) fun y hy=> ?_
            obtain ⟨e2,st2⟩:=y
            cases e2 with
            | goto l'=>
              simp only
              split
              · exact Ok.stop
              · rename_i hn;exact Ok.ret (z3c.goto hx hf (hp.1.2 _ (z21.out (fun l2 e=> by injection e with e;subst e;exact hn) hp.1.1 hy)))
            | _=> exact Ok.ret (z3c.goto hx hf (hp.1.2 _ (z21.out (fun l2 e=> by cases e) hp.1.1 hy)))
        · rename_i hf;exact Ok.ret (z3c.out (fun l' e=> by injection e with e;subst e;exact hf) hx)
      | _=> exact Ok.ret (z3c.out (fun l' e=> by cases e) hx)
   intro c st
   cases c with
   | skip=> exact Ok.ret (Ev.here fun F n Q a w hF hQ=> wpIn_skip hQ)
   | label l=> exact Ok.ret (Ev.here fun F n Q a w hF hQ=> wpIn_label hQ)
   | ret=> exact Ok.ret (Ev.here fun F n Q a w hF hQ=> wpIn_ret hQ)
   | exit id=> exact Ok.ret (Ev.here fun F n Q a w hF hQ=> wpIn_exit hQ)
   | goto l=> exact Ok.ret (Ev.here fun F n Q a w hF hQ=> wpIn_goto hQ)
   | seq a b=>
     unfold z25
     refine Ok.bind (ih _ _) fun x hx=> ?_
     obtain ⟨e,st1⟩:=x
     cases e with
     | normal=> exact fun hs y ps r he hp=> Ev.seq hx (ih b st1 hs y ps r he hp)
     | _=> exact Ok.ret (Ev.seq' (by simp) hx)
   | cond c x y=>
     unfold z25
     simp only
     split
     · rename_i t ht
       refine Ok.ask fun hi hp=> ?_
       cases hi <;> simp only [z1n,All] at hp⊢<;> first | exact Ok.stop | skip
       · exact fun hs z ps r he hq=> Ev.cond ht (ih _ _ hs z ps r he hq)
       · exact fun hs z ps r he hq=> Ev.cond ht (by rw [hp.1];exact ih _ _ hs z ps r he hq)
       · exact fun hs z ps r he hq=> Ev.cond ht (by rw [hp.1];exact ih _ _ hs z ps r he hq)
     · exact Ok.stop
   | block id c=>
     unfold z25
     exact Ok.bind (ih _ _) fun x hx=> Ok.ret (Ev.block hx)
   | loop c=>
     unfold z25
     refine Ok.ask fun hi hp=> ?_
     cases hi <;> simp only [z1n,All] at hp⊢<;> first | exact Ok.stop | skip
     · exact fun hs z ps r he hq=> Ev.loop ⟨st,z7f.refl (Nat.le_refl _),hloop c k st.H.nx st (Nat.le_refl _) hs z ps r he hq⟩
     · exact Ok.ret (Ev.loop hp.1)
     · refine Ok.bind (ih _ _) fun x hx=> ?_
       obtain ⟨e,st1⟩:=x
       cases e with
       | normal=> exact Ok.stop
       | _=> exact Ok.ret (Ev.loop (hp.1.2 _ (z3e.stop (by simp) hp.1.1 hx)))
   | scope c=>
     unfold z25
     exact fun hs z ps r he hq=> Ev.scope (hscope c k c st hs z ps r he hq)
   | region id ops draw=>
     have hreg:Ok P cf (regF (View.of P) cf (z25 (View.of P) cf k) ops draw st) (Ev P cf (.region id ops draw) st):=by
      unfold regF
      refine Ok.bind (zty ih ops _ _) fun x hx=> ?_
      cases draw with
      | false=> exact Ok.ret (Ev.region hx (.inl rfl))
      | true=>
        refine Ok.ask fun hi hp=> ?_
        cases hi <;> simp only [z1n,All] at hp⊢<;> first | exact Ok.stop | skip
        · split
          · rename_i hd;exact Ok.ret (Ev.region hx (.inr hd))
          · exact Ok.stop
        · exact Ok.ret (Ev.region hx (.inr hp.1))
     unfold z25
     simp only
     cases hj:zwg cf id ops with
     | false=> exact hreg
     | true=>
       refine Ok.ask fun hi hp=> ?_
       cases hi <;> simp only [z1n,All] at hp⊢<;> first | exact Ok.stop | skip
       · exact hreg
       · exact Ok.ret hp.1
   | rangeFunc g ps asg body=>
     simp only [z25]
     unfold zzq
     split
     · exact Ok.stop
     · rename_i hq
       split
       · rename_i f cap hg
         split
         · exact Ok.stop
         · rename_i hj
           refine Ok.bind (z9d ih _ _ _) fun x hx=> ?_
           obtain ⟨v,h2⟩:=x
           simp only
           split
           · rename_i s p T n qs a b hl
             split
             · exact Ok.stop
             · rename_i hb
               exact Ok.of fun y hy=> Ev.range (by simpa using hq) hg (by have hj:¬zic P f=true:=hj;simpa using hj) hx hl hb hy
           · exact Ok.stop
       · exact Ok.stop
   | refuse x=> exact Ok.stop
theorem pathR {k:Nat} {fr:Bool} {f:FuncId} {args:List AV} {hs:List Hint} {v:AV} {ps:List Prop} {r:List Hint} (h:exec P cf (funR (View.of P) cf k fr f args) hs=some (v,ps,r)) (hp:All ps):z06 P cf fr f args v:=by
 refine (Ok.bind (S:=z06 P cf fr f args) (z9d (zdt k) f args AH.empty) fun x hx=> ?_) hs v ps r h hp
 refine ze4 _ _ _ _ fun q hq=> Ok.ret ?_
 obtain ⟨q1,q2⟩:=q
 exact ⟨_,_,q2,hx,hq⟩
theorem pathO {k:Nat} {fr:Bool} {zss:List (List Nat)} {f:FuncId} {args:List AV} {H:AH} {hs:List Hint} {r:AV×AH} {ps:List Prop} {rest:List Hint} (h:exec P cf (funO (View.of P) cf k fr zss f args H) hs=some (r,ps,rest)) (hp:All ps):
 ∃v1 h1 h2,z4g P cf f args AH.empty (v1,h1)∧zpw h1 v1=some h2∧thaw zss h1 h2 fr H v1=some r:=by
 refine (Ok.bind (S:=fun r=> ∃v1 h1 h2,z4g P cf f args AH.empty (v1,h1)∧zpw h1 v1=some h2∧thaw zss h1 h2 fr H v1=some r) (z9d (zdt k) f args AH.empty) fun x hx=> ?_) hs r ps rest h hp
 split
 · rename_i h2 hg
   exact zot fun q hq=> Ok.ret ⟨_,_,h2,hx,hg,hq⟩
 · exact Ok.stop
theorem zxw {k:Nat} {c:Code} {st:St} {hs:List Hint} {v:AX×St} {ps:List Prop} {r:List Hint} (h:exec P cf (z25 (View.of P) cf k c st) hs=some (v,ps,r)) (hp:All ps):Ev P cf c st v:=
 zdt k c st hs v ps r h hp
end
end Go.Proofs.Ytimcbhhebnikiaa.Ab
namespace Go.Proofs.Ytimcbhhebnikiaa.Ab
open Go
set_option linter.unusedVariables false
set_option linter.unusedSimpArgs false
def bys (l:List UInt8):AV:=.sl l.length (l.map .y)
def zke (l:List Int):AV:=.sl l.length (l.map .i)
def zc4 (l:List Bool):AV:=.sl l.length (l.map .b)
def pad (n:Nat) (l:List UInt8):List UInt8:=(l++List.replicate n 0).take n
@[simp] theorem zgf (n:Nat) (l:List UInt8):(pad n l).length=n:=by simp [pad]
@[simp] theorem y0h (n:Nat) (l:List UInt8):pad n (pad n l)=pad n l:=by
 rw [pad,List.take_append_of_le_length (by simp),List.take_of_length_le (by simp)]
@[simp] theorem pad_set (n:Nat) (l:List UInt8) (i:Nat) (b:UInt8):pad n ((pad n l).set i b)=(pad n l).set i b:=by
 rw [pad,List.take_append_of_le_length (by simp),List.take_of_length_le (by simp)]
theorem zt1 {n:Nat} {l:List UInt8} (h:l.length=n):pad n l=l:=by subst h;simp [pad]
attribute [simp] bys zke zc4
/-! KINDS A -/
structure Zo where
 st:Int
 rs:Int
 d:List UInt8
 la:Int
 deriving DecidableEq
def Zo.cells (x:Zo):List AV:=[.i x.st,.i x.rs,bys x.d,.i x.la]
def Zo.av (x:Zo):AV:=.ag x.cells
def zos (l:List Zo):AV:=.sl l.length (l.flatMap Zo.cells)
structure Ex where
 lba:Int
 len:Int
 kind:Int
 gen:Int
 d:List UInt8
 deriving DecidableEq
def Ex.cells (x:Ex):List AV:=[.i x.lba,.i x.len,.i x.kind,.i x.gen,bys x.d]
def Ex.av (x:Ex):AV:=.ag x.cells
def exs (l:List Ex):AV:=.sl l.length (l.flatMap Ex.cells)
def z0 (l:List Ex) (i:Nat):Ex:=l.getD i ⟨0,0,0,0,[]⟩
structure Sp where
 k:Int
 d:List UInt8
 n:Int
 deriving DecidableEq
def Sp.cells (x:Sp):List AV:=[.i x.k,bys x.d,.i x.n]
def Sp.av (x:Sp):AV:=.ag x.cells
def sps (l:List Sp):AV:=.sl l.length (l.flatMap Sp.cells)
structure Ce where
 kind:Int
 gen:Int
 d:List UInt8
 deriving DecidableEq
def Ce.cells (x:Ce):List AV:=.i x.kind::.i x.gen::(pad 32 x.d).map .y
def Ce.av (x:Ce):AV:=.ag x.cells
def ces (l:List Ce):AV:=.sl l.length (l.flatMap Ce.cells)
def x7 (l:List Ce) (i:Nat):Ce:=l.getD i ⟨0,0,[]⟩
structure Po where
 id:Int
 gen:Int
 map:List Ex
 deriving DecidableEq
def Po.cells (x:Po):List AV:=[.i x.id,.i x.gen,exs x.map]
def Po.av (x:Po):AV:=.ag x.cells
def pos (l:List Po):AV:=.sl l.length (l.flatMap Po.cells)
def w6 (l:List Po) (i:Nat):Po:=l.getD i ⟨0,0,[]⟩
structure Sa where
 blocks:Int
 gen:Int
 map:List Ex
 points:List Po
 last:Int
 staged:List UInt8
 deriving DecidableEq
def Sa.cells (x:Sa):List AV:=[.i x.blocks,.i x.gen,exs x.map,pos x.points,.i x.last,bys x.staged]
def Sa.av (x:Sa):AV:=.ag x.cells
def sas (l:List Sa):AV:=.sl l.length (l.flatMap Sa.cells)
structure Ch where
 kind:Int
 lba:Int
 n:Int
 id:Int
 d:List UInt8
 list:List Ex
 deriving DecidableEq
def Ch.cells (x:Ch):List AV:=[.i x.kind,.i x.lba,.i x.n,.i x.id,bys x.d,exs x.list]
def Ch.av (x:Ch):AV:=.ag x.cells
def chs (l:List Ch):AV:=.sl l.length (l.flatMap Ch.cells)
def z1k (l:List Ch) (i:Nat):Ch:=l.getD i ⟨0,0,0,0,[],[]⟩
structure Sm where
 blocks:Int
 parent:Int
 target:Int
 list:List Ex
 deriving DecidableEq
def Sm.cells (x:Sm):List AV:=[.i x.blocks,.i x.parent,.i x.target,exs x.list]
def Sm.av (x:Sm):AV:=.ag x.cells
def sms (l:List Sm):AV:=.sl l.length (l.flatMap Sm.cells)
structure Cm where
 id:Int
 deriving DecidableEq
def Cm.cells (x:Cm):List AV:=[.i 4,.i 0,.i 0,.i x.id,.sl 0 [],.sl 0 []]
def Cm.av (x:Cm):AV:=.ag x.cells
def cms (l:List Cm):AV:=.sl l.length (l.flatMap Cm.cells)
attribute [simp] Zo.av zos Ex.av exs Sp.av sps Ce.av ces Po.av pos Sa.av sas Ch.av chs Sm.av sms Cm.av cms
/-! KINDS A END -/
abbrev wr (n:Int):Int:=IntKind.i64.wrap n
def z78 (a b:Int):Int:=if b < a then b else a
def z4n (a b:Int):Int:=if b > a then b else a
theorem y0y (a b:Int):z78 a b=min a b:=by unfold z78;omega
theorem y0b (a b:Int):z4n a b=max a b:=by unfold z4n;omega
def au (n:Nat):List Hint:=List.replicate n .auto
def hz:List (Nat×List Hint)→List Hint
 | []=> []
 | (n,l)::r=> au n++(l++hz r)
@[simp] theorem z63:∀l:List UInt8,g0 (l.map .y)=some l
 | []=> rfl
 | b::l=> by simp [g0,z63 l]
@[simp] theorem zyd (n:Nat) (l:List UInt8):g0 (List.take n (List.map AV.y l))=some (List.take n l):=by rw [←List.map_take];exact z63 _
@[simp] theorem zwt (n:Nat) (l:List UInt8):g0 (List.drop n (List.map AV.y l))=some (List.drop n l):=by rw [←List.map_drop];exact z63 _
@[simp] theorem zr5 (n k:Nat) (l:List UInt8):g0 (List.take n (List.drop k (List.map AV.y l)))=some (List.take n (List.drop k l)):=by rw [←List.map_drop,←List.map_take];exact z63 _
@[simp] theorem y1g:g0 []=some []:=rfl
@[simp] theorem y15 (b:UInt8) (l:List AV):g0 (.y b::l)=(g0 l).map (b::·):=rfl
@[simp] theorem zj6:∀a b:List AV,g0 (a++b)=(g0 a).bind fun x=> (g0 b).map (x++·)
 | [],b=> by cases h:g0 b <;> simp [h]
 | v::a,b=> by
   cases v <;> simp only [List.cons_append,g0,Option.bind_none]
   rw [zj6 a b]
   cases g0 a <;> cases g0 b <;> simp
@[simp] theorem y1l (n:Nat) (b:UInt8):g0 (List.replicate n (.y b))=some (List.replicate n b):=by
 have:=z63 (List.replicate n b)
 rwa [List.map_replicate] at this
theorem zlg:∀(a b:List UInt8),a.length=b.length→z0n (a.map .y) (b.map .y)=some (a==b)
 | [],[],_=> rfl
 | [],_::_,h=> by cases h
 | _::_,[],h=> by cases h
 | x::a,y::b,h=> by
   simp only [List.map_cons,z0n,zih,zlg a b (by simpa using h)]
   rfl
theorem zi9 {a b:List UInt8} {xs ys:List AV} (e1:xs=a.map .y) (e2:ys=b.map .y) (h:a.length=b.length):z0n xs ys=some (a==b):=by
 subst e1;subst e2;exact zlg a b h
@[simp] theorem zob:∀l:List Bool,z5u (l.map .b)=some l
 | []=> rfl
 | b::l=> by simp [z5u,zob l]
theorem za2 {x y:Int} {as bs:List AV} {r:Bool} (h:z0n as bs=some r):z0n (.i x::as) (.i y::bs)=some (x==y && r):=by
 simp only [z0n,zih,h]
@[simp] theorem y01 {α:Type} (f:α→AV) (l:List α):List.take l.length (l.map f)=l.map f:=List.take_of_length_le (by simp)
@[simp] theorem purV_y (h:AH) (fr:Bool) (k:Nat) (b:UInt8):t7 h fr (k+1) (.y b)=some (.y b,[]):=rfl
@[simp] theorem purV_i (h:AH) (fr:Bool) (k:Nat) (b:Int):t7 h fr (k+1) (.i b)=some (.i b,[]):=rfl
@[simp] theorem y1s {f:AV→Option (AV×List Nat)} {l m:List AV} (h1:z0b f l=some (l,[])) (h2:z0b f m=some (m,[])):z0b f (l++m)=some (l++m,[]):=by
 induction l with
 | nil=> simpa using h2
 | cons v l ih=>
   simp only [z0b] at h1
   cases hv:f v with
   | none=> rw [hv] at h1;cases h1
   | some q=>
     obtain ⟨q1,q2⟩:=q
     rw [hv] at h1
     cases hl:z0b f l with
     | none=> rw [hl] at h1;cases h1
     | some p=>
       obtain ⟨p1,p2⟩:=p
       rw [hl] at h1
       simp only [Option.some.injEq,Prod.mk.injEq,List.cons.injEq,List.append_eq_nil_iff] at h1
       obtain ⟨⟨rfl,rfl⟩,rfl,rfl⟩:=h1
       simp only [List.cons_append,z0b,hv,ih hl,List.append_nil]
@[simp] theorem y2h (fr:Bool):Pl fr []:=fun _ h=> by cases h
@[simp] theorem Pl_cons (fr:Bool) (v:AV) (l:List AV):Pl fr (v::l)↔plain fr v=true∧Pl fr l:=by simp [Pl]
@[simp] theorem y3s (fr:Bool) (a b:List AV):Pl fr (a++b)↔Pl fr a∧Pl fr b:=by
 simp only [Pl,List.mem_append]
 exact ⟨fun h=> ⟨fun v hv=> h v (.inl hv),fun v hv=> h v (.inr hv)⟩,fun h v hv=> hv.elim (h.1 v) (h.2 v)⟩
@[simp] theorem Pl_y (fr:Bool) (l:List UInt8):Pl fr (l.map .y):=by
 intro v hv
 obtain ⟨b,_,rfl⟩:=List.mem_map.1 hv
 rfl
@[simp] theorem Pl_i (fr:Bool) (l:List Int):Pl fr (l.map .i):=by
 intro v hv
 obtain ⟨b,_,rfl⟩:=List.mem_map.1 hv
 rfl
@[simp] theorem y0d (fr:Bool) (l:List AV) (n:Nat) (h:Pl fr l):Pl fr (l.take n):=fun v hv=> h v (List.mem_of_mem_take hv)
@[simp] theorem y0v (fr:Bool) (l:List AV) (n:Nat) (h:Pl fr l):Pl fr (l.drop n):=fun v hv=> h v (List.mem_of_mem_drop hv)
@[simp] theorem zzj (fr:Bool) (v:AV) (n:Nat) (h:plain fr v=true):Pl fr (List.replicate n v):=fun u hu=> by rw [List.eq_of_mem_replicate hu];exact h
@[simp] theorem Pl_rep_y (fr:Bool) (b:UInt8) (n:Nat):Pl fr (List.replicate n (.y b)):=zzj _ _ _ rfl
@[simp] theorem Pl_rep_i (fr:Bool) (b:Int) (n:Nat):Pl fr (List.replicate n (.i b)):=zzj _ _ _ rfl
@[simp] theorem plain_y1 (fr:Bool) (b:UInt8):plain fr (.y b)=true:=rfl
@[simp] theorem plain_i1 (fr:Bool) (b:Int):plain fr (.i b)=true:=rfl
@[simp] theorem plain_b1 (fr:Bool) (b:Bool):plain fr (.b b)=true:=rfl
@[simp] theorem plain_sl (n:Nat) (cs:List AV):plain false (.sl n cs)=true:=rfl
@[simp] theorem repl_y (n:Nat) (b:UInt8):zct n [AV.y b]=List.replicate n (AV.y b):=by simp [zct]
@[simp] theorem y3r (n:Nat) (b:UInt8):(List.replicate n [AV.y b]).flatten=List.replicate n (AV.y b):=by simp
theorem zxv (l:List UInt8) (i:Nat) (h:i < l.length):((l.map AV.y).drop i).take 1=[AV.y (l.getD i 0)]:=by
 rw [←List.map_drop,←List.map_take]
 have:(l.drop i).take 1=[l.getD i 0]:=by
  rw [List.drop_eq_getElem_cons h,List.take_succ_cons,List.take_zero];simp [h]
 rw [this];rfl
theorem z9b {h:AH}:∀(k:Nat) (v:AV) (r:AV×List Nat),t7 h true k v=some r→t7 h false k v=some r
 | 0,v,r,e=> by cases e
 | k+1,v,r,e=> by
   have hm:∀(l:List AV) (q:List AV×List Nat),z0b (t7 h true k) l=some q→z0b (t7 h false k) l=some q:=by
    intro l
    induction l with
    | nil=> exact fun q e=> e
    | cons v l ih=>
      intro q e
      simp only [z0b] at e⊢
      cases hv:t7 h true k v with
      | none=> rw [hv] at e;cases e
      | some a=>
        rw [hv] at e
        rw [z9b k v a hv]
        cases hl:z0b (t7 h true k) l with
        | none=> rw [hl] at e;cases e
        | some b=> rw [hl] at e;rw [ih b hl];exact e
   cases v with
   | sl n cs=>
     simp only [t7] at e⊢
     split at e
     · cases e
     · simpa using e
   | rf b z off n=>
     simp only [t7] at e⊢
     split at e
     · rename_i cs hcs
       split at e
       · rename_i hle
         rw [if_pos hle]
         cases hl:z0b (t7 h true k) ((cs.drop off).take (n*z)) with
         | none=> rw [hl] at e;cases e
         | some b=> rw [hl] at e;rw [hm _ _ hl];exact e
       · cases e
     · cases e
   | ag xs=>
     simp only [t7] at e⊢
     cases hl:z0b (t7 h true k) xs with
     | none=> rw [hl] at e;cases e
     | some b=> rw [hl] at e;rw [hm _ _ hl];exact e
   | tu xs=>
     simp only [t7] at e⊢
     cases hl:z0b (t7 h true k) xs with
     | none=> rw [hl] at e;cases e
     | some b=> rw [hl] at e;rw [hm _ _ hl];exact e
   | ip cs=> simp [t7] at e
   | _=> exact e
section
variable {P : Program} {cf : Cfg}
theorem z06.any {fr:Bool} {f:FuncId} {args:List AV} {v:AV} (h:z06 P cf true f args v):z06 P cf fr f args v:=by
 obtain ⟨v1,h1,bs,e1,e2⟩:=h
 refine ⟨v1,h1,bs,e1,?_⟩
 cases fr with
 | true=> exact e2
 | false=> exact z9b _ _ _ e2
theorem z06.any0 {f:FuncId} {args:List AV} {v:AV} (h:z06 P cf true f args v):z06 P cf false f args v:=h.any
theorem z06.cast {fr:Bool} {f:FuncId} {args args':List AV} {v:AV} (h:z06 P cf fr f args v) (e:args=args'):z06 P cf fr f args' v:=e▸h
theorem y8 {V:View} (hV:V=View.of P) {k:Nat} {fr:Bool} {f:FuncId} {args:List AV} {hs:List Hint} {raw v:AV} {ps:List Prop} {r:List Hint} (h:exec P cf (funR V cf k fr f args) hs=some (raw,ps,r)) (hp:All ps) (hv:raw=v):z06 P cf fr f args v:=by
 subst hV
 exact hv▸pathR h hp
theorem zkn {h:AH} (k:Nat):∀(l:List AV) (q:List AV×List Nat),z0b (t7 h true k) l=some q→z0b (t7 h false k) l=some q
 | [],q,e=> e
 | v::l,q,e=> by
   simp only [z0b] at e⊢
   cases hv:t7 h true k v with
   | none=> rw [hv] at e;cases e
   | some a=>
     rw [hv] at e
     rw [z9b k v a hv]
     cases hl:z0b (t7 h true k) l with
     | none=> rw [hl] at e;cases e
     | some b=> rw [hl] at e;rw [zkn k l b hl];exact e
theorem zh2 {h:AH}:∀(l q:List (AV×AV)),zcf h true l=some q→zcf h false l=some q
 | [],q,e=> e
 | (k,v)::l,q,e=> by
   cases k <;> simp only [zcf] at e⊢<;> first | (cases e;done) | skip
   cases hv:t7 h true z1b v with
   | none=> rw [hv] at e;simp at e
   | some a=>
     cases hl:zcf h true l with
     | none=> rw [hv,hl] at e;simp at e
     | some b=> rw [hv,hl] at e;rw [z9b _ v a hv,zh2 l b hl];exact e
theorem ziq {z:Nat} {h0 h1 h:AH} {v:AV} {x:AV×AH} (e:z4v z h0 h1 true h v=some x):z4v z h0 h1 false h v=some x:=by
 cases v with
 | nl=> exact e
 | rf b z off n=>
   simp only [z4v] at e⊢
   cases hc:h0.cells b with
   | none=> rw [hc] at e;cases e
   | some cs=>
     simp only [hc] at e⊢
     split at e
     · rename_i hp
       rw [if_pos hp]
       cases hm:z0b (t7 h1 true z1b) cs with
       | none=> rw [hm] at e;cases e
       | some q=> rw [hm] at e;rw [zkn _ _ q hm];exact e
     · cases e
 | mp b=>
   simp only [z4v] at e⊢
   split at e
   · rename_i es hes
     cases hm:zcf h1 true es with
     | none=> rw [hm] at e;cases e
     | some q=> rw [hm] at e;simp only [zh2 _ q hm];exact e
   · cases e
 | _=>
   simp only [z4v] at e⊢
   split at e
   · rename_i hv
     rw [z9b _ _ _ hv]
     exact e
   · cases e
theorem zi8 {h0 h1:AH}:∀{zs:List Nat} {h:AH} {l:List AV} {x:List AV×AH},z64 h0 h1 true zs h l=some x→z64 h0 h1 false zs h l=some x
 | _,h,[],x,e=> e
 | zs,h,v::l,x,e=> by
   simp only [z64] at e⊢
   cases hv:z4v (zs.headD 0) h0 h1 true h v with
   | none=> rw [hv] at e;cases e
   | some a=>
     obtain ⟨a1,a2⟩:=a
     rw [hv] at e
     rw [ziq hv]
     simp only at e⊢
     cases hl:z64 h0 h1 true zs.tail a2 l with
     | none=> rw [hl] at e;cases e
     | some b=> rw [hl] at e;rw [zi8 hl];exact e
theorem ziz {zs:List Nat} {h0 h1 h:AH} {v:AV} {x:AV×AH} (e:z5b zs h0 h1 true h v=some x):z5b zs h0 h1 false h v=some x:=by
 cases v
 case ag xs=>
  simp only [z5b] at e⊢
  cases hl:z64 h0 h1 true zs h xs with
  | none=> rw [hl] at e;cases e
  | some b=> rw [hl] at e;rw [zi8 hl];exact e
 all_goals (simp only [z5b] at e⊢;exact ziq e)
theorem zjy {h0 h1:AH}:∀{zss:List (List Nat)} {h:AH} {l:List AV} {x:List AV×AH},z62 h0 h1 true zss h l=some x→z62 h0 h1 false zss h l=some x
 | _,h,[],x,e=> e
 | zss,h,v::l,x,e=> by
   simp only [z62] at e⊢
   cases hv:z5b (zss.headD []) h0 h1 true h v with
   | none=> rw [hv] at e;cases e
   | some a=>
     obtain ⟨a1,a2⟩:=a
     rw [hv] at e
     rw [ziz hv]
     simp only at e⊢
     cases hl:z62 h0 h1 true zss.tail a2 l with
     | none=> rw [hl] at e;cases e
     | some b=> rw [hl] at e;rw [zjy hl];exact e
theorem zw1 {zss:List (List Nat)} {h0 h1 h:AH} {v:AV} {x:AV×AH} (e:thaw zss h0 h1 true h v=some x):thaw zss h0 h1 false h v=some x:=by
 cases v
 case tu xs=>
  simp only [thaw] at e⊢
  cases hl:z62 h0 h1 true zss h xs with
  | none=> rw [hl] at e;cases e
  | some b=> rw [hl] at e;rw [zjy hl];exact e
 all_goals (simp only [thaw] at e⊢;exact ziz e)
theorem zbz.any {fr:Bool} {zss:List (List Nat)} {f:FuncId} {args:List AV} {v:AV} (h:zbz P cf true zss f args v):zbz P cf fr zss f args v:=by
 intro H
 obtain ⟨v1,h1,h2,e1,e2,e3⟩:=h H
 refine ⟨v1,h1,h2,e1,e2,?_⟩
 cases fr with
 | true=> exact e3
 | false=> exact zw1 e3
theorem zbz.any0 {zss:List (List Nat)} {f:FuncId} {args:List AV} {v:AV} (h:zbz P cf true zss f args v):zbz P cf false zss f args v:=h.any
theorem zbz.cast {fr:Bool} {zss:List (List Nat)} {f:FuncId} {args args':List AV} {v:AV} (h:zbz P cf fr zss f args v) (e:args=args'):zbz P cf fr zss f args' v:=e▸h
theorem zjg {V:View} (hV:V=View.of P) {k:Nat} {fr:Bool} {zss:List (List Nat)} {f:FuncId} {args:List AV} {hs:List Hint} {R:AH→AV×AH} {v:AV} {ps:List Prop} {r:List Hint} (h:∀H,exec P cf (funO V cf k fr zss f args H) hs=some (R H,ps,r)) (hp:All ps) (hv:∀H,R H=zml zss v H):zbz P cf fr zss f args v:=by
 subst hV
 exact fun H=> hv H▸pathO (h H) hp
theorem z06.of_aCall {k:Nat} {f:FuncId} {args:List AV} {v:AV} (h:zu2 P cf k f args=some v):z06 P cf false f args v:=by
 unfold zu2 at h
 split at h
 · rename_i v1 h1 he
   cases hp:t7 h1 false z1b v1 with
   | none=> rw [hp] at h;cases h
   | some q=>
     obtain ⟨q1,q2⟩:=q
     rw [hp] at h
     simp only [Option.map_some,Option.some.injEq] at h
     subst h
     exact ⟨v1,h1,q2,fun g=> ⟨z30 P cf k,zfp g.mixed g.clones k,he⟩,hp⟩
 · cases h
theorem zvm {h:AH} {fr:Bool} {k:Nat} {v:AV} {b:Bool} {bs:List Nat} (e:t7 h fr (k+1) v=some (.b b,bs)):v=.b b∧bs=[]:=by
 cases v with
 | b c=> simp only [t7,Option.some.injEq,Prod.mk.injEq,AV.b.injEq] at e;obtain ⟨rfl,rfl⟩:=e;exact ⟨rfl,rfl⟩
 | rf bb z off n=>
   simp only [t7] at e
   split at e
   · split at e
     · split at e <;> simp at e
     · cases e
   · cases e
 | ag xs=> simp only [t7] at e;cases hm:z0b (t7 h fr k) xs <;> rw [hm] at e <;> simp at e
 | tu xs=> simp only [t7] at e;cases hm:z0b (t7 h fr k) xs <;> rw [hm] at e <;> simp at e
 | fn f cap=> cases cap <;> simp [t7] at e
 | sl n cs=> simp only [t7] at e;split at e <;> simp at e
 | ip cs=> simp only [t7] at e;split at e <;> simp at e
 | _=> simp [t7] at e
theorem z06.of_bool {fr:Bool} {k:Nat} {f:FuncId} {args:List AV} {b:Bool} (h:zu2 P cf k f args=some (.b b)):z06 P cf fr f args (.b b):=by
 obtain ⟨v1,h1,bs,e1,e2⟩:=z06.of_aCall h
 obtain ⟨rfl,rfl⟩:=zvm (k:=11) e2
 exact ⟨_,h1,[],e1,rfl⟩
theorem zwh (g:Good P cf) {f:FuncId} {args:List AV} {r:AV} (h:z06 P cf false f args r) {C:Ctx} {w:World} {vs:List Value} {R:Ending→World→Prop}
 (hS:Sim C AH.empty.get w) (hφ:∀b,C.φ b=none) (hl:LRel C w false args vs) (hR:∀C' w' x,Step C w C' w'→(∀b,C'.φ b=none)→x3 C' w' r x→R (.returned x) w'):Calls P f vs.toArray w R:=by
 obtain ⟨v,h1,bs,he,hp⟩:=h
 obtain ⟨rec,hrec,he⟩:=he g
 obtain ⟨_,hfn,hE⟩:=z9f hrec he
 refine callsIn_wide.1 (hE C w vs 0 R hS (fun b _=> hφ b) hl fun C' w' x g1 g2 g3 g4=> ?_)
 have hv:=z8u g2 false z1b v r bs x hp (fun _ _=> rfl) g4
 refine hR (PC C' false bs) w' x ⟨fun b rb e=> ?_,fun b rb e=> (by cases e),fun b e=> .inl ⟨rfl,g1.imm b e⟩,fun b e=> ?_,g1.size,g1.keep,g1.immkeep,g1.sizes,g1.env⟩ (fun _=> rfl) hv
 · rw [hφ] at e;cases e
 · rcases e with ⟨_,e⟩ | ⟨i,_,e⟩
   · rcases g1.immnew b e with g | g | ⟨i,g⟩
     · exact .inl g
     · exact .inr (.inl g)
     · exact .inr (.inr ⟨i,g⟩)
   · rcases g1.φnew i b e with g | g | ⟨j,g⟩
     · exact .inr (.inr ⟨i,g⟩)
     · exact .inr (.inl g)
     · exact .inr (.inr ⟨j,g⟩)
theorem true_below' (hm:P.follows .mixedOrders=true) (hcl:z4f P cf.clone) {f:FuncId} {args:List AV} (h:z06 P cf false f args (.b true)) {w:World} {vs:List Value} (hl:LRel (C0 w) w false args vs):
 Calls P f vs.toArray w fun e w'=> e=.returned (.bool true)∧RowKit.Below w.heap.size w w':=by
 refine zwh ⟨hm,hcl⟩ h (y3i w) (fun _=> rfl) hl fun C' w' x hs _ hv=> ?_
 simp only [x3] at hv
 subst hv
 have he:=hs.env
 simp only [z8t,Prod.mk.injEq] at he
 exact ⟨rfl,he.1,he.2.1,he.2.2,hs.size,fun b hb=> hs.keep b hb fun i e=> by cases e⟩
end
/-! ### A program's types and functions in tables -/
def zta (P:Program):List (Nat×TI)→Nat→Option TI
 | [],t=> u9 P t
 | (u,i)::l,t=> bif Nat.beq u t then some i else zta P l t
def ztb (P:Program):List (Nat×AF)→Nat→Option AF
 | [],t=> zas P t
 | (u,i)::l,t=> bif Nat.beq u t then some i else ztb P l t
theorem zqa {P:Program}:∀{l:List (Nat×TI)},(∀x∈l,u9 P x.1=some x.2)→zta P l=u9 P
 | [],_=> rfl
 | (u,i)::l,h=> by
   funext t
   simp only [zta,zb3,zqa (l:=l) fun x hx=> h x (by simp [hx])]
   by_cases e:u=t
   · subst e;simpa using (h (u,i) (by simp)).symm
   · simp [e]
theorem zqn {P:Program}:∀{l:List (Nat×AF)},(∀x∈l,zas P x.1=some x.2)→ztb P l=zas P
 | [],_=> rfl
 | (u,i)::l,h=> by
   funext t
   simp only [ztb,zb3,zqn (l:=l) fun x hx=> h x (by simp [hx])]
   by_cases e:u=t
   · subst e;simpa using (h (u,i) (by simp)).symm
   · simp [e]
def View.mkT (P:Program) (ts:List (Nat×TI)) (fs:List (Nat×AF)):View:=⟨P,zta P ts,ztb P fs⟩
theorem View.mkT_eq {P:Program} {ts:List (Nat×TI)} {fs:List (Nat×AF)} (h1:∀x∈ts,u9 P x.1=some x.2) (h2:∀x∈fs,zas P x.1=some x.2):View.mkT P ts fs=View.of P:=by
 unfold View.mkT View.of
 rw [zqa h1,zqn h2]
theorem ztg {α:Type} {p:α→Prop}:∀x∈([]:List α),p x:=fun _ h=> by cases h
theorem all_cons {α:Type} {p:α→Prop} {a:α} {l:List α} (h:p a) (t:∀x∈l,p x):∀x∈a::l,p x:=fun x hx=> (List.mem_cons.1 hx).elim (fun e=> e▸h) (t x)
def z87:Code→List (Array Oper)
 | .seq a b=> z87 a++z87 b
 | .cond _ x y=> z87 x++z87 y
 | .block _ c=> z87 c
 | .loop c=> z87 c
 | .scope c=> z87 c
 | .rangeFunc _ _ a b=> z87 a++z87 b
 | .region _ ops true=> [ops]
 | _=> []
def rg (P:Program) (f n:Nat):Array Oper:=match zas P f with | some af=> (z87 af.body).getD n #[] | none=> #[]
def zae:Code→List (Code×Code)
 | .seq a b=> zae a++zae b
 | .cond _ x y=> zae x++zae y
 | .block _ c=> zae c
 | .loop c=> zae c
 | .scope c=> zae c
 | .rangeFunc _ _ a b=> (a,b)::(zae a++zae b)
 | _=> []
def rfA (P:Program) (f n:Nat):Code:=match zas P f with | some af=> ((zae af.body).getD n (.skip,.skip)).1 | none=> .skip
def rfB (P:Program) (f n:Nat):Code:=match zas P f with | some af=> ((zae af.body).getD n (.skip,.skip)).2 | none=> .skip
def zk4 (cf:Cfg):Code→List Code
 | .seq a b=> zk4 cf a++zk4 cf b
 | .cond _ x y=> zk4 cf x++zk4 cf y
 | .block _ c=> zk4 cf c
 | .loop c=> zk4 cf c
 | .scope c=> zk4 cf c
 | .rangeFunc _ _ a b=> zk4 cf a++zk4 cf b
 | .region i ops d=> bif zwg cf i ops then [.region i ops d] else []
 | _=> []
def rj (P:Program) (cf:Cfg) (f n:Nat):Code:=match zas P f with | some af=> (zk4 cf af.body).getD n .skip | none=> .skip
theorem x5 {ops:Array Oper} {b:Array Nat} {fts:List Ft} (h:z9 ops=true) (e:Region.before ops=b) (a:w8 b [] 0 fts=true):z9 ops=true∧w8 (Region.before ops) [] 0 fts=true:=⟨h,by rw [e];exact a⟩
def t9 (fn:Func):AF:={nt:=fn.ntmps,res:=fn.results.toList,body:=fn.body.getD .skip}
/-! ### Loops -/
def z5x:Code→List Code
 | .seq a b=> z5x a++z5x b
 | .cond _ x y=> z5x x++z5x y
 | .block _ c=> z5x c
 | .loop c=> c::z5x c
 | .scope c=> z5x c
 | .rangeFunc _ _ a b=> z5x a++z5x b
 | _=> []
def z49:Code→List Code
 | .seq a b=> z49 a++z49 b
 | .cond _ x y=> z49 x++z49 y
 | .block _ c=> z49 c
 | .loop c=> z49 c
 | .scope c=> c::z49 c
 | .rangeFunc _ _ a b=> z49 a++z49 b
 | _=> []
def sc (P:Program) (f n:Nat):Code:=match zas P f with | some af=> (z49 af.body).getD n .skip | none=> .skip
def sr (P:Program) (f n l:Nat):Code:=(findLabel (sc P f n) l).getD .skip
/-! Rules for states told anew. -/
section
variable {R : Rn}
theorem VTo.agp {l:List AV} (hp:Pl false l):VTo R (.ag l) (.ag l):=.ag (.pur (bs:=[]) 1 (z4x _ _ 0 _ hp) (by simp))
theorem VTo.eqv {x v:AV} (e:x=v) (hp:plain false v=true):VTo R x v:=by
 subst e
 refine .pur (bs:=[]) 1 (z3g hp) (by simp)
theorem VTo.frzn {b z off n:Nat} {cs:List AV} {v:AV} (hc:R.H.cells b=some cs) (hle:off+n*z≤cs.length) (hp:Pl false ((cs.drop off).take (n*z))) (hb:b∈R.frz) (e:.sl n ((cs.drop off).take (n*z))=v):VTo R (.rf b z off n) v:=by
 subst e
 have key:∀k,z0b (t7 R.H false k) ((cs.drop off).take (n*z))=some ((cs.drop off).take (n*z),[])→t7 R.H false (k+1) (.rf b z off n)=some (.sl n ((cs.drop off).take (n*z)),[b]):=by
  intro k hk
  simp only [t7,hc]
  rw [if_pos hle,hk]
 exact .pur (bs:=[b]) 2 (key 1 (z4x _ _ 0 _ hp)) (by simpa using hb)
theorem VTo.ip (cs:List AV):VTo R (.ip cs) (.ip cs):=.pur (bs:=[]) 1 (by simp [t7]) (by simp)
theorem VTo.rfn {b b' z n n':Nat} (h:R.m b'=some b) (e:n=n'):VTo R (.rf b z 0 n) (.rf b' z 0 n'):=e▸.rf h
theorem VTo.nln {b' z n':Nat} (e:n'=0):VTo R .nl (.rf b' z 0 n'):=by subst e;exact .nl
theorem LTo.pl {l l':List AV} (e:l=l') (hp:Pl false l'):LTo R l l':=by
 subst e
 exact .pur (bs:=[]) 1 (z4x _ _ 0 _ hp) (by simp)
def plN (v:AV):Bool:=match v with | .nl=> true | v=> plain false v
theorem LTo.pl0 {l:List AV} (hp:l.all plN=true):LTo R l l:=by
 induction l with
 | nil=> exact .nil
 | cons v l ih=>
   simp only [List.all_cons,Bool.and_eq_true] at hp
   refine .cons ?_ (ih hp.2)
   cases v <;> first | exact .nl0 | exact VTo.eqv rfl hp.1
theorem LTo.app {a b a' b':List AV} (h1:LTo R a a') (h2:LTo R b b'):LTo R (a++b) (a'++b'):=by
 induction a generalizing a' with
 | nil=> rw [h1.empty];exact h2
 | cons x a ih=>
   cases h1 with
   | cons hv ht=> exact .cons hv (ih ht)
   | pur k hp hb=>
     simp only [z0b] at hp
     cases hx:t7 R.H false k x with
     | none=> rw [hx] at hp;cases hp
     | some q=>
       obtain ⟨x',b1⟩:=q
       rw [hx] at hp
       cases hr:z0b (t7 R.H false k) a with
       | none=> rw [hr] at hp;cases hp
       | some q2=>
         obtain ⟨r',b2⟩:=q2
         rw [hr] at hp
         simp only [Option.some.injEq,Prod.mk.injEq] at hp
         obtain ⟨rfl,rfl⟩:=hp
         exact .cons (.pur k hx fun b h=> hb b (List.mem_append_left _ h)) (ih (.pur k hr fun b h=> hb b (List.mem_append_right _ h)))
theorem LTo.cast {l l' m m':List AV} (e1:l=m) (e2:m'=l') (h:LTo R m m'):LTo R l l':=by subst e1;subst e2;exact h
theorem TTo.consn {T T':Tm} {k:Nat} {x v:AV} (e:T.get k=x) (h:VTo R x v) (t:TTo R T T'):TTo R T ((k,v)::T'):=TTo.cons (e▸h) t
end
theorem zwv {α:Type} {c:α→List AV} (d:α) (l:List α) (i:Nat) (h:i < l.length):l.flatMap c=(l.take i).flatMap c++(c (l.getD i d)++(l.drop (i+1)).flatMap c):=by
 have e:l=l.take i++(l.getD i d::l.drop (i+1)):=by
  have h2:l.drop i=l.getD i d::l.drop (i+1):=by rw [List.drop_eq_getElem_cons h];simp [h]
  rw [←h2,List.take_append_drop]
 conv=> lhs;rw [e]
 rw [List.flatMap_append,List.flatMap_cons]
section
variable {α : Type} {c : α → List AV} {z : Nat} (hz : ∀ x, (c x).length = z)
include hz
theorem z89 (l:List α):(l.flatMap c).length=l.length*z:=by
 induction l with
 | nil=> simp
 | cons x l ih=> rw [List.flatMap_cons,List.length_append,ih,hz,List.length_cons,Nat.add_mul,Nat.one_mul,Nat.add_comm]
theorem z5t (l:List α) (i:Nat):(l.flatMap c).drop (i*z)=(l.drop i).flatMap c:=by
 induction l generalizing i with
 | nil=> simp
 | cons x l ih=>
   cases i with
   | zero=> simp
   | succ i=>
     rw [List.flatMap_cons,List.drop_succ_cons,←ih i,show (i+1)*z=(c x).length+i*z by rw [hz,Nat.add_mul,Nat.one_mul,Nat.add_comm],List.drop_append]
     simp
theorem z56 (l:List α) (i:Nat):(l.flatMap c).take (i*z)=(l.take i).flatMap c:=by
 induction l generalizing i with
 | nil=> simp
 | cons x l ih=>
   cases i with
   | zero=> simp
   | succ i=>
     rw [List.flatMap_cons,List.take_succ_cons,List.flatMap_cons,←ih i,show (i+1)*z=(c x).length+i*z by rw [hz,Nat.add_mul,Nat.one_mul,Nat.add_comm],List.take_append,List.take_of_length_le (by omega)]
     congr 2;omega
theorem y1h (d:α) (l:List α) (i:Nat) (h:i < l.length):(l.flatMap c).drop (i*z)=c (l.getD i d)++(l.drop (i+1)).flatMap c:=by
 rw [z5t hz,List.drop_eq_getElem_cons h,List.flatMap_cons]
 simp [h]
theorem zgi (d:α) (l:List α) (i:Nat) (h:i < l.length):((l.flatMap c).drop (i*z)).take z=c (l.getD i d):=by
 rw [y1h hz d l i h,List.take_append_of_le_length (by rw [hz];exact Nat.le_refl _),List.take_of_length_le (by rw [hz];exact Nat.le_refl _)]
theorem zs0 (d:α) (l:List α) (i k:Nat) (v:AV) (h:i < l.length) (hv:(c (l.getD i d))[k]? =some v):(((l.flatMap c).drop (i*z)).drop k).take 1=[v]:=by
 have hk:k < z:=by
  rcases Nat.lt_or_ge k z with g | g
  · exact g
  · rw [List.getElem?_eq_none (by rw [hz];exact g)] at hv;cases hv
 rw [y1h hz d l i h,List.drop_append_of_le_length (by rw [hz];omega)]
 have h2:((c (l.getD i d)).drop k)=v::(c (l.getD i d)).drop (k+1):=by
  rw [List.getElem?_eq_getElem (by rw [hz];exact hk)] at hv
  injection hv with hv
  rw [←hv,List.drop_eq_getElem_cons]
 rw [h2];rfl
theorem zn6 (d:α) (l:List α) (i k:Nat) (vs:List AV) (x:α) (h:i < l.length) (hk:k+vs.length≤z) (e:over (c (l.getD i d)) k vs=c x):over (l.flatMap c) (i*z+k) vs=(l.set i x).flatMap c:=by
 have hl:((l.take i).flatMap c).length=i*z:=by rw [z89 hz,List.length_take,Nat.min_eq_left (Nat.le_of_lt h)]
 have hc:=hz (l.getD i d)
 have hs:l.set i x=l.take i++(x::l.drop (i+1)):=by rw [List.set_eq_take_append_cons_drop,if_pos h]
 rw [hs,List.flatMap_append,List.flatMap_cons,←e,zwv d l i h]
 generalize hA:(l.take i).flatMap c=A at hl⊢
 generalize (l.drop (i+1)).flatMap c=B
 generalize c (l.getD i d)=M at hc⊢
 have e1:(A++(M++B)).take (i*z+k)=A++M.take k:=by
  rw [List.take_append,List.take_of_length_le (by omega),show i*z+k - A.length=k by omega,List.take_append_of_le_length (by omega)]
 have e2:(A++(M++B)).drop (i*z+k+vs.length)=M.drop (k+vs.length)++B:=by
  rw [List.drop_append,List.drop_of_length_le (l:=A) (by omega),show i*z+k+vs.length - A.length=k+vs.length by omega,List.drop_append_of_le_length (by omega),List.nil_append]
 unfold over
 rw [e1,e2]
 simp
theorem zy0 (l:List α) (i:Nat) (x:α) (h:i < l.length):over (l.flatMap c) (i*z) (c x)=(l.set i x).flatMap c:=by
 have:=zn6 hz l[i] l i 0 (c x) x h (by rw [hz];omega) (by
  unfold over
  rw [hz]
  have e:l.getD i l[i]=l[i]:=by simp [h]
  rw [e,List.drop_of_length_le (by rw [hz];omega)];simp)
 simpa using this
end
/-! KINDS B -/
theorem zxa:∀x:Zo,(Zo.cells x).length=4:=fun x=> by simp [Zo.cells]
@[simp] theorem zo_pl (x:Zo):Pl false (Zo.cells x):=by simp [Zo.cells]
@[simp] theorem y3j (l:List Zo):Pl false (l.flatMap Zo.cells):=fun v hv=> by
 obtain ⟨x,_,hx⟩:=List.mem_flatMap.1 hv
 exact zo_pl x v hx
@[simp] theorem z4j (l:List Zo):(l.flatMap Zo.cells).length=l.length*4:=z89 zxa l
@[simp] theorem zos_all (l:List Zo):(l.flatMap Zo.cells).take (l.length*4)=l.flatMap Zo.cells:=List.take_of_length_le (Nat.le_of_eq (z4j l))
theorem zp2 (l:List Zo) (i:Nat):(l.flatMap Zo.cells).drop (i*4)=(l.drop i).flatMap Zo.cells:=z5t zxa l i
theorem zqh (l:List Zo) (i:Nat):(l.flatMap Zo.cells).take (i*4)=(l.take i).flatMap Zo.cells:=z56 zxa l i
theorem zif:∀x:Ex,(Ex.cells x).length=5:=fun x=> by simp [Ex.cells]
@[simp] theorem ex_pl (x:Ex):Pl false (Ex.cells x):=by simp [Ex.cells]
@[simp] theorem y3l (l:List Ex):Pl false (l.flatMap Ex.cells):=fun v hv=> by
 obtain ⟨x,_,hx⟩:=List.mem_flatMap.1 hv
 exact ex_pl x v hx
@[simp] theorem u0 (l:List Ex):(l.flatMap Ex.cells).length=l.length*5:=z89 zif l
theorem zg9 (l:List Ex) (i:Nat) (h:i < l.length):((l.flatMap Ex.cells).drop (i*5)).take 5=Ex.cells (z0 l i):=zgi zif _ l i h
theorem z0c (l:List Ex) (i k:Nat) (v:AV) (h:i < l.length) (hv:(Ex.cells (z0 l i))[k]? =some v):(((l.flatMap Ex.cells).drop (i*5)).drop k).take 1=[v]:=zs0 zif _ l i k v h hv
theorem z4h (l:List Ex) (i:Nat) (v:AV) (h:i < l.length) (hv:(Ex.cells (z0 l i))[0]? =some v):((l.flatMap Ex.cells).drop (i*5)).take 1=[v]:=by have:=z0c l i 0 v h hv;rwa [List.drop_zero] at this
theorem z10 (l:List Ex) (i k:Nat) (v:AV) (h:i < l.length) (hv:(Ex.cells (z0 l i))[k]? =some v):((l.flatMap Ex.cells).drop (i*5+k)).take 1=[v]:=by rw [←List.drop_drop];exact z0c l i k v h hv
theorem y2z (l:List Ex) (i:Nat) (x:Ex) (h:i < l.length):over (l.flatMap Ex.cells) (i*5) (Ex.cells x)=(l.set i x).flatMap Ex.cells:=zy0 zif l i x h
theorem ze7 (l:List Ex) (i k:Nat) (vs:List AV) (x:Ex) (h:i < l.length) (hk:k+vs.length≤5) (e:over (Ex.cells (z0 l i)) k vs=Ex.cells x):over (l.flatMap Ex.cells) (i*5+k) vs=(l.set i x).flatMap Ex.cells:=zn6 zif _ l i k vs x h hk e
theorem w9 {o:Nat} {l:List Ex} {i:Nat} (e:o=i*5) (h:i < l.length):((l.flatMap Ex.cells).drop o).take 5=Ex.cells (z0 l i):=e▸zg9 l i h
theorem z6r {o:Nat} {vs:List AV} {l:List Ex} {i:Nat} {x:Ex} (e:o=i*5) (h:i < l.length) (hv:vs=Ex.cells x):over (l.flatMap Ex.cells) o vs=(l.set i x).flatMap Ex.cells:=by subst e;subst hv;exact y2z l i x h
@[simp] theorem exs_all (l:List Ex):(l.flatMap Ex.cells).take (l.length*5)=l.flatMap Ex.cells:=List.take_of_length_le (Nat.le_of_eq (u0 l))
theorem zoy (l:List Ex) (i:Nat):(l.flatMap Ex.cells).drop (i*5)=(l.drop i).flatMap Ex.cells:=z5t zif l i
theorem zqj (l:List Ex) (i:Nat):(l.flatMap Ex.cells).take (i*5)=(l.take i).flatMap Ex.cells:=z56 zif l i
theorem zyo:∀x:Sp,(Sp.cells x).length=3:=fun x=> by simp [Sp.cells]
@[simp] theorem sp_pl (x:Sp):Pl false (Sp.cells x):=by simp [Sp.cells]
@[simp] theorem y35 (l:List Sp):Pl false (l.flatMap Sp.cells):=fun v hv=> by
 obtain ⟨x,_,hx⟩:=List.mem_flatMap.1 hv
 exact sp_pl x v hx
@[simp] theorem z4m (l:List Sp):(l.flatMap Sp.cells).length=l.length*3:=z89 zyo l
@[simp] theorem sps_all (l:List Sp):(l.flatMap Sp.cells).take (l.length*3)=l.flatMap Sp.cells:=List.take_of_length_le (Nat.le_of_eq (z4m l))
theorem zoi (l:List Sp) (i:Nat):(l.flatMap Sp.cells).drop (i*3)=(l.drop i).flatMap Sp.cells:=z5t zyo l i
theorem zpb (l:List Sp) (i:Nat):(l.flatMap Sp.cells).take (i*3)=(l.take i).flatMap Sp.cells:=z56 zyo l i
theorem zkk:∀x:Ce,(Ce.cells x).length=34:=fun x=> by simp [Ce.cells,pad]
@[simp] theorem ce_pl {fr:Bool} (x:Ce):Pl fr (Ce.cells x):=by simp [Ce.cells]
@[simp] theorem y2k {fr:Bool} (l:List Ce):Pl fr (l.flatMap Ce.cells):=fun v hv=> by
 obtain ⟨x,_,hx⟩:=List.mem_flatMap.1 hv
 exact ce_pl x v hx
@[simp] theorem z2e (l:List Ce):(l.flatMap Ce.cells).length=l.length*34:=z89 zkk l
theorem y1a (l:List Ce) (i:Nat) (h:i < l.length):((l.flatMap Ce.cells).drop (i*34)).take 34=Ce.cells (x7 l i):=zgi zkk _ l i h
theorem zd0 (l:List Ce) (i k:Nat) (v:AV) (h:i < l.length) (hv:(Ce.cells (x7 l i))[k]? =some v):(((l.flatMap Ce.cells).drop (i*34)).drop k).take 1=[v]:=zs0 zkk _ l i k v h hv
theorem zbr (l:List Ce) (i k:Nat) (v:AV) (h:i < l.length) (hv:(Ce.cells (x7 l i))[k]? =some v):((l.flatMap Ce.cells).drop (i*34+k)).take 1=[v]:=by rw [←List.drop_drop];exact zd0 l i k v h hv
theorem y37 (l:List Ce) (i:Nat) (x:Ce) (h:i < l.length):over (l.flatMap Ce.cells) (i*34) (Ce.cells x)=(l.set i x).flatMap Ce.cells:=zy0 zkk l i x h
theorem z47 {o:Nat} {l:List Ce} {i:Nat} (e:o=i*34) (h:i < l.length):((l.flatMap Ce.cells).drop o).take 34=Ce.cells (x7 l i):=e▸y1a l i h
theorem y0p {o:Nat} {vs:List AV} {l:List Ce} {i:Nat} {x:Ce} (e:o=i*34) (h:i < l.length) (hv:vs=Ce.cells x):over (l.flatMap Ce.cells) o vs=(l.set i x).flatMap Ce.cells:=by subst e;subst hv;exact y37 l i x h
@[simp] theorem ces_all (l:List Ce):(l.flatMap Ce.cells).take (l.length*34)=l.flatMap Ce.cells:=List.take_of_length_le (Nat.le_of_eq (z2e l))
theorem zp8 (l:List Ce) (i:Nat):(l.flatMap Ce.cells).drop (i*34)=(l.drop i).flatMap Ce.cells:=z5t zkk l i
theorem zok (l:List Ce) (i:Nat):(l.flatMap Ce.cells).take (i*34)=(l.take i).flatMap Ce.cells:=z56 zkk l i
theorem y24 {z:List AV} (n:Nat) (x:Ce) (e:z=Ce.cells x):(List.replicate n z).flatten=(List.replicate n x).flatMap Ce.cells:=by subst e;simp [List.flatMap]
theorem zlr:∀x:Po,(Po.cells x).length=3:=fun x=> by simp [Po.cells]
@[simp] theorem po_pl (x:Po):Pl false (Po.cells x):=by simp [Po.cells]
@[simp] theorem y26 (l:List Po):Pl false (l.flatMap Po.cells):=fun v hv=> by
 obtain ⟨x,_,hx⟩:=List.mem_flatMap.1 hv
 exact po_pl x v hx
@[simp] theorem z0h (l:List Po):(l.flatMap Po.cells).length=l.length*3:=z89 zlr l
theorem y0t (l:List Po) (i:Nat) (h:i < l.length):((l.flatMap Po.cells).drop (i*3)).take 3=Po.cells (w6 l i):=zgi zlr _ l i h
theorem z2b (l:List Po) (i k:Nat) (v:AV) (h:i < l.length) (hv:(Po.cells (w6 l i))[k]? =some v):(((l.flatMap Po.cells).drop (i*3)).drop k).take 1=[v]:=zs0 zlr _ l i k v h hv
theorem zn8 (l:List Po) (i:Nat) (v:AV) (h:i < l.length) (hv:(Po.cells (w6 l i))[0]? =some v):((l.flatMap Po.cells).drop (i*3)).take 1=[v]:=by have:=z2b l i 0 v h hv;rwa [List.drop_zero] at this
theorem z2d (l:List Po) (i k:Nat) (v:AV) (h:i < l.length) (hv:(Po.cells (w6 l i))[k]? =some v):((l.flatMap Po.cells).drop (i*3+k)).take 1=[v]:=by rw [←List.drop_drop];exact z2b l i k v h hv
theorem y06 (l:List Po) (i k:Nat) (vs:List AV) (x:Po) (h:i < l.length) (hk:k+vs.length≤3) (e:over (Po.cells (w6 l i)) k vs=Po.cells x):over (l.flatMap Po.cells) (i*3+k) vs=(l.set i x).flatMap Po.cells:=zn6 zlr _ l i k vs x h hk e
theorem y1d {l:List Po} {i k a b:Nat} {vs:List AV} {x:Po} (ea:a=i*3+k) (eb:b=a+vs.length) (h:i < l.length) (hk:k+vs.length≤3) (e:over (Po.cells (w6 l i)) k vs=Po.cells x):(l.flatMap Po.cells).take a++vs++(l.flatMap Po.cells).drop b=(l.set i x).flatMap Po.cells:=by subst eb;subst ea;exact y06 l i k vs x h hk e
theorem z02 {o:Nat} {l:List Po} {i:Nat} (e:o=i*3) (h:i < l.length):((l.flatMap Po.cells).drop o).take 3=Po.cells (w6 l i):=e▸y0t l i h
@[simp] theorem pos_all (l:List Po):(l.flatMap Po.cells).take (l.length*3)=l.flatMap Po.cells:=List.take_of_length_le (Nat.le_of_eq (z0h l))
theorem zhk (l:List Po) (i:Nat):(l.flatMap Po.cells).drop (i*3)=(l.drop i).flatMap Po.cells:=z5t zlr l i
theorem zj2 (l:List Po) (i:Nat):(l.flatMap Po.cells).take (i*3)=(l.take i).flatMap Po.cells:=z56 zlr l i
theorem y16 (l:List Po) (i:Nat):delC 3 i (l.flatMap Po.cells)=(l.take i++l.drop (i+1)).flatMap Po.cells:=by rw [delC,zj2,zhk,List.flatMap_append]
theorem zzd:∀x:Sa,(Sa.cells x).length=6:=fun x=> by simp [Sa.cells]
@[simp] theorem sa_pl (x:Sa):Pl false (Sa.cells x):=by simp [Sa.cells]
@[simp] theorem y3p (l:List Sa):Pl false (l.flatMap Sa.cells):=fun v hv=> by
 obtain ⟨x,_,hx⟩:=List.mem_flatMap.1 hv
 exact sa_pl x v hx
@[simp] theorem z4d (l:List Sa):(l.flatMap Sa.cells).length=l.length*6:=z89 zzd l
@[simp] theorem sas_all (l:List Sa):(l.flatMap Sa.cells).take (l.length*6)=l.flatMap Sa.cells:=List.take_of_length_le (Nat.le_of_eq (z4d l))
theorem zpk (l:List Sa) (i:Nat):(l.flatMap Sa.cells).drop (i*6)=(l.drop i).flatMap Sa.cells:=z5t zzd l i
theorem zq1 (l:List Sa) (i:Nat):(l.flatMap Sa.cells).take (i*6)=(l.take i).flatMap Sa.cells:=z56 zzd l i
theorem ztv:∀x:Ch,(Ch.cells x).length=6:=fun x=> by simp [Ch.cells]
@[simp] theorem ch_pl (x:Ch):Pl false (Ch.cells x):=by simp [Ch.cells]
@[simp] theorem y2x (l:List Ch):Pl false (l.flatMap Ch.cells):=fun v hv=> by
 obtain ⟨x,_,hx⟩:=List.mem_flatMap.1 hv
 exact ch_pl x v hx
@[simp] theorem z4k (l:List Ch):(l.flatMap Ch.cells).length=l.length*6:=z89 ztv l
theorem zmn (l:List Ch) (i:Nat) (h:i < l.length):((l.flatMap Ch.cells).drop (i*6)).take 6=Ch.cells (z1k l i):=zgi ztv _ l i h
theorem z8w {o:Nat} {l:List Ch} {i:Nat} (e:o=i*6) (h:i < l.length):((l.flatMap Ch.cells).drop o).take 6=Ch.cells (z1k l i):=e▸zmn l i h
@[simp] theorem chs_all (l:List Ch):(l.flatMap Ch.cells).take (l.length*6)=l.flatMap Ch.cells:=List.take_of_length_le (Nat.le_of_eq (z4k l))
theorem zqz (l:List Ch) (i:Nat):(l.flatMap Ch.cells).drop (i*6)=(l.drop i).flatMap Ch.cells:=z5t ztv l i
theorem zog (l:List Ch) (i:Nat):(l.flatMap Ch.cells).take (i*6)=(l.take i).flatMap Ch.cells:=z56 ztv l i
theorem zwa:∀x:Sm,(Sm.cells x).length=4:=fun x=> by simp [Sm.cells]
@[simp] theorem sm_pl (x:Sm):Pl false (Sm.cells x):=by simp [Sm.cells]
@[simp] theorem y2y (l:List Sm):Pl false (l.flatMap Sm.cells):=fun v hv=> by
 obtain ⟨x,_,hx⟩:=List.mem_flatMap.1 hv
 exact sm_pl x v hx
@[simp] theorem z4c (l:List Sm):(l.flatMap Sm.cells).length=l.length*4:=z89 zwa l
@[simp] theorem sms_all (l:List Sm):(l.flatMap Sm.cells).take (l.length*4)=l.flatMap Sm.cells:=List.take_of_length_le (Nat.le_of_eq (z4c l))
theorem zq2 (l:List Sm) (i:Nat):(l.flatMap Sm.cells).drop (i*4)=(l.drop i).flatMap Sm.cells:=z5t zwa l i
theorem zoe (l:List Sm) (i:Nat):(l.flatMap Sm.cells).take (i*4)=(l.take i).flatMap Sm.cells:=z56 zwa l i
theorem zw4:∀x:Cm,(Cm.cells x).length=6:=fun x=> by simp [Cm.cells]
@[simp] theorem cm_pl (x:Cm):Pl false (Cm.cells x):=by simp [Cm.cells]
@[simp] theorem y3d (l:List Cm):Pl false (l.flatMap Cm.cells):=fun v hv=> by
 obtain ⟨x,_,hx⟩:=List.mem_flatMap.1 hv
 exact cm_pl x v hx
@[simp] theorem z4e (l:List Cm):(l.flatMap Cm.cells).length=l.length*6:=z89 zw4 l
@[simp] theorem cms_all (l:List Cm):(l.flatMap Cm.cells).take (l.length*6)=l.flatMap Cm.cells:=List.take_of_length_le (Nat.le_of_eq (z4e l))
theorem zp9 (l:List Cm) (i:Nat):(l.flatMap Cm.cells).drop (i*6)=(l.drop i).flatMap Cm.cells:=z5t zw4 l i
theorem zo6 (l:List Cm) (i:Nat):(l.flatMap Cm.cells).take (i*6)=(l.take i).flatMap Cm.cells:=z56 zw4 l i
/-! KINDS B END -/
theorem zxp (p l vs:List AV) (k:Nat):over (p++l) (p.length+k) vs=p++over l k vs:=by
 unfold over
 rw [List.take_append,List.take_of_length_le (by omega),Nat.add_sub_cancel_left,List.drop_append,List.drop_of_length_le (l:=p) (by omega),List.nil_append,show p.length+k+vs.length - p.length=k+vs.length by omega]
 simp
theorem zpd {l:List UInt8} {cs:List AV} {i:Nat} (e:cs=l.map .y) (h:i < l.length):(cs.drop i).take 1=[AV.y (l.getD i 0)]:=e▸zxv l i h
theorem z9a {cs vs:List AV} (h:cs.length=vs.length):over cs 0 vs=vs:=by
 unfold over;rw [List.drop_of_length_le (by omega)];simp
theorem zro (l:List UInt8) (i:Nat) (b:UInt8) (h:i < l.length):over (l.map .y) i [.y b]=(l.set i b).map .y:=by
 rw [List.set_eq_take_append_cons_drop,if_pos h];simp [over]
theorem zr9 {p:List AV} {l:List UInt8} {n k:Nat} {v:UInt8} (hn:n=p.length+k) (h:k < l.length):over (p++l.map .y) n [.y v]=p++(l.set k v).map .y:=by rw [hn,zxp,zro l k v h]
@[simp] theorem Pl_b (fr:Bool) (l:List Bool):Pl fr (l.map .b):=by
 intro v hv
 obtain ⟨b,_,rfl⟩:=List.mem_map.1 hv
 rfl
def lp (P:Program) (f n:Nat):Code:=match zas P f with | some af=> (z5x af.body).getD n .skip | none=> .skip
def zxn (ks:List Nat) (x:(AX×St)×List Prop×List Hint):(AX×St)×List Prop×List Hint:=((x.1.1,⟨ks.map fun k=> (k,x.1.2.T.get k),x.1.2.n,x.1.2.H,x.1.2.q⟩),x.2)
theorem zpx (T:Tm):∀(ks:List Nat) (i:Nat),Tm.get (ks.map fun k=> (k,T.get k)) i=T.get i∨Tm.get (ks.map fun k=> (k,T.get k)) i=.top
 | [],i=> .inr rfl
 | k::ks,i=> by
   simp only [List.map_cons,Tm.get]
   by_cases h:k=i
   · subst h;rw [Nat.beq_refl];exact .inl rfl
   · rw [show Nat.beq k i=false by rw [←Bool.not_eq_true,Nat.beq_eq];exact h]
     exact zpx T ks i
theorem zx1 {base:Nat} {st:St} (ks:List Nat) (h:base≤st.H.nx):z7f base st ⟨ks.map fun k=> (k,st.T.get k),st.n,st.H,st.q⟩:=
 ⟨rfl,h,fun C a w hs=> ⟨C,(Step.refl C w).toB,⟨fun i=> by
   rcases zpx st.T ks i with e | e
   · show x3 C w (Tm.get (ks.map fun k=> (k,st.T.get k)) i) _
     rw [e];exact hs.tm i
   · show x3 C w (Tm.get (ks.map fun k=> (k,st.T.get k)) i) _
     rw [e];simp only [x3],hs.n,hs.sim,hs.new⟩⟩⟩
section
variable {P : Program} {cf : Cfg}
theorem y0n {e:Option ((AX×St)×List Prop×List Hint)} {ks:List Nat} {x:AX} {st2:St} {ps:List Prop} {r:List Hint} (h:e.map (zxn ks)=some ((x,st2),ps,r)):∃st1,e=some ((x,st1),ps,r)∧st2=⟨ks.map fun k=> (k,st1.T.get k),st1.n,st1.H,st1.q⟩:=by
 cases e with
 | none=> cases h
 | some y=>
   obtain ⟨⟨x1,st1⟩,ps1,r1⟩:=y
   simp only [Option.map_some,zxn,Option.some.injEq,Prod.mk.injEq] at h
   obtain ⟨⟨rfl,h2⟩,rfl,rfl⟩:=h
   exact ⟨st1,rfl,h2.symm⟩
theorem z03 {V:View} (hV:V=View.of P) {k base:Nat} {c:Code} {S S':St} {hs:List Hint} {ks:List Nat} {st1:St} {ps:List Prop} {r:List Hint} (h:(exec P cf (z25 V cf k c S) hs).map (zxn ks)=some ((.normal,st1),ps,r)) (hp:All ps) (hb:base≤S'.H.nx) (hc:base≤st1.H.nx) (ha:z7f base st1 S'):v4 P cf base c S S':=by
 subst hV
 obtain ⟨st,e,e2⟩:=y0n h
 subst e2
 exact ⟨hb,st,zxw e hp,(zx1 (st:=st) ks hc).trans ha⟩
end
/-! Rounds that leave a state of the very form: nothing is said again. -/
def idV (base:Nat):Nat→AV→Bool
 | 0,_=> false
 | k+1,v=> match v with
   | .top=> true
   | .i _=> true
   | .y _=> true
   | .b _=> true
   | .st _=> true
   | .nl=> true
   | .sl _ _=> true
   | .pt b _=> Nat.ble (b+1) base
   | .rf b _ _ _=> Nat.ble (b+1) base
   | .ag xs=> xs.all (idV base k)
   | .tu xs=> xs.all (idV base k)
   | .fn _ xs=> xs.all (idV base k)
   | _=> false
theorem zt3 {R:Rn} {f:AV→Bool} (h:∀v,f v=true→VTo R v v):∀xs:List AV,xs.all f=true→LTo R xs xs
 | [],_=> .nil
 | x::xs,e=> by
   rw [List.all_cons,Bool.and_eq_true] at e
   exact .cons (h x e.1) (zt3 h xs e.2)
theorem zsy {R:Rn}:∀(k:Nat) (v:AV),idV R.base k v=true→VTo R v v
 | 0,_,e=> by cases e
 | k+1,v,e=> by
   have ih:∀xs:List AV,xs.all (idV R.base k)=true→LTo R xs xs:=zt3 (zsy k)
   have hm:∀b,Nat.ble (b+1) R.base=true→R.m b=some b:=fun b h=> by
    have h2:b < R.base:=Nat.le_of_ble_eq_true h
    unfold Rn.m;rw [if_pos h2]
   cases v with
   | top=> exact .top _
   | i n=> exact .pur 1 rfl (by simp)
   | y n=> exact .pur 1 rfl (by simp)
   | b n=> exact .pur 1 rfl (by simp)
   | st n=> exact .pur 1 rfl (by simp)
   | nl=> exact .nl0
   | sl n cs=> exact .pur (bs:=[]) 1 (by simp [t7]) (by simp)
   | pt b o=> exact .pt (hm b e)
   | rf b z o n=> exact .rf (hm b e)
   | ag xs=> exact .ag (ih xs e)
   | tu xs=> exact .tu (ih xs e)
   | fn f xs=> exact .fn (ih xs e)
   | _=> cases e
def idO (base:Nat):AObj→Bool
 | .cells xs=> xs.all (idV base 9)
 | _=> false
def ztw (base:Nat) (ks bs:List Nat) (x:(AX×St)×List Prop×List Hint):Option ((AX×St)×List Prop×List Hint):=
 bif Nat.ble base x.1.2.H.nx then some ((x.1.1,⟨ks.map fun k=> (k,x.1.2.T.get k),x.1.2.n,⟨base,bs.filterMap fun b=> (x.1.2.H.get b).map fun o=> (b,o)⟩,x.1.2.q⟩),x.2) else none
def okI (base:Nat) (s:St):Bool:=s.T.all (fun p=> idV base 9 p.2) && s.H.l.all fun p=> Nat.ble (p.1+1) base && idO base p.2
theorem zpu {R:Rn} {T:Tm}:∀ks:List Nat,((ks.map fun k=> (k,T.get k)).all fun p=> idV R.base 9 p.2)=true→TTo R T (ks.map fun k=> (k,T.get k))
 | [],_=> TTo.nil
 | k::ks,e=> by
   rw [List.map_cons,List.all_cons,Bool.and_eq_true] at e
   exact TTo.cons (zsy 9 _ e.1) (zpu ks e.2)
theorem zi7 {R:Rn}:∀bs:List Nat,((bs.filterMap fun b=> (R.H.get b).map fun o=> (b,o)).all fun p=> Nat.ble (p.1+1) R.base && idO R.base p.2)=true→HTo R (bs.filterMap fun b=> (R.H.get b).map fun o=> (b,o))
 | [],_=> HTo.nil
 | b::bs,e=> by
   cases h:R.H.get b with
   | none=>
     rw [List.filterMap_cons_none (by rw [h];rfl)] at e⊢
     exact zi7 bs e
   | some o=>
     rw [List.filterMap_cons_some (b:=(b,o)) (by rw [h];rfl)] at e⊢
     rw [List.all_cons,Bool.and_eq_true,Bool.and_eq_true] at e
     refine HTo.cons (.inl ⟨b,o,?_,h,?_⟩) (zi7 bs e.2)
     · have h2:b < R.base:=Nat.le_of_ble_eq_true e.1.1
       unfold Rn.m;rw [if_pos h2]
     · cases o with
       | cells xs=> exact .cells (zt3 (zsy 9) xs e.1.2)
       | _=> cases e.1.2
theorem zvl {base:Nat} {st:St} (ks bs:List Nat) (h:Nat.ble base st.H.nx=true) (ho:okI base ⟨ks.map fun k=> (k,st.T.get k),st.n,⟨base,bs.filterMap fun b=> (st.H.get b).map fun o=> (b,o)⟩,st.q⟩=true):
 z7f base st ⟨ks.map fun k=> (k,st.T.get k),st.n,⟨base,bs.filterMap fun b=> (st.H.get b).map fun o=> (b,o)⟩,st.q⟩:=by
 unfold okI at ho
 rw [Bool.and_eq_true] at ho
 refine x0 [] [] ?_ (zpu (R:=⟨st.H,base,[],[]⟩) ks ho.1) (zi7 (R:=⟨st.H,base,[],[]⟩) bs ho.2)
 simp [Rn.okB,Nat.le_of_ble_eq_true h]
section
variable {P : Program} {cf : Cfg}
theorem znz {base:Nat} {e:Option ((AX×St)×List Prop×List Hint)} {ks bs:List Nat} {x:AX} {st2:St} {ps:List Prop} {r:List Hint} (h:e.bind (ztw base ks bs)=some ((x,st2),ps,r)) (ho:okI base st2=true):∃st1,e=some ((x,st1),ps,r)∧z7f base st1 st2:=by
 cases e with
 | none=> cases h
 | some y=>
   obtain ⟨⟨x1,st1⟩,ps1,r1⟩:=y
   simp only [Option.bind_some,ztw] at h
   cases hb:Nat.ble base st1.H.nx with
   | false=> rw [hb] at h;cases h
   | true=>
     rw [hb] at h
     simp only [cond_true,Option.some.injEq,Prod.mk.injEq] at h
     obtain ⟨⟨rfl,rfl⟩,rfl,rfl⟩:=h
     exact ⟨st1,rfl,zvl ks bs hb ho⟩
theorem u4 {V:View} (hV:V=View.of P) {k base:Nat} {c:Code} {S S':St} {hs:List Hint} {ks bs:List Nat} {ps:List Prop} {r:List Hint} (h:(exec P cf (z25 V cf k c S) hs).bind (ztw base ks bs)=some ((.normal,S'),ps,r)) (hp:All ps) (ho:okI base S'=true):v4 P cf base c S S':=by
 subst hV
 obtain ⟨st,e,ha⟩:=znz h ho
 exact ⟨ha.2.1,st,zxw e hp,ha⟩
theorem y3g {V:View} (hV:V=View.of P) {k base:Nat} {body c:Code} {l:Nat} {S S':St} {hs:List Hint} {ks bs:List Nat} {ps:List Prop} {r:List Hint} (hf:findLabel body l=some c) (h:(exec P cf (z25 V cf k c S) hs).bind (ztw base ks bs)=some ((.goto l,S'),ps,r)) (hp:All ps) (ho:okI base S'=true):zm9 P cf base body c S S':=by
 subst hV
 obtain ⟨st,e,ha⟩:=znz h ho
 exact ⟨ha.2.1,l,st,hf,zxw e hp,ha⟩
end
open Classical in
noncomputable def th {σ α:Type} (step:σ→Option σ) (s0:σ) (f:σ→Option α):Option α:=if h:∃s,Runs step s0 s∧step s=none then f h.choose else none
theorem z0m {σ α:Type} {step:σ→Option σ} {s0:σ} {f:σ→Option α} {r:α} {G:Prop} (h1:∀s,Runs step s0 s→f s=some r→G) (h:th step s0 f=some r):G:=by
 unfold th at h
 split at h
 · rename_i hh;exact h1 _ hh.choose_spec.1 h
 · cases h
theorem y1i {σ α:Type} {step:σ→Option σ} {s0 s:σ} {f:σ→Option α} {r:Option α} (h1:Runs step s0 s) (h2:step s=none) (h3:f s=r):th step s0 f=r:=by
 have hh:∃s,Runs step s0 s∧step s=none:=⟨s,h1,h2⟩
 unfold th
 rw [dif_pos hh,hh.choose_spec.1.det hh.choose_spec.2 h1 h2]
 exact h3
theorem zxt {σ:Type} {step:σ→Option σ} {I:σ→Prop} (m:σ→Nat) (hs:∀s s',I s→step s=some s'→I s'∧m s' < m s):∀(n:Nat) (s:σ),m s≤n→I s→∃s',Runs step s s'∧I s'∧step s'=none:=by
 intro n
 induction n with
 | zero=>
   intro s hm hI
   cases h:step s with
   | none=> exact ⟨s,.refl s,hI,h⟩
   | some s'=> have:=(hs s s' hI h).2;omega
 | succ n ih=>
   intro s hm hI
   cases h:step s with
   | none=> exact ⟨s,.refl s,hI,h⟩
   | some s'=>
     obtain ⟨h1,h2⟩:=hs s s' hI h
     obtain ⟨s'',r,g1,g2⟩:=ih s' (by omega) h1
     exact ⟨s'',.step h r,g1,g2⟩
theorem y2o {σ α:Type} {step:σ→Option σ} {s0:σ} {f:σ→Option α} {r:Option α} (I:σ→Prop) (m:σ→Nat) (h0:I s0) (hs:∀s s',I s→step s=some s'→I s'∧m s' < m s) (he:∀s,I s→step s=none→f s=r):th step s0 f=r:=by
 obtain ⟨s',h1,h2,h3⟩:=zxt m hs (m s0) s0 (Nat.le_refl _) h0
 exact y1i h1 h3 (he s' h2 h3)
/-! ### Trees -/
section
variable {α β : Type}
def tb (c:Bool) (x y:Option α):Option α:=bif c then x else y
def tp (p:Prop) [Decidable p] (x:Option α):Option α:=if p then x else none
def tc (m:Option β) (f:β→Option α):Option α:=m.bind f
theorem u6 {c:Bool} {x y:Option α} {r:α} {G:Prop} (h1:c=true→x=some r→G) (h2:c=false→y=some r→G) (h:tb c x y=some r):G:=by
 cases c with
 | true=> exact h1 rfl h
 | false=> exact h2 rfl h
theorem tbD {p:Prop} [Decidable p] {x y:Option α} {r:α} {G:Prop} (h1:decide p=true→p→x=some r→G) (h2:decide p=false→¬p→y=some r→G) (h:tb (decide p) x y=some r):G:=
 u6 (fun e=> h1 e (of_decide_eq_true e)) (fun e=> h2 e (of_decide_eq_false e)) h
theorem tbE {a b:Int} {x y:Option α} {r:α} {G:Prop} (h1:(a==b)=true→a=b→x=some r→G) (h2:(a==b)=false→a≠b→y=some r→G) (h:tb (a==b) x y=some r):G:=
 u6 (fun e=> h1 e (eq_of_beq e)) (fun e=> h2 e (ne_of_beq_false e)) h
theorem tbN {a b:Int} {x y:Option α} {r:α} {G:Prop} (h1:(a !=b)=true→a≠b→x=some r→G) (h2:(a !=b)=false→a=b→y=some r→G) (h:tb (a !=b) x y=some r):G:=
 u6 (fun e=> h1 e (bne_iff_ne.1 e)) (fun e=> h2 e (bne_eq_false_iff_eq.1 e)) h
theorem v9 {r:α} {G:Prop} (h:none=some r):G:=nomatch h
theorem x9 {p:Prop} [Decidable p] {x:Option α} {r:α} {G:Prop} (h1:p→x=some r→G) (h:tp p x=some r):G:=by
 unfold tp at h
 split at h
 · rename_i hp;exact h1 hp h
 · cases h
theorem w7 {m:Option β} {f:β→Option α} {r:α} {G:Prop} (h1:∀s,m=some s→f s=some r→G) (h:tc m f=some r):G:=by
 unfold tc at h
 cases hm:m with
 | none=> rw [hm] at h;cases h
 | some s=> rw [hm] at h;exact h1 s hm h
end
theorem kq {p:Prop} (h:p:=by kernel_rfl):p:=h
theorem an:All []:=trivial
theorem ac {p:Prop} {ps:List Prop} (h:p) (t:All ps):All (p::ps):=⟨h,t⟩
/-! TACTICS -/
theorem tq {p:Prop} (h:p:=by (first | rfl | assumption | (simp;done) | omega | (simp;omega) | ((try simp only [List.length_map,List.length_take,List.length_drop,List.length_append,List.length_cons,List.length_nil,List.length_replicate,List.length_set,z4j,u0,z4m,z2e,z0h,z4d,z4k,z4c,z4e] at*);omega) | (simp [z78,z4n];(repeat' split) <;> omega) | (simp [Zo.cells,Zo.av,zos,Ex.cells,Ex.av,exs,Sp.cells,Sp.av,sps,Ce.cells,Ce.av,ces,Po.cells,Po.av,pos,Sa.cells,Sa.av,sas,Ch.cells,Ch.av,chs,Sm.cells,Sm.av,sms,Cm.cells,Cm.av,cms,bys,zke,zc4];done) | (simp [List.take_of_length_le,Zo.cells,Zo.av,zos,Ex.cells,Ex.av,exs,Sp.cells,Sp.av,sps,Ce.cells,Ce.av,ces,Po.cells,Po.av,pos,Sa.cells,Sa.av,sas,Ch.cells,Ch.av,chs,Sm.cells,Sm.av,sms,Cm.cells,Cm.av,cms,bys,zke,zc4];done) | (simp only [Zo.cells,Zo.av,zos,Ex.cells,Ex.av,exs,Sp.cells,Sp.av,sps,Ce.cells,Ce.av,ces,Po.cells,Po.av,pos,Sa.cells,Sa.av,sas,Ch.cells,Ch.av,chs,Sm.cells,Sm.av,sms,Cm.cells,Cm.av,cms,bys,zke,zc4,AV.tu.injEq,AV.ag.injEq,AV.sl.injEq,AV.rf.injEq,AV.i.injEq,AObj.cells.injEq,AH.mk.injEq,Prod.mk.injEq,List.cons.injEq,and_true,true_and,List.flatMap_append,List.flatMap_cons,List.flatMap_nil,List.append_nil,List.nil_append,List.cons_append,List.append_assoc,List.append_cancel_left_eq,List.map_take,List.map_drop,List.map_append,List.length_map,List.length_take,List.length_drop,List.length_append,List.length_cons,List.length_nil,List.length_replicate,List.length_set,z4j,u0,z4m,z2e,z0h,z4d,z4k,z4c,z4e];(repeat' apply And.intro) <;> (first | rfl | omega | (simp;done) | (simp;omega))) | ((try simp only [List.length_map,List.length_take,List.length_drop,List.length_append,List.length_cons,List.length_nil,List.length_replicate,List.length_set,z4j,u0,z4m,z2e,z0h,z4d,z4k,z4c,z4e] at*);simp only [Zo.cells,Zo.av,zos,Ex.cells,Ex.av,exs,Sp.cells,Sp.av,sps,Ce.cells,Ce.av,ces,Po.cells,Po.av,pos,Sa.cells,Sa.av,sas,Ch.cells,Ch.av,chs,Sm.cells,Sm.av,sms,Cm.cells,Cm.av,cms,bys,zke,zc4,AV.tu.injEq,AV.ag.injEq,AV.sl.injEq,AV.rf.injEq,AV.i.injEq,AObj.cells.injEq,AH.mk.injEq,Prod.mk.injEq,List.cons.injEq,and_true,true_and,List.flatMap_append,List.flatMap_cons,List.flatMap_nil,List.append_nil,List.nil_append,List.cons_append,List.append_assoc,List.append_cancel_left_eq,List.map_take,List.map_drop,List.map_append,List.length_map,List.length_take,List.length_drop,List.length_append,List.length_cons,List.length_nil,List.length_replicate,List.length_set,z4j,u0,z4m,z2e,z0h,z4d,z4k,z4c,z4e];(repeat' apply And.intro) <;> (first | rfl | omega)) | (simp only [zp2,zqh,zoy,zqj,zoi,zpb,zp8,zok,zhk,zj2,zpk,zq1,zqz,zog,zq2,zoe,zp9,zo6];done) | (simp [List.map_take,List.map_drop,List.take_take,List.drop_drop];done) | (exact y24 _ _ rfl) | ((try simp only [List.length_map,List.length_take,List.length_drop,List.length_append,List.length_cons,List.length_nil,List.length_replicate,List.length_set,z4j,u0,z4m,z2e,z0h,z4d,z4k,z4c,z4e] at*);simp only [Zo.cells,Zo.av,zos,Ex.cells,Ex.av,exs,Sp.cells,Sp.av,sps,Ce.cells,Ce.av,ces,Po.cells,Po.av,pos,Sa.cells,Sa.av,sas,Ch.cells,Ch.av,chs,Sm.cells,Sm.av,sms,Cm.cells,Cm.av,cms,bys,zke,zc4,AV.tu.injEq,AV.ag.injEq,AV.sl.injEq,AV.rf.injEq,AV.i.injEq,AObj.cells.injEq,AH.mk.injEq,Prod.mk.injEq,List.cons.injEq,and_true,true_and,List.flatMap_append,List.flatMap_cons,List.flatMap_nil,List.append_nil,List.nil_append,List.cons_append,List.append_assoc,List.append_cancel_left_eq,List.map_take,List.map_drop,List.map_append,List.length_map,List.length_take,List.length_drop,List.length_append,List.length_cons,List.length_nil,List.length_replicate,List.length_set,z4j,u0,z4m,z2e,z0h,z4d,z4k,z4c,z4e,zp2,zqh,zoy,zqj,zoi,zpb,zp8,zok,zhk,zj2,zpk,zq1,zqz,zog,zq2,zoe,zp9,zo6];(repeat' apply And.intro) <;> (first | rfl | omega)))):p:=h
theorem oq {p:Prop} (h:p:=by (first | rfl | (simp [zml,zpe,zof,zol,zpt,AH.new];done) | (simp [zml,zpe,zof,zol,zpt,AH.new];omega) | (simp [zml,zpe,zof,zol,zpt,AH.new,Zo.cells,Zo.av,zos,Ex.cells,Ex.av,exs,Sp.cells,Sp.av,sps,Ce.cells,Ce.av,ces,Po.cells,Po.av,pos,Sa.cells,Sa.av,sas,Ch.cells,Ch.av,chs,Sm.cells,Sm.av,sms,Cm.cells,Cm.av,cms,bys,zke,zc4];done) | (simp only [zml,zpe,zof,zol,zpt,AH.new,Zo.cells,Zo.av,zos,Ex.cells,Ex.av,exs,Sp.cells,Sp.av,sps,Ce.cells,Ce.av,ces,Po.cells,Po.av,pos,Sa.cells,Sa.av,sas,Ch.cells,Ch.av,chs,Sm.cells,Sm.av,sms,Cm.cells,Cm.av,cms,bys,zke,zc4,List.headD_cons,List.tail_cons,Nat.beq,cond_false,cond_true];simp;done) | (simp only [zml,zpe,zof,zol,zpt,AH.new,List.headD_cons,List.tail_cons,Nat.beq,cond_false,cond_true,Zo.cells,Zo.av,zos,Ex.cells,Ex.av,exs,Sp.cells,Sp.av,sps,Ce.cells,Ce.av,ces,Po.cells,Po.av,pos,Sa.cells,Sa.av,sas,Ch.cells,Ch.av,chs,Sm.cells,Sm.av,sms,Cm.cells,Cm.av,cms,bys,zke,zc4,AV.tu.injEq,AV.ag.injEq,AV.sl.injEq,AV.rf.injEq,AV.i.injEq,AObj.cells.injEq,AH.mk.injEq,Prod.mk.injEq,List.cons.injEq,and_true,true_and,List.flatMap_append,List.flatMap_cons,List.flatMap_nil,List.append_nil,List.nil_append,List.cons_append,List.append_assoc,List.append_cancel_left_eq,List.map_take,List.map_drop,List.map_append,List.length_map,List.length_take,List.length_drop,List.length_append,List.length_cons,List.length_nil,List.length_replicate,List.length_set,z4j,u0,z4m,z2e,z0h,z4d,z4k,z4c,z4e];(repeat' apply And.intro) <;> (first | rfl | omega | (simp;done) | (simp;omega))) | ((try simp only [List.length_map,List.length_take,List.length_drop,List.length_append,List.length_cons,List.length_nil,List.length_replicate,List.length_set,z4j,u0,z4m,z2e,z0h,z4d,z4k,z4c,z4e] at*);simp only [zml,zpe,zof,zol,zpt,AH.new,List.headD_cons,List.tail_cons,Nat.beq,cond_false,cond_true,Zo.cells,Zo.av,zos,Ex.cells,Ex.av,exs,Sp.cells,Sp.av,sps,Ce.cells,Ce.av,ces,Po.cells,Po.av,pos,Sa.cells,Sa.av,sas,Ch.cells,Ch.av,chs,Sm.cells,Sm.av,sms,Cm.cells,Cm.av,cms,bys,zke,zc4,AV.tu.injEq,AV.ag.injEq,AV.sl.injEq,AV.rf.injEq,AV.i.injEq,AObj.cells.injEq,AH.mk.injEq,Prod.mk.injEq,List.cons.injEq,and_true,true_and,List.flatMap_append,List.flatMap_cons,List.flatMap_nil,List.append_nil,List.nil_append,List.cons_append,List.append_assoc,List.append_cancel_left_eq,List.map_take,List.map_drop,List.map_append,List.length_map,List.length_take,List.length_drop,List.length_append,List.length_cons,List.length_nil,List.length_replicate,List.length_set,z4j,u0,z4m,z2e,z0h,z4d,z4k,z4c,z4e];(repeat' apply And.intro) <;> (first | rfl | omega | (simp;done) | (simp;omega))))):p:=h
theorem bq {p:Prop} (h:p:=by (first | omega | (simp;omega) | ((try simp only [List.length_map,List.length_take,List.length_drop,List.length_append,List.length_cons,List.length_nil,List.length_replicate,List.length_set,z4j,u0,z4m,z2e,z0h,z4d,z4k,z4c,z4e] at*);omega))):p:=h
theorem pq {p:Prop} (h:p:=by (first | (simp;done) | (repeat (first | exact y2h _ | exact Pl_y _ _ | exact Pl_i _ _ | exact Pl_b _ _ | exact y3j _ | exact y3l _ | exact y35 _ | exact y2k _ | exact y26 _ | exact y3p _ | exact y2x _ | exact y2y _ | exact y3d _ | (simp;done) | apply y0d | apply y0v)))):p:=h
theorem fq {p:Prop} (h:p:=by ((try simp only [List.length_map,List.length_take,List.length_drop,List.length_append,List.length_cons,List.length_nil,List.length_replicate,List.length_set,z4j,u0,z4m,z2e,z0h,z4d,z4k,z4c,z4e] at*);omega)):p:=h
/-! TACTICS END -/
end Go.Proofs.Ytimcbhhebnikiaa.Ab
