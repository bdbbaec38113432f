/- The law 'StateDoes': it returns true, and nothing that was there changes. No condition. (Part 2 of 12.) -/
import Derived.Test.YtimcbhhebnikiaaSd1
import Derived.Laws.Sem
namespace Go.Proofs.Ytimcbhhebnikiaa.Ab
open Go
set_option linter.unusedVariables false
set_option linter.unusedSimpArgs false
structure Ctx where
 φ:Nat→Option Nat
 imm:Nat→Prop
def Ctx.pure (C:Ctx):Ctx:={C with φ:=fun _=> none}
def z0s (w:World) (b o:Nat) (vs:List Value):Prop:=∀i v,vs[i]? =some v→w.cell? ⟨b,o+i,none⟩=some v
def Reach (w:World) (b n:Nat):Prop:=∃(c:Array Value) (T:TypeId) (f:Nat×Nat),w.heap[b]? =some (Obj.cells c T f)∧n≤c.size
mutual
def x3 (C:Ctx) (w:World):AV→Value→Prop
 | .top,_=> True
 | .i n,v=> v=.int .i64 n
 | .y n,v=> v=.int .u8 n.toNat
 | .b n,v=> v=.bool n
 | .st l,v=> v=.string ⟨l.toArray⟩
 | .sc x,v=> v=x
 | .nl,v=> ∃a,v=.slice a 0 0
 | .sl n cs,v=> ∃a c,v=.slice a n c∧n≤c∧(n=0∨∃(ad:Addr) (vs:List Value),a=some ad∧ad.spot=none∧C.imm ad.block∧LRel C.pure w true cs vs∧z0s w ad.block ad.off vs)
 | .rf b z off n,v=> ∃a c,v=.slice a n c∧n≤c∧(c=0∨∃rb,C.φ b=some rb∧a=some ⟨rb,off,none⟩∧Reach w rb (off+c*z))
 | .pt b off,v=> ∃rb,C.φ b=some rb∧v=.pointer (some ⟨rb,off,none⟩)
 | .ip cs,v=> ∃(ad:Addr) (vs:List Value),v=.pointer (some ad)∧ad.spot=none∧C.imm ad.block∧LRel C.pure w true cs vs∧z0s w ad.block ad.off vs
 | .ag xs,v=> ∃vs:List Value,v=.agg vs.toArray∧LRel C w true xs vs
 | .tu xs,v=> ∃vs:List Value,v=.tuple vs.toArray∧LRel C w false xs vs
 | .fn f cap,v=> ∃vs:List Value,v=.func (.func f) #[] vs.toArray∧LRel C w false cap vs
 | .yl b,v=> ∃rb,C.φ b=some rb∧v=.func (.yield rb) #[] #[]
 | .mp b,v=> ∃rb,C.φ b=some rb∧v=.map (some rb)
def LRel (C:Ctx) (w:World) (one:Bool):List AV→List Value→Prop
 | [],vs=> vs=[]
 | x::xs,vs=> ∃v r,vs=v::r∧(one=true→v.oneCell'=true)∧x3 C w x v∧LRel C w one xs r
end
def z8t (w:World):=(w.os,w.tape,w.output)
structure Step (C:Ctx) (w:World) (C':Ctx) (w':World):Prop where
 φ:∀b rb,C.φ b=some rb→C'.φ b=some rb
 φnew:∀b rb,C'.φ b=some rb→C.φ b=some rb∨w.heap.size≤rb∨∃i,C.φ i=some rb
 imm:∀b,C.imm b→C'.imm b
 immnew:∀b,C'.imm b→C.imm b∨w.heap.size≤b∨∃i,C.φ i=some b
 size:w.heap.size≤w'.heap.size
 keep:∀b,b < w.heap.size→(∀i,C.φ i≠some b)→w'.heap[b]? =w.heap[b]?
 immkeep:∀b,C.imm b→w'.heap[b]? =w.heap[b]?
 sizes:∀(b:Nat) (c:Array Value) (T:TypeId) (f:Nat×Nat),w.heap[b]? =some (Obj.cells c T f)→∃c':Array Value,w'.heap[b]? =some (Obj.cells c' T f)∧c'.size=c.size
 env:z8t w'=z8t w
theorem Step.refl (C:Ctx) (w:World):Step C w C w:=
 ⟨fun _ _ h=> h,fun _ _ h=> .inl h,fun _ h=> h,fun _ h=> .inl h,Nat.le_refl _,fun _ _ _=> rfl,fun _ _=> rfl,fun _ c _ _ h=> ⟨c,h,rfl⟩,rfl⟩
theorem Step.trans {C C' C'':Ctx} {w w' w'':World} (h:Step C w C' w') (g:Step C' w' C'' w''):Step C w C'' w'' where
 φ b rb e:=g.φ b rb (h.φ b rb e)
 φnew b rb e:=by
  rcases g.φnew b rb e with e | e | ⟨i,e⟩
  · exact h.φnew b rb e
  · exact .inr (.inl (Nat.le_trans h.size e))
  · rcases h.φnew i rb e with e | e | e
    · exact .inr (.inr ⟨i,e⟩)
    · exact .inr (.inl e)
    · exact .inr (.inr e)
 imm b e:=g.imm b (h.imm b e)
 immnew b e:=by
  rcases g.immnew b e with e | e | ⟨i,e⟩
  · exact h.immnew b e
  · exact .inr (.inl (Nat.le_trans h.size e))
  · rcases h.φnew i b e with e | e | e
    · exact .inr (.inr ⟨i,e⟩)
    · exact .inr (.inl e)
    · exact .inr (.inr e)
 size:=Nat.le_trans h.size g.size
 keep b hb hn:=by
  rw [g.keep b (Nat.lt_of_lt_of_le hb h.size) ?_,h.keep b hb hn]
  intro i e
  rcases h.φnew i b e with e | e | ⟨j,e⟩
  · exact hn i e
  · omega
  · exact hn j e
 immkeep b e:=by rw [g.immkeep b (h.imm b e),h.immkeep b e]
 sizes b c T f e:=by
  obtain ⟨c',e',s'⟩:=h.sizes b c T f e
  obtain ⟨c'',e'',s''⟩:=g.sizes b c' T f e'
  exact ⟨c'',e'',by omega⟩
 env:=g.env.trans h.env
structure Mono (C:Ctx) (w:World) (C':Ctx) (w':World):Prop where
 φ:∀b rb,C.φ b=some rb→C'.φ b=some rb
 imm:∀b,C.imm b→C'.imm b
 immkeep:∀b,C.imm b→w'.heap[b]? =w.heap[b]?
 sizes:∀(b:Nat) (c:Array Value) (T:TypeId) (f:Nat×Nat),w.heap[b]? =some (Obj.cells c T f)→∃c':Array Value,w'.heap[b]? =some (Obj.cells c' T f)∧c'.size=c.size
theorem Step.mono {C C':Ctx} {w w':World} (h:Step C w C' w'):Mono C w C' w':=⟨h.φ,h.imm,h.immkeep,h.sizes⟩
theorem Mono.pure {C C':Ctx} {w w':World} (h:Mono C w C' w'):Mono C.pure w C'.pure w':=⟨fun _ _ e=> (by cases e),h.imm,h.immkeep,h.sizes⟩
theorem Mono.unpure (C:Ctx) (w:World):Mono C.pure w C w:=⟨fun _ _ e=> (by cases e),fun _ h=> h,fun _ _=> rfl,fun _ c _ _ e=> ⟨c,e,rfl⟩⟩
theorem Reach.step {C C':Ctx} {w w':World} (h:Mono C w C' w') {b n:Nat} (r:Reach w b n):Reach w' b n:=by
 obtain ⟨c,T,f,e,l⟩:=r
 obtain ⟨c',e',s⟩:=h.sizes b c T f e
 exact ⟨c',T,f,e',by omega⟩
theorem z0s.step {C C':Ctx} {w w':World} (h:Mono C w C' w') {b o:Nat} {vs:List Value} (hb:C.imm b) (r:z0s w b o vs):z0s w' b o vs:=by
 intro i v e
 have:=r i v e
 unfold World.cell? at*
 simpa only [h.immkeep b hb] using this
mutual
theorem x3.mono {C C':Ctx} {w w':World} (h:Mono C w C' w'):∀(x:AV) (v:Value),x3 C w x v→x3 C' w' x v
 | .top,_,_=> by simp only [x3]
 | .i n,v,r=> by simpa only [x3] using r
 | .y n,v,r=> by simpa only [x3] using r
 | .b n,v,r=> by simpa only [x3] using r
 | .st n,v,r=> by simpa only [x3] using r
 | .sc n,v,r=> by simpa only [x3] using r
 | .nl,v,r=> by simpa only [x3] using r
 | .sl n cs,v,r=> by
   simp only [x3] at*
   obtain ⟨a,c,e,l,k⟩:=r
   refine ⟨a,c,e,l,?_⟩
   rcases k with k | ⟨ad,vs,e1,e2,e3,e4,e5⟩
   · exact .inl k
   · exact .inr ⟨ad,vs,e1,e2,h.imm _ e3,LRel.mono h.pure true cs vs e4,e5.step h e3⟩
 | .rf b z off n,v,r=> by
   simp only [x3] at*
   obtain ⟨a,c,e,l,k⟩:=r
   refine ⟨a,c,e,l,?_⟩
   rcases k with k | ⟨rb,e1,e2,e3⟩
   · exact .inl k
   · exact .inr ⟨rb,h.φ _ _ e1,e2,e3.step h⟩
 | .pt b off,v,r=> by
   simp only [x3] at*
   obtain ⟨rb,e1,e2⟩:=r
   exact ⟨rb,h.φ _ _ e1,e2⟩
 | .ip cs,v,r=> by
   simp only [x3] at*
   obtain ⟨ad,vs,e1,e2,e3,e4,e5⟩:=r
   exact ⟨ad,vs,e1,e2,h.imm _ e3,LRel.mono h.pure true cs vs e4,e5.step h e3⟩
 | .ag xs,v,r=> by
   simp only [x3] at*
   obtain ⟨vs,e1,e2⟩:=r
   exact ⟨vs,e1,LRel.mono h true xs vs e2⟩
 | .tu xs,v,r=> by
   simp only [x3] at*
   obtain ⟨vs,e1,e2⟩:=r
   exact ⟨vs,e1,LRel.mono h false xs vs e2⟩
 | .fn f xs,v,r=> by
   simp only [x3] at*
   obtain ⟨vs,e1,e2⟩:=r
   exact ⟨vs,e1,LRel.mono h false xs vs e2⟩
 | .yl b,v,r=> by
   simp only [x3] at*
   obtain ⟨rb,e1,e2⟩:=r
   exact ⟨rb,h.φ _ _ e1,e2⟩
 | .mp b,v,r=> by
   simp only [x3] at*
   obtain ⟨rb,e1,e2⟩:=r
   exact ⟨rb,h.φ _ _ e1,e2⟩
theorem LRel.mono {C C':Ctx} {w w':World} (h:Mono C w C' w') (one:Bool):∀(xs:List AV) (vs:List Value),LRel C w one xs vs→LRel C' w' one xs vs
 | [],vs,r=> by simpa only [LRel] using r
 | x::xs,vs,r=> by
   simp only [LRel] at*
   obtain ⟨v,r',e,o,e1,e2⟩:=r
   exact ⟨v,r',e,o,x3.mono h x v e1,LRel.mono h one xs r' e2⟩
end
theorem x3.step {C C':Ctx} {w w':World} {x:AV} {v:Value} (r:x3 C w x v) (h:Step C w C' w'):x3 C' w' x v:=x3.mono h.mono x v r
theorem LRel.step {C C':Ctx} {w w':World} {one:Bool} {xs:List AV} {vs:List Value} (r:LRel C w one xs vs) (h:Step C w C' w'):LRel C' w' one xs vs:=LRel.mono h.mono one xs vs r
theorem LRel.unpure {C:Ctx} {w:World} {one:Bool} {xs:List AV} {vs:List Value} (r:LRel C.pure w one xs vs):LRel C w one xs vs:=LRel.mono (Mono.unpure C w) one xs vs r
/-! ### Lists of cells -/
section
variable {C : Ctx} {w : World} {one : Bool}
theorem LRel.length:∀{xs:List AV} {vs:List Value},LRel C w one xs vs→xs.length=vs.length
 | [],vs,h=> by simp only [LRel] at h;simp [h]
 | x::xs,vs,h=> by
   simp only [LRel] at h
   obtain ⟨v,r,rfl,_,_,h⟩:=h
   simp [h.length]
theorem LRel.nil:LRel C w one [] []:=by simp only [LRel]
theorem LRel.cons {x:AV} {v:Value} {xs:List AV} {vs:List Value} (o:one=true→v.oneCell'=true) (h:x3 C w x v) (t:LRel C w one xs vs):LRel C w one (x::xs) (v::vs):=by
 simp only [LRel];exact ⟨v,vs,rfl,o,h,t⟩
theorem LRel.append:∀{xs ys:List AV} {vs us:List Value},LRel C w one xs vs→LRel C w one ys us→LRel C w one (xs++ys) (vs++us)
 | [],ys,vs,us,h,g=> by simp only [LRel] at h;subst h;exact g
 | x::xs,ys,vs,us,h,g=> by
   simp only [LRel] at h
   obtain ⟨v,r,rfl,o,h1,h⟩:=h
   exact LRel.cons o h1 (h.append g)
theorem LRel.take:∀{xs:List AV} {vs:List Value} (n:Nat),LRel C w one xs vs→LRel C w one (xs.take n) (vs.take n)
 | [],vs,n,h=> by simp only [LRel] at h;subst h;simpa using LRel.nil
 | x::xs,vs,0,h=> by simpa using LRel.nil
 | x::xs,vs,n+1,h=> by
   simp only [LRel] at h
   obtain ⟨v,r,rfl,o,h1,h⟩:=h
   exact LRel.cons o h1 (h.take n)
theorem LRel.drop:∀{xs:List AV} {vs:List Value} (n:Nat),LRel C w one xs vs→LRel C w one (xs.drop n) (vs.drop n)
 | [],vs,n,h=> by simp only [LRel] at h;subst h;simpa using LRel.nil
 | x::xs,vs,0,h=> h
 | x::xs,vs,n+1,h=> by
   simp only [LRel] at h
   obtain ⟨v,r,rfl,o,h1,h⟩:=h
   exact h.drop n
theorem LRel.get:∀{xs:List AV} {vs:List Value} {i:Nat} {x:AV},LRel C w one xs vs→xs[i]? =some x→∃v,vs[i]? =some v∧x3 C w x v∧(one=true→v.oneCell'=true)
 | [],vs,i,x,h,e=> by simp at e
 | y::xs,vs,0,x,h,e=> by
   simp only [LRel] at h
   obtain ⟨v,r,rfl,o,h1,h⟩:=h
   simp at e;subst e
   exact ⟨v,rfl,h1,o⟩
 | y::xs,vs,i+1,x,h,e=> by
   simp only [LRel] at h
   obtain ⟨v,r,rfl,o,h1,h⟩:=h
   simpa using h.get (i:=i) (by simpa using e)
theorem LRel.one1 {x:AV} {vs:List Value} (h:LRel C w one [x] vs):∃v,vs=[v]∧x3 C w x v∧(one=true→v.oneCell'=true):=by
 simp only [LRel] at h
 obtain ⟨v,r,rfl,o,h1,rfl⟩:=h
 exact ⟨v,rfl,h1,o⟩
theorem LRel.cells:∀{xs:List AV} {vs:List Value},LRel C w true xs vs→∀v∈vs,v.oneCell'=true
 | [],vs,h=> by simp only [LRel] at h;subst h;simp
 | x::xs,vs,h=> by
   simp only [LRel] at h
   obtain ⟨v,r,rfl,o,h1,h⟩:=h
   intro u hu
   rcases List.mem_cons.1 hu with rfl | hu
   · exact o trivial
   · exact h.cells u hu
theorem LRel.over {xs ys:List AV} {vs us:List Value} (off:Nat) (h:LRel C w one xs vs) (g:LRel C w one ys us):
 LRel C w one (over xs off ys) (vs.take off++us++vs.drop (off+us.length)):=by
 unfold Ab.over
 rw [g.length]
 exact ((h.take off).append g).append (h.drop _)
end
theorem z0s.take {w:World} {b o:Nat} {vs:List Value} (n:Nat) (h:z0s w b o vs):z0s w b o (vs.take n):=by
 intro i v e
 rw [List.getElem?_take] at e
 split at e
 · exact h i v e
 · cases e
theorem z0s.drop {w:World} {b o:Nat} {vs:List Value} (n:Nat) (h:z0s w b o vs):z0s w b (o+n) (vs.drop n):=by
 intro i v e
 rw [List.getElem?_drop] at e
 rw [Nat.add_assoc]
 exact h (n+i) v e
end Go.Proofs.Ytimcbhhebnikiaa.Ab
namespace Go.Proofs.Ytimcbhhebnikiaa.Ab
open Go
set_option linter.unusedVariables false
set_option linter.unusedSimpArgs false
/-! ### Look-ups -/
theorem zb3 (a b:Nat):Nat.beq a b=decide (a=b):=by
 by_cases h:a=b
 · simp [h]
 · rw [decide_eq_false h]
   have:=Nat.beq_eq_true_eq a b
   cases e:Nat.beq a b
   · rfl
   · exact absurd (Nat.eq_of_beq_eq_true e) h
theorem Tm.get_set (T:Tm) (i j:Nat) (v:AV):(T.set i v).get j=if i=j then v else T.get j:=by
 induction T with
 | nil=>
   simp only [Tm.set,Tm.get,zb3]
   by_cases h:i=j <;> simp [h]
 | cons p T ih=>
   obtain ⟨k,u⟩:=p
   simp only [Tm.set,zb3]
   by_cases h:k=i
   · subst h
     simp only [decide_true,cond_true,Tm.get,zb3]
     by_cases h:k=j <;> simp [h]
   · simp only [h,decide_false,cond_false,Tm.get,zb3]
     by_cases h2:k=j
     · subst h2
       have:i≠k:=fun e=> h e.symm
       simp [this]
     · simp only [h2,decide_false,cond_false,ih]
theorem AH.look_put (l:List (Nat×AObj)) (i j:Nat) (o:AObj):AH.look (AH.putL l i o) j=if i=j then z6e o else AH.look l j:=by
 induction l with
 | nil=>
   simp only [AH.putL,AH.look,zb3]
   by_cases h:i=j <;> simp [h]
 | cons p l ih=>
   obtain ⟨k,u⟩:=p
   simp only [AH.putL,zb3]
   by_cases h:k=i
   · subst h
     simp only [decide_true,cond_true,AH.look,zb3]
     by_cases h:k=j <;> simp [h]
   · simp only [h,decide_false,cond_false,AH.look,zb3]
     by_cases h2:k=j
     · subst h2
       have:i≠k:=fun e=> h e.symm
       simp [this]
     · simp only [h2,decide_false,cond_false,ih]
theorem AH.get_put (h:AH) (i j:Nat) (o:AObj):(h.put i o).get j=if i=j then z6e o else h.get j:=AH.look_put h.l i j o
theorem AH.get_new (h:AH) (j:Nat) (o:AObj):(h.new o).get j=if h.nx=j then z6e o else h.get j:=by
 simp only [AH.new,AH.get,AH.look,zb3]
 by_cases e:h.nx=j
 · simp [e]
 · simp [e]
theorem AH.get_kill (h:AH) (i j:Nat):(h.kill i).get j=if i=j then none else h.get j:=by
 rw [AH.kill,AH.get_put];rfl
@[simp] theorem AH.nx_put (h:AH) (i:Nat) (o:AObj):(h.put i o).nx=h.nx:=rfl
@[simp] theorem AH.nx_new (h:AH) (o:AObj):(h.new o).nx=h.nx+1:=rfl
@[simp] theorem AH.nx_kill (h:AH) (i:Nat):(h.kill i).nx=h.nx:=rfl
@[simp] theorem AH.get_empty (i:Nat):AH.empty.get i=none:=rfl
/-! ### What a block says -/
def z8x (C:Ctx) (w:World):List (AV×AV)→List MapEntry→Prop
 | [],es=> es=[]
 | (k,v)::r,es=> ∃(e:MapEntry) (es':List MapEntry),es=e::es'∧x3 C w k e.key∧x3 C w v e.val∧z8x C w r es'
def z2z (C:Ctx) (w:World) (T:Tm) (tmps:Array Value):Prop:=∀i,x3 C w (T.get i) (tmps.getD i undef)
def z6k (C:Ctx) (w:World) (rb:Nat):AObj→Prop
 | .dead=> False
 | .cells cs=> ∃(vs rest:List Value) (T:TypeId),w.heap[rb]? =some (Obj.cells (vs++rest).toArray T (0,0))∧LRel C w true cs vs
 | .ro cs=> ∃vs,z0s w rb 0 vs∧LRel C w true cs vs
 | .map es=> ∃(ms:Array MapEntry) (clock:Nat),w.heap[rb]? =some (Obj.map ms clock)∧z8x C w es ms.toList
 | .loop s p T n ps a b=> ∃l:Loop,w.heap[rb]? =some (Obj.loop l)∧l.state=s∧l.pending=p∧l.params.toList=ps∧l.assign=a∧l.body=b∧l.tmps.size=n∧z2z C w T l.tmps
def z9r:AObj→Bool
 | .ro _=> true
 | _=> false
def isNone:AObj→Bool
 | .cells []=> true
 | .ro []=> true
 | _=> false
structure Sim (C:Ctx) (K:Nat→Option AObj) (w:World):Prop where
 at_:∀b o,K b=some o→(C.φ b=none∧isNone o=true)∨∃rb,C.φ b=some rb∧z6k C w rb o∧(z9r o=true↔C.imm rb)
 inj:∀b b' o o' rb,K b=some o→K b'=some o'→z9r o=false→C.φ b=some rb→C.φ b'=some rb→b=b'
 φlt:∀b rb,C.φ b=some rb→rb < w.heap.size
 immlt:∀b,C.imm b→b < w.heap.size
theorem Sim.congr {C:Ctx} {K K':Nat→Option AObj} {w:World} (s:Sim C K w) (h:∀b,K' b=K b):Sim C K' w:=by
 have:K'=K:=funext h
 rw [this];exact s
theorem z8x.step {C C':Ctx} {w w':World}:∀{es:List (AV×AV)} {ms:List MapEntry},z8x C w es ms→Step C w C' w'→z8x C' w' es ms
 | [],_,r,h=> r
 | (k,v)::es,ms,r,h=> by
   obtain ⟨e,es',rfl,h1,h2,h3⟩:=r
   exact ⟨e,es',rfl,h1.step h,h2.step h,h3.step h⟩
theorem z2z.step {C C':Ctx} {w w':World} {T:Tm} {tmps:Array Value} (r:z2z C w T tmps) (h:Step C w C' w'):z2z C' w' T tmps:=
 fun i=> (r i).step h
theorem z6k.step' {C C':Ctx} {w w':World} (h:Step C w C' w') {rb:Nat} (e:w'.heap[rb]? =w.heap[rb]?):∀{o:AObj},z6k C w rb o→z6k C' w' rb o
 | .dead,r=> r
 | .cells cs,⟨vs,rest,T,h1,h2⟩=> ⟨vs,rest,T,by rw [e,h1],h2.step h⟩
 | .ro cs,⟨vs,h1,h2⟩=> ⟨vs,fun i v hv=> by have:=h1 i v hv;unfold World.cell? at*;simpa only [e] using this,h2.step h⟩
 | .map es,⟨ms,cl,h1,h2⟩=> ⟨ms,cl,by rw [e,h1],h2.step h⟩
 | .loop s p T n ps a b,⟨l,h1,h2,h3,h4,h5,h6,h7,h8⟩=> ⟨l,by rw [e,h1],h2,h3,h4,h5,h6,h7,h8.step h⟩
theorem z6k.step {C C':Ctx} {w w':World} {rb:Nat} {o:AObj} (r:z6k C w rb o) (h:Step C w C' w') (e:w'.heap[rb]? =w.heap[rb]?):z6k C' w' rb o:=z6k.step' h e r
/-! ### Reading and writing memory -/
section
variable (P : Program) (w : World)
theorem z7q (a:Addr) (ha:a.spot=none):∀(vs:List Value) (i:Nat) (acc:Array Value),z0s w a.block (a.off+i) vs→
 (loadCellsFrom a i vs.length acc).run P w=.ok (acc++vs.toArray) w
 | [],i,acc,h=> by simp [loadCellsFrom]
 | v::vs,i,acc,h=> by
   have h0:w.cell? (a.add i)=some v:=by
    have:=h 0 v rfl
    unfold Addr.add
    split
    · subst i;simpa [ha] using (by cases a;simp_all:w.cell? a=some v)
    · simpa using this
   have h1:z0s w a.block (a.off+(i+1)) vs:=by
    intro j u e
    have:=h (j+1) u (by simpa using e)
    rw [show a.off+i+(j+1)=a.off+(i+1)+j by omega] at this
    exact this
   simp only [List.length_cons,loadCellsFrom,Sem.run_bind,run_load,h0,Result.andThen_ok]
   rw [z7q a ha vs (i+1) _ h1]
   simp
theorem z8l (a:Addr) (ha:a.spot=none) (vs:List Value) (h:z0s w a.block a.off vs):(loadCells a vs.length).run P w=.ok vs.toArray w:=by
 have:=z7q P w a ha vs 0 #[] (by simpa using h)
 simpa [loadCells] using this
def d8 (w:World) (b:Nat) (o:Obj):World:={w with heap:=w.heap.setIfInBounds b o}
theorem z18 (b:Nat) (o:Obj):(d8 w b o).heap.size=w.heap.size:=by simp [d8]
theorem t5 (b:Nat) (o:Obj) (j:Nat):(d8 w b o).heap[j]? =if b=j∧b < w.heap.size then some o else w.heap[j]? :=by
 simp only [d8,Array.getElem?_setIfInBounds]
 by_cases h:b=j
 · subst h
   by_cases h2:b < w.heap.size
   · simp [h2]
   · simp [h2]
 · simp [h]
theorem zk8 (b:Nat) (o:Obj) (h:w.heap[b]? =some o):d8 w b o=w:=by
 have:w.heap.setIfInBounds b o=w.heap:=by
  apply Array.ext_getElem?
  intro j
  rw [Array.getElem?_setIfInBounds]
  by_cases e:b=j
  · subst e
    have hlt:b < w.heap.size:=by
     rcases Nat.lt_or_ge b w.heap.size with g | g
     · exact g
     · rw [Array.getElem?_eq_none g] at h;cases h
    rw [if_pos rfl,if_pos hlt,h]
  · simp [e]
 simp [d8,this]
theorem z83 (b:Nat) (o o':Obj):d8 (d8 w b o) b o'=d8 w b o':=by
 simp [d8]
theorem zk7 (b off:Nat) (v:Value) (c:Array Value) (T:TypeId) (f:Nat×Nat) (h:w.heap[b]? =some (Obj.cells c T f)):
 w.setCell ⟨b,off,none⟩ v=d8 w b (Obj.cells (c.setIfInBounds off v) T f):=by
 unfold World.setCell d8
 congr 1
 apply Array.ext_getElem?
 intro j
 rw [Array.getElem?_modify,Array.getElem?_setIfInBounds]
 by_cases e:b=j
 · subst e
   have hlt:b < w.heap.size:=by
    rcases Nat.lt_or_ge b w.heap.size with g | g
    · exact g
    · rw [Array.getElem?_eq_none g] at h;cases h
   rw [if_pos rfl,if_pos rfl,if_pos hlt,h];rfl
 · simp [e]
theorem z0i {b:Nat} {o:Obj} (h:w.heap[b]? =some o):b < w.heap.size:=by
 rcases Nat.lt_or_ge b w.heap.size with g | g
 · exact g
 · rw [Array.getElem?_eq_none g] at h;cases h
theorem cell?_of {b off:Nat} {c:Array Value} {T:TypeId} {f:Nat×Nat} (h:w.heap[b]? =some (Obj.cells c T f)):w.cell? ⟨b,off,none⟩=c[off]? :=by
 simp [World.cell?,h]
theorem zfn {α:Type} {l:List α} {k:Nat} {u:α} {us:List α} (h:k < l.length):
 (l.set k u).take (k+1)++us++(l.set k u).drop (k+1+us.length)=l.take k++(u::us)++l.drop (k+(u::us).length):=by
 have e1:(l.set k u).take (k+1)=l.take k++[u]:=by
  rw [List.set_eq_take_append_cons_drop,if_pos h]
  rw [List.take_append]
  simp [List.length_take,Nat.min_eq_left (Nat.le_of_lt h),List.take_take,Nat.min_eq_right (Nat.le_succ k)]
 have e2:(l.set k u).drop (k+1+us.length)=l.drop (k+(u::us).length):=by
  rw [List.drop_set_of_lt (by omega)]
  congr 1
  simp
  omega
 rw [e1,e2]
 simp
theorem z3j (b:Nat):∀(us:List Value) (w:World) (off i:Nat) (c:Array Value) (T:TypeId),(∀u∈us,u.oneCell'=true)→
 w.heap[b]? =some (Obj.cells c T (0,0))→off+i+us.length≤c.size→
 (storeCells ⟨b,off,none⟩ us i).run P w=.ok () (d8 w b (Obj.cells (c.toList.take (off+i)++us++c.toList.drop (off+i+us.length)).toArray T (0,0)))
 | [],w,off,i,c,T,h1,h2,h3=> by
   have:(List.take (off+i) c.toList++([]:List Value)++List.drop (off+i+([]:List Value).length) c.toList).toArray=c:=by
    simp [List.take_append_drop]
   rw [this,zk8 w b _ h2]
   simp [storeCells]
 | u::us,w,off,i,c,T,h1,h2,h3=> by
   have hadd:(⟨b,off,none⟩:Addr).add i=⟨b,off+i,none⟩:=by
    unfold Addr.add;split
    · simp_all
    · rfl
   have hlt:off+i < c.size:=by simp at h3;omega
   have hc:w.cell? ⟨b,off+i,none⟩=some c[off+i]:=by rw [cell?_of w h2];simp [hlt]
   have hf:w.frozen? ⟨b,off+i,none⟩=false:=by simp [World.frozen?,h2]
   simp only [storeCells,Sem.run_bind,hadd]
   rw [run_store P w _ u .plain (h1 u (by simp)),hc]
   simp only [hf,Bool.false_eq_true,if_false,Result.andThen_ok]
   rw [zk7 w b (off+i) u c T (0,0) h2]
   have h2':(d8 w b (Obj.cells (c.setIfInBounds (off+i) u) T (0,0))).heap[b]? =some (Obj.cells (c.setIfInBounds (off+i) u) T (0,0)):=by
    rw [t5];simp [z0i w h2]
   rw [z3j b us _ off (i+1) (c.setIfInBounds (off+i) u) T (fun v hv=> h1 v (by simp [hv])) h2' (by simp at h3⊢;omega),z83]
   congr 3
   have e1:(c.setIfInBounds (off+i) u).toList=c.toList.set (off+i) u:=by simp
   rw [e1]
   have hl:off+i < c.toList.length:=by simpa using hlt
   exact congrArg List.toArray (zfn hl)
end
end Go.Proofs.Ytimcbhhebnikiaa.Ab
namespace Go.Proofs.Ytimcbhhebnikiaa.Ab
open Go
set_option linter.unusedVariables false
set_option linter.unusedSimpArgs false
theorem Step.heap {C:Ctx} {w w':World} (h:w'.heap=w.heap) (he:z8t w'=z8t w):Step C w C w':=
 ⟨fun _ _ h=> h,fun _ _ h=> .inl h,fun _ h=> h,fun _ h=> .inl h,by rw [h];exact Nat.le_refl _,fun _ _ _=> by rw [h],fun _ _=> by rw [h],fun _ c _ _ e=> ⟨c,by rw [h];exact e,rfl⟩,he⟩
theorem Sim.heap {C:Ctx} {K:Nat→Option AObj} {w w':World} (h:w'.heap=w.heap) (he:z8t w'=z8t w) (s:Sim C K w):Sim C K w' where
 at_ b o e:=by
  rcases s.at_ b o e with g | ⟨rb,g1,g2,g3⟩
  · exact .inl g
  · exact .inr ⟨rb,g1,g2.step (Step.heap h he) (by rw [h]),g3⟩
 inj:=s.inj
 φlt b rb e:=by rw [h];exact s.φlt b rb e
 immlt b e:=by rw [h];exact s.immlt b e
def z3t (w:World) (ob:Obj):World:={w with heap:=w.heap.push ob}
theorem z5r (w:World) (ob:Obj):(z3t w ob).heap.size=w.heap.size+1:=by simp [z3t]
theorem z52 (w:World) (ob:Obj) (b:Nat) (h:b < w.heap.size):(z3t w ob).heap[b]? =w.heap[b]? :=by
 simp [z3t,Array.getElem?_push,Nat.ne_of_lt h]
theorem zba (w:World) (ob:Obj):(z3t w ob).heap[w.heap.size]? =some ob:=by simp [z3t]
def Ctx.with (C:Ctx) (n rb:Nat):Ctx:={C with φ:=fun b=> if b=n then some rb else C.φ b}
theorem Ctx.with_at (C:Ctx) (n rb:Nat):(C.with n rb).φ n=some rb:=by simp [Ctx.with]
theorem zb0 {C:Ctx} {K:Nat→Option AObj} {w:World} (s:Sim C K w) {n:Nat} (hn:C.φ n=none) (ob:Obj):Step C w (C.with n w.heap.size) (z3t w ob) where
 φ b rb e:=by
   have:b≠n:=fun h=> by rw [h,hn] at e;cases e
   simp [Ctx.with,this,e]
 φnew b rb e:=by
  simp only [Ctx.with] at e
  split at e
  · injection e with e;exact .inr (.inl (by omega))
  · exact .inl e
 imm _ h:=h
 immnew _ h:=.inl h
 size:=by rw [z5r];omega
 keep b hb _:=z52 w ob b hb
 immkeep b hb:=z52 w ob b (s.immlt b hb)
 sizes b c T f e:=⟨c,by rw [z52 w ob b (z0i w e)];exact e,rfl⟩
 env:=rfl
theorem zd1 {C:Ctx} {K:Nat→Option AObj} {w:World} (s:Sim C K w) (ob:Obj):Step C w C (z3t w ob) where
 φ _ _ h:=h
 φnew _ _ h:=.inl h
 imm _ h:=h
 immnew _ h:=.inl h
 size:=by rw [z5r];omega
 keep b hb _:=z52 w ob b hb
 immkeep b hb:=z52 w ob b (s.immlt b hb)
 sizes b c T f e:=⟨c,by rw [z52 w ob b (z0i w e)];exact e,rfl⟩
 env:=rfl
theorem zlb {C:Ctx} {K:Nat→Option AObj} {w:World} (s:Sim C K w) (ob:Obj):Sim C K (z3t w ob) where
 at_ b o e:=by
  rcases s.at_ b o e with g | ⟨rb,g1,g2,g3⟩
  · exact .inl g
  · exact .inr ⟨rb,g1,g2.step (zd1 s ob) (z52 w ob rb (s.φlt b rb g1)),g3⟩
 inj:=s.inj
 φlt b rb e:=by rw [z5r];exact Nat.lt_succ_of_lt (s.φlt b rb e)
 immlt b e:=by rw [z5r];exact Nat.lt_succ_of_lt (s.immlt b e)
def z1i (K:Nat→Option AObj) (n:Nat) (o:Option AObj):Nat→Option AObj:=fun b=> if b=n then o else K b
theorem znc {C:Ctx} {K:Nat→Option AObj} {w:World} (s:Sim C K w) {n:Nat} (hn:C.φ n=none) {ob:Obj} {o:AObj} (ho:z9r o=false)
 (hR:z6k (C.with n w.heap.size) (z3t w ob) w.heap.size o):Sim (C.with n w.heap.size) (z1i K n (some o)) (z3t w ob) where
 at_ b o' e:=by
  unfold z1i at e
  split at e
  · rename_i h;subst h
    injection e with e;subst e
    refine .inr ⟨w.heap.size,Ctx.with_at C b _,hR,?_⟩
    rw [ho]
    exact ⟨fun h=> (by cases h),fun h=> absurd (s.immlt _ h) (Nat.lt_irrefl _)⟩
  · rename_i h
    rcases s.at_ b o' e with ⟨g,g'⟩ | ⟨rb,g1,g2,g3⟩
    · exact .inl ⟨by simp [Ctx.with,h,g],g'⟩
    · exact .inr ⟨rb,by simp [Ctx.with,h,g1],g2.step (zb0 s hn ob) (z52 w ob rb (s.φlt b rb g1)),g3⟩
 inj b b' o1 o2 rb e1 e2 hro f1 f2:=by
  unfold z1i at e1 e2
  simp only [Ctx.with] at f1 f2
  by_cases h1:b=n <;> by_cases h2:b'=n
  · rw [h1,h2]
  · rw [if_pos h1] at f1;rw [if_neg h2] at f2
    injection f1 with f1;have:=s.φlt b' rb f2;omega
  · rw [if_neg h1] at f1;rw [if_pos h2] at f2
    injection f2 with f2;have:=s.φlt b rb f1;omega
  · rw [if_neg h1] at f1 e1;rw [if_neg h2] at f2 e2
    exact s.inj b b' o1 o2 rb e1 e2 hro f1 f2
 φlt b rb e:=by
  rw [z5r]
  simp only [Ctx.with] at e
  split at e
  · injection e with e;omega
  · exact Nat.lt_succ_of_lt (s.φlt b rb e)
 immlt b e:=by rw [z5r];exact Nat.lt_succ_of_lt (s.immlt b e)
theorem z85 {C:Ctx} {K:Nat→Option AObj} {w:World} (s:Sim C K w) {n:Nat} (hn:C.φ n=none):Sim C (z1i K n (some (.cells []))) w where
 at_ b o' e:=by
  unfold z1i at e
  split at e
  · rename_i h;subst h
    injection e with e;subst e
    exact .inl ⟨hn,rfl⟩
  · exact s.at_ b o' e
 inj b b' o1 o2 rb e1 e2 hro f1 f2:=by
  unfold z1i at e1 e2
  by_cases h1:b=n
  · rw [h1,hn] at f1;cases f1
  · by_cases h2:b'=n
    · rw [h2,hn] at f2;cases f2
    · rw [if_neg h1] at e1;rw [if_neg h2] at e2
      exact s.inj b b' o1 o2 rb e1 e2 hro f1 f2
 φlt:=s.φlt
 immlt:=s.immlt
theorem zoj {C:Ctx} {K:Nat→Option AObj} {w:World} (s:Sim C K w) (n:Nat):Sim C (z1i K n none) w where
 at_ b o' e:=by
  unfold z1i at e
  split at e
  · cases e
  · exact s.at_ b o' e
 inj b b' o1 o2 rb e1 e2 hro f1 f2:=by
  unfold z1i at e1 e2
  split at e1
  · cases e1
  · split at e2
    · cases e2
    · exact s.inj b b' o1 o2 rb e1 e2 hro f1 f2
 φlt:=s.φlt
 immlt:=s.immlt
theorem zej {C:Ctx} {K:Nat→Option AObj} {w:World} (s:Sim C K w) {b n rb:Nat} {cs:List AV} (hb:K b=some (.cells cs)) (hφ:C.φ b=some rb)
 (hn:n=b∨C.φ n=none) {c c':Array Value} {T:TypeId} (hw:w.heap[rb]? =some (Obj.cells c T (0,0))) (hs:c'.size=c.size):
 Step C w (C.with n rb) (d8 w rb (Obj.cells c' T (0,0))):=by
 have himm:¬C.imm rb:=by
  rcases s.at_ b _ hb with ⟨g,_⟩ | ⟨rb',g1,g2,g3⟩
  · rw [g] at hφ;cases hφ
  · rw [g1] at hφ;injection hφ with hφ;subst hφ
    exact fun h=> by have:=g3.2 h;simp [z9r] at this
 have hlt:=z0i w hw
 refine ⟨fun x r e=> ?_,fun x r e=> ?_,fun _ h=> h,fun _ h=> .inl h,by rw [z18];exact Nat.le_refl _,fun x hx hno=> ?_,fun x hx=> ?_,fun x c0 T0 f0 e=> ?_,rfl⟩
 · simp only [Ctx.with]
   split
   · rename_i h
     rcases hn with rfl | hn
     · subst h;rw [hφ] at e;exact e
     · rw [h,hn] at e;cases e
   · exact e
 · simp only [Ctx.with] at e
   split at e
   · injection e with e;subst e;exact .inr (.inr ⟨b,hφ⟩)
   · exact .inl e
 · rw [t5]
   have:rb≠x:=fun h=> hno b (h▸hφ)
   simp [this]
 · rw [t5]
   have:rb≠x:=fun h=> himm (h▸hx)
   simp [this]
 · rw [t5]
   by_cases h:rb=x
   · subst h
     rw [hw] at e
     injection e with e
     injection e with e1 e2 e3
     subst e1 e2 e3
     exact ⟨c',by simp [hlt],hs⟩
   · exact ⟨c0,by simp [h,e],rfl⟩
theorem zn1 {C:Ctx} {K:Nat→Option AObj} {w:World} (s:Sim C K w) {b n rb:Nat} {cs:List AV} (hb:K b=some (.cells cs)) (hφ:C.φ b=some rb)
 (hn:n=b∨C.φ n=none) {c c':Array Value} {T:TypeId} (hw:w.heap[rb]? =some (Obj.cells c T (0,0))) (hs:c'.size=c.size) {o:AObj} (ho:z9r o=false)
 (hR:z6k (C.with n rb) (d8 w rb (Obj.cells c' T (0,0))) rb o):
 Sim (C.with n rb) (z1i (z1i K b none) n (some o)) (d8 w rb (Obj.cells c' T (0,0))):=by
 have hst:=zej s hb hφ hn hw hs
 have himm:¬C.imm rb:=by
  rcases s.at_ b _ hb with ⟨g,_⟩ | ⟨rb',g1,g2,g3⟩
  · rw [g] at hφ;cases hφ
  · rw [g1] at hφ;injection hφ with hφ;subst hφ
    exact fun h=> by have:=g3.2 h;simp [z9r] at this
 refine ⟨fun x o' e=> ?_,fun x x' o1 o2 r e1 e2 hro f1 f2=> ?_,fun x r e=> ?_,fun x e=> by rw [z18];exact s.immlt x e⟩
 · unfold z1i at e
   split at e
   · rename_i h;subst h
     injection e with e;subst e
     refine .inr ⟨rb,Ctx.with_at C x _,hR,?_⟩
     rw [ho]
     exact ⟨fun h=> (by cases h),fun h=> absurd h himm⟩
   · rename_i h
     split at e
     · cases e
     · rename_i h'
       rcases s.at_ x o' e with ⟨g,g'⟩ | ⟨r,g1,g2,g3⟩
       · exact .inl ⟨by simp [Ctx.with,h,g],g'⟩
       · have hne:rb≠r:=fun h0=> h' ((s.inj b x _ o' rb hb e rfl hφ (h0▸g1)).symm)
         exact .inr ⟨r,by simp [Ctx.with,h,g1],g2.step hst (by rw [t5];simp [hne]),g3⟩
 · unfold z1i at e1 e2
   simp only [Ctx.with] at f1 f2
   by_cases h1:x=n <;> by_cases h2:x'=n
   · rw [h1,h2]
   · rw [if_pos h1] at f1;rw [if_neg h2] at f2 e2
     injection f1 with f1;subst f1
     split at e2
     · cases e2
     · rename_i h';exact absurd (s.inj b x' _ o2 rb hb e2 rfl hφ f2).symm h'
   · rw [if_neg h1] at f1 e1;rw [if_pos h2] at f2
     injection f2 with f2;subst f2
     split at e1
     · cases e1
     · rename_i h';exact absurd (s.inj x b o1 _ rb e1 hb hro f1 hφ) h'
   · rw [if_neg h1] at f1 e1;rw [if_neg h2] at f2 e2
     split at e1
     · cases e1
     · split at e2
       · cases e2
       · exact s.inj x x' o1 o2 r e1 e2 hro f1 f2
 · rw [z18]
   simp only [Ctx.with] at e
   split at e
   · injection e with e;subst e;exact s.φlt b _ hφ
   · exact s.φlt x r e
/-! ### The types' table -/
theorem z0v {P:Program} {d:TypeDesc} {e:TypeId} (h:z2r P d=some (.slice e)):d=.slice e:=by
 cases d <;> simp [z2r] at h
 · rw [h]
theorem z3x {P:Program} {d:TypeDesc} {n:Nat} {e:TypeId} (h:z2r P d=some (.array n e)):d=.array n e:=by
 cases d <;> simp [z2r] at h
 · rw [h.1,h.2]
theorem z9w {P:Program} {d:TypeDesc} {k:IntKind} (h:z2r P d=some (.int k)):d=.int k:=by
 cases d <;> simp [z2r] at h
 · rw [h]
theorem z8d {P:Program} {d:TypeDesc} (h:z2r P d=some .string):d=.string:=by
 cases d <;> simp [z2r] at h
 · rfl
theorem zhs {P:Program} {d:TypeDesc} {k e:TypeId} (h:z2r P d=some (.map k e)):d=.map k e:=by
 cases d <;> simp [z2r] at h
 · rw [h.1,h.2]
theorem zcc {P:Program} {d:TypeDesc} {fs:List (Nat×Nat×Bool)} (h:z2r P d=some (.struct fs)):∃gs:Array Field,d=.struct gs∧gs.toList.mapM (zb6 P)=some fs:=by
 cases d <;> simp [z2r] at h
 · exact ⟨_,rfl,h⟩
theorem zsq {P:Program} {d:TypeDesc} {k:TK} (h:z2r P d=some k):aggK k=z2i d:=by
 cases d <;> simp [z2r] at h <;> (try (subst h;rfl))
 · obtain ⟨fs,_,rfl⟩:=h;rfl
structure TSpec (P:Program) (t:TypeId) (ti:TI) where
 i:TypeInfo
 d:TypeDesc
 z:Value
 info:P.info? t=some i
 und:P.underlying t=some d
 zero:i.zero=some z
 size:ti.size=i.size
 bytes:ti.bytes=i.bytes
 zeros:ti.zero=z.cells.toList.map z2j
 zv:ti.zv=ofV z
 ones:∀v∈z.cells.toList,v.oneCell'=true
 kind:z2r P d=some ti.k
 agg:ti.agg=z2i d
theorem u5 {P:Program} {t:TypeId} {ti:TI} (h:u9 P t=some ti):Nonempty (TSpec P t ti):=by
 unfold u9 at h
 split at h
 · rename_i i d hi hd
   split at h
   · rename_i z k hz hk
     split at h
     · cases h
     · rename_i hone
       injection h with h
       subst h
       exact ⟨⟨i,d,z,hi,hd,hz,rfl,rfl,rfl,rfl,fun v hv=> List.all_eq_true.1 (by simpa only [Bool.not_eq_false] using hone) v hv,hk,zsq hk⟩⟩
   · cases h
 · cases h
section
variable {P : Program} {t : TypeId} {ti : TI} (s : TSpec P t ti) (w : World)
include s
theorem TSpec.run_und:(underlying t).run P w=.ok s.d w:=by simp [underlying,s.und]
theorem TSpec.run_info:(typeInfo t).run P w=.ok s.i w:=by simp [typeInfo,s.info]
theorem TSpec.run_size:(sizeOf t).run P w=.ok ti.size w:=by simp [sizeOf,s.run_info,s.size]
theorem TSpec.run_zero:(zeroValue t).run P w=.ok s.z w:=by simp [zeroValue,s.run_info,s.zero]
theorem TSpec.run_agg:(isAgg t).run P w=.ok ti.agg w:=by
 simp only [isAgg,Sem.run_bind,s.run_und,Result.andThen_ok,s.agg]
 cases s.d <;> rfl
end
/-! ### Values told -/
theorem zcn (C:Ctx) (w:World) (v:Value):x3 C w (z2j v) v:=by
 cases v with
 | int k n=>
   simp only [z2j]
   cases k <;> simp only [ofInt,x3]
   split
   · rename_i h
     simp only [x3]
     congr 1
     have:n.toNat < 256:=by omega
     simp [Nat.mod_eq_of_lt this]
     omega
   · simp only [x3]
 | bool b=> simp only [z2j,x3]
 | string s=> simp only [z2j,x3]
 | slice a n c=>
   cases a with
   | some a=> simp only [z2j,x3]
   | none=> cases n with
     | succ n=> simp only [z2j,x3]
     | zero=> cases c with
       | succ c=> simp only [z2j,x3]
       | zero=> simp only [z2j,x3];exact ⟨_,rfl⟩
 | func f fi ca=>
   simp only [z2j]
   cases f <;> simp only [x3]
   split
   · rename_i h
     simp only [x3,LRel]
     have h1:fi=#[]:=Array.size_eq_zero_iff.1 h.1
     have h2:ca=#[]:=Array.size_eq_zero_iff.1 h.2
     exact ⟨[],by rw [h1,h2],rfl⟩
   · simp only [x3]
 | nilFunc=> simp only [z2j,x3]
 | pointer a=> cases a <;> simp only [z2j,x3]
 | map a=> cases a <;> simp only [z2j,x3]
 | nilIface=> simp only [z2j,x3]
 | _=> simp only [z2j,x3]
theorem z2m (C:Ctx) (w:World):∀(vs:List Value),(∀v∈vs,v.oneCell'=true)→LRel C w true (vs.map z2j) vs
 | [],_=> LRel.nil
 | v::vs,h=> LRel.cons (fun _=> h v (by simp)) (zcn C w v) (z2m C w vs fun u hu=> h u (by simp [hu]))
theorem zu7 (C:Ctx) (w:World) (v:Value):x3 C w (ofV v) v:=by
 unfold ofV
 split
 · rename_i cs
   split
   · rename_i h
     simp only [x3]
     exact ⟨cs.toList,by simp,z2m C w _ (List.all_eq_true.1 h)⟩
   · simp only [x3]
 · rename_i cs
   split
   · rename_i h
     simp only [x3,LRel]
     exact ⟨[],by rw [Array.size_eq_zero_iff.1 h],rfl⟩
   · simp only [x3]
 · exact zcn C w v
theorem z3u (C:Ctx) (w:World) (k:IntKind) (n:Int):x3 C w (ofInt k n) (.int k n):=by
 have:=zcn C w (.int k n)
 simpa only [z2j] using this
def z8o (C:Ctx) (w:World) (T:Tm) (a:Act) (x:Operand):Prop:=∀t,x=.tmp t→x3 C w (T.get t) (a.tmps.getD t undef)
theorem z07 {C:Ctx} {w:World} {T:Tm} {a:Act} {x:Operand} (h:z8o C w T a x):x3 C w (ev T x) (a.eval x):=by
 cases x with
 | tmp t=> exact h t rfl
 | const v=> exact zu7 C w v
 | global g=> simp only [ev,x3]
 | func f=> simp only [ev,x3,LRel,Act.eval];exact ⟨[],rfl,rfl⟩
end Go.Proofs.Ytimcbhhebnikiaa.Ab
namespace Go.Proofs.Ytimcbhhebnikiaa.Ab
open Go
set_option linter.unusedVariables false
set_option linter.unusedSimpArgs false
def z5a (P:Program) (C:Ctx) (K:Nat→Option AObj) (w:World) (n:Nat) (r:OR) (s:Sem Value):Prop:=
 ∃v C' w',s.run P w=.ok v w'∧x3 C' w' r.v v∧Step C w C' w'∧Sim C' (fun b=> if b∈r.wr then r.h.get b else K b) w'∧∀b,C.φ b=none→(b≠n∨r.h.nx=n)→C'.φ b=none
section
variable {P : Program} {C : Ctx} {K : Nat → Option AObj} {w : World} {h : AH}
theorem d4 {x:AV} {v:Value} {s:Sem Value} {n:Nat} {rd:List Nat} (hS:Sim C K w) (hr:s.run P w=.ok v w) (hv:x3 C w x v):z5a P C K w n ⟨x,h,rd,[]⟩ s:=
 ⟨v,C,w,hr,hv,Step.refl C w,by simpa using hS,fun b hb _=> hb⟩
theorem zep {x:AV} {o:AObj} {ob:Obj} {v:Value} {s:Sem Value} {rd:List Nat} (hS:Sim C K w) (hn:C.φ h.nx=none) (ho:z9r o=false) (hl:z6e o=some o)
 (hR:z6k (C.with h.nx w.heap.size) (z3t w ob) w.heap.size o) (hr:s.run P w=.ok v (z3t w ob)) (hv:x3 (C.with h.nx w.heap.size) (z3t w ob) x v):
 z5a P C K w h.nx ⟨x,h.new o,rd,[h.nx]⟩ s:=by
 refine ⟨v,_,_,hr,hv,zb0 hS hn ob,?_,fun b hb hne=> by simp [Ctx.with,hne.resolve_right (by simp),hb]⟩
 refine (znc hS hn ho hR).congr fun b=> ?_
 simp only [List.mem_singleton,z1i,AH.get_new]
 by_cases e:b=h.nx
 · subst e;simp [hl]
 · simp [e]
/-! ### A value's cells -/
theorem x3.one {x:AV} {v:Value} {cs:List AV} (hc:z4o x=some cs) (hv:x3 C w x v):LRel C w true cs v.cells.toList:=by
 have one:∀y,z4o x=some [y]→y=x→v.oneCell'=true→LRel C w true cs v.cells.toList:=by
  intro y e1 e2 e3
  rw [hc] at e1;injection e1 with e1;subst e1 e2
  have:v.cells.toList=[v]:=by cases v <;> first | rfl | (simp [Value.oneCell'] at e3)
  rw [this]
  exact LRel.cons (fun _=> e3) hv LRel.nil
 cases x with
 | top=> simp [z4o] at hc
 | tu xs=> simp [z4o] at hc
 | ag xs=>
   simp only [z4o,Option.some.injEq] at hc;subst hc
   simp only [x3] at hv
   obtain ⟨vs,rfl,h⟩:=hv
   simpa [Value.cells] using h
 | sc u=>
   simp only [z4o] at hc
   split at hc
   · rename_i ho
     injection hc with hc;subst hc
     have e:v=u:=by simpa only [x3] using hv
     refine one (.sc u) ?_ rfl (e▸ho)
     simp [z4o,ho]
   · cases hc
 | i n=> have e:v=.int .i64 n:=by simpa only [x3] using hv
         exact one _ rfl rfl (by rw [e];rfl)
 | y n=> have e:v=.int .u8 n.toNat:=by simpa only [x3] using hv
         exact one _ rfl rfl (by rw [e];rfl)
 | b n=> have e:v=.bool n:=by simpa only [x3] using hv
         exact one _ rfl rfl (by rw [e];rfl)
 | st n=> have e:v=.string ⟨n.toArray⟩:=by simpa only [x3] using hv
          exact one _ rfl rfl (by rw [e];rfl)
 | nl=> have hv':=hv;simp only [x3] at hv';obtain ⟨a,e⟩:=hv'
        exact one _ rfl rfl (by rw [e];rfl)
 | sl n c=> have hv':=hv;simp only [x3] at hv';obtain ⟨a,_,e,_⟩:=hv'
            exact one _ rfl rfl (by rw [e];rfl)
 | rf b z o n=> have hv':=hv;simp only [x3] at hv';obtain ⟨a,_,e,_⟩:=hv'
                exact one _ rfl rfl (by rw [e];rfl)
 | pt b o=> have hv':=hv;simp only [x3] at hv';obtain ⟨a,_,e⟩:=hv'
            exact one _ rfl rfl (by rw [e];rfl)
 | ip c=> have hv':=hv;simp only [x3] at hv';obtain ⟨a,_,e,_⟩:=hv'
          exact one _ rfl rfl (by rw [e];rfl)
 | fn f c=> have hv':=hv;simp only [x3] at hv';obtain ⟨a,e,_⟩:=hv'
            exact one _ rfl rfl (by rw [e];rfl)
 | yl b=> have hv':=hv;simp only [x3] at hv';obtain ⟨a,_,e⟩:=hv'
          exact one _ rfl rfl (by rw [e];rfl)
 | mp b=> have hv':=hv;simp only [x3] at hv';obtain ⟨a,_,e⟩:=hv'
          exact one _ rfl rfl (by rw [e];rfl)
theorem ziv (t:TypeId) (v:Value):(newVar t v).run P w=.ok ⟨w.heap.size,0,none⟩ (z3t w (Obj.cells v.cells t)):=by
 simp [newVar,newRow,z3t]
theorem zv9 {e:TypeId} {x:AV} {v:Value} {cs:List AV} (hS:Sim C K w) (hn:C.φ h.nx=none) (hc:z4o x=some cs) (hv:x3 C w x v):
 z5a P C K w h.nx ⟨.pt h.nx 0,h.new (.cells cs),[],[h.nx]⟩ (Instr.box e v):=by
 refine zep (ob:=Obj.cells v.cells e) (v:=.pointer (some ⟨w.heap.size,0,none⟩)) hS hn rfl rfl ?_ ?_ ?_
 · have:=(hv.one hc).step (zb0 hS hn (Obj.cells v.cells e))
   exact ⟨_,[],e,by simpa using zba w _,this⟩
 · simp [Instr.box,ziv]
 · simp only [x3];exact ⟨_,Ctx.with_at C _ _,rfl⟩
theorem zoz {e:TypeId} {ti:TI} (hS:Sim C K w) (hn:C.φ h.nx=none) (hT:TSpec P e ti):
 z5a P C K w h.nx ⟨.pt h.nx 0,h.new (.cells ti.zero),[],[h.nx]⟩ (Instr.alloc e true (.tuple #[])):=by
 refine zep (ob:=Obj.cells hT.z.cells e) (v:=.pointer (some ⟨w.heap.size,0,none⟩)) hS hn rfl rfl ?_ ?_ ?_
 · refine ⟨hT.z.cells.toList,[],e,by simpa using zba w _,?_⟩
   rw [hT.zeros];exact z2m _ _ _ hT.ones
 · simp [Instr.alloc,hT.run_zero,ziv]
 · simp only [x3];exact ⟨_,Ctx.with_at C _ _,rfl⟩
/-! ### Cells at an address -/
theorem zfm {a:AV} {v:Value} {n:Nat} {cs:List AV} {rd:List Nat} (hS:Sim C K w) (hK:∀b∈rd,K b=h.get b) (hc:z2v h a n=some (cs,rd)) (hv:x3 C w a v) (hpos:0 < n):
 ∃(ad:Addr) (vs:List Value),v=.pointer (some ad)∧ad.spot=none∧z0s w ad.block ad.off vs∧LRel C w true cs vs∧cs.length=n:=by
 cases a with
 | pt b off=>
   simp only [z2v] at hc
   split at hc
   · rename_i ds hds
     split at hc
     · rename_i hle
       injection hc with hc
       injection hc with h1 h2
       subst h1 h2
       simp only [x3] at hv
       obtain ⟨rb,hφ,rfl⟩:=hv
       have hkb:K b=h.get b:=hK b (by simp)
       have hlen:((ds.drop off).take n).length=n:=by simp;omega
       refine ⟨⟨rb,off,none⟩,?_⟩
       unfold AH.cells at hds
       split at hds
       · rename_i c0 hg
         injection hds with hds;subst hds
         rw [hg] at hkb
         rcases hS.at_ b _ hkb with ⟨g,g'⟩ | ⟨rb',g1,g2,g3⟩
         · rw [g] at hφ;cases hφ
         · rw [g1] at hφ;injection hφ with hφ;subst hφ
           obtain ⟨vs,rest,T,e1,e2⟩:=g2
           refine ⟨(vs.drop off).take n,rfl,rfl,?_,(e2.drop off).take n,hlen⟩
           intro i u hu
           have hi:i < n:=by
            rcases Nat.lt_or_ge i n with g | g
            · exact g
            · rw [List.getElem?_take,if_neg (by omega)] at hu;cases hu
           rw [List.getElem?_take,if_pos hi,List.getElem?_drop] at hu
           rw [cell?_of w e1]
           have:off+i < vs.length:=by
            rcases Nat.lt_or_ge (off+i) vs.length with g | g
            · exact g
            · rw [List.getElem?_eq_none g] at hu;cases hu
           simp [List.getElem?_append_left this,hu]
       · rename_i c0 hg
         injection hds with hds;subst hds
         rw [hg] at hkb
         rcases hS.at_ b _ hkb with ⟨g,g'⟩ | ⟨rb',g1,g2,g3⟩
         · rw [g] at hφ;cases hφ
         · rw [g1] at hφ;injection hφ with hφ;subst hφ
           obtain ⟨vs,e1,e2⟩:=g2
           refine ⟨(vs.drop off).take n,rfl,rfl,?_,(e2.drop off).take n,hlen⟩
           have:=(e1.drop off).take n
           simpa using this
       · cases hds
     · cases hc
   · cases hc
 | ip ds=>
   simp only [z2v] at hc
   split at hc
   · rename_i hle
     injection hc with hc
     injection hc with h1 h2
     subst h1 h2
     simp only [x3] at hv
     obtain ⟨ad,vs,rfl,e1,e2,e3,e4⟩:=hv
     exact ⟨ad,vs.take n,rfl,e1,e4.take n,e3.unpure.take n,by simp;omega⟩
   · cases hc
 | _=> simp [z2v] at hc
theorem zp1 {t:TypeId} {ti:TI} (hT:TSpec P t ti) {ad:Addr} {vs:List Value} {cs:List AV} {x:AV} (hsp:ad.spot=none) (hat:z0s w ad.block ad.off vs) (hl:LRel C w true cs vs) (hlen:cs.length=ti.size)
 (hx:zfd ti cs=some x):∃v,(loadVar t ad).run P w=.ok v w∧x3 C w x v:=by
 have hvl:vs.length=ti.size:=by rw [←hl.length,hlen]
 unfold zfd at hx
 cases hag:ti.agg with
 | true=>
   rw [hag] at hx
   simp only [if_true,Option.some.injEq] at hx;subst hx
   refine ⟨.agg vs.toArray,?_,by simp only [x3];exact ⟨vs,rfl,hl⟩⟩
   simp only [loadVar,Sem.run_bind,hT.run_agg,hag,Result.andThen_ok,if_true,hT.run_size]
   rw [←hvl,z8l P w ad hsp vs hat]
   rfl
 | false=>
   rw [hag] at hx
   simp only [Bool.false_eq_true,if_false] at hx
   split at hx
   · rename_i c
     injection hx with hx;subst hx
     obtain ⟨v,rfl,hv,_⟩:=hl.one1
     refine ⟨v,?_,hv⟩
     have h0:w.cell? ad=some v:=by
      have:=hat 0 v rfl
      cases ad;simp_all
     simp [loadVar,hT.run_agg,hag,h0]
   · cases hx
theorem zt6 {t:TypeId} {ti:TI} {a x:AV} {v:Value} {cs:List AV} {rd:List Nat} (hS:Sim C K w) (hT:TSpec P t ti) (hpos:0 < ti.size) (hK:∀b∈rd,K b=h.get b)
 (hc:z2v h a ti.size=some (cs,rd)) (hx:zfd ti cs=some x) (hv:x3 C w a v) {n:Nat}:z5a P C K w n ⟨x,h,rd,[]⟩ (Instr.loadAt t v):=by
 obtain ⟨ad,vs,rfl,hsp,hat,hl,hlen⟩:=zfm hS hK hc hv hpos
 obtain ⟨u,hr,hu⟩:=zp1 hT hsp hat hl hlen hx
 exact d4 hS (by simp [Instr.loadAt,Instr.sureAddr,hr]) hu
/-! ### A store -/
theorem zqx {α:Type} (cs:List α) (off:Nat) (vs:List α) (h:off+vs.length≤cs.length):(cs.take off++vs++cs.drop (off+vs.length)).length=cs.length:=by
 simp;omega
theorem zqr {α:Type} (cs rest:List α) (off:Nat) (vs:List α) (h:off+vs.length≤cs.length):
 (cs++rest).take off++vs++(cs++rest).drop (off+vs.length)=(cs.take off++vs++cs.drop (off+vs.length))++rest:=by
 rw [List.take_append_of_le_length (by omega),List.drop_append_of_le_length (by omega)]
 simp
theorem znt {b rb off:Nat} {cs vs:List AV} {us:List Value} (hS:Sim C K w) (hk:K b=some (.cells cs)) (hφ:C.φ b=some rb) (hl:LRel C w true vs us) (hle:off+vs.length≤cs.length):
 ∃w',(storeCells ⟨rb,off,none⟩ us).run P w=.ok () w'∧Step C w C w'∧Sim C (z1i K b (some (.cells (over cs off vs)))) w':=by
 rcases hS.at_ b _ hk with ⟨g,g'⟩ | ⟨rb',g1,g2,g3⟩
 · rw [g] at hφ;cases hφ
 · rw [g1] at hφ;injection hφ with hφ;subst hφ
   obtain ⟨ds,rest,T,e1,e2⟩:=g2
   have hul:us.length=vs.length:=hl.length.symm
   have hdl:ds.length=cs.length:=e2.length.symm
   have hst:=z3j P rb' us w off 0 (ds++rest).toArray T hl.cells e1 (by simp;omega)
   have hC:C.with b rb'=C:=by
    cases C
    simp only [Ctx.with]
    congr
    funext x
    split
    · rename_i hx;subst hx;exact g1.symm
    · rfl
   have hsz:(List.take (off+0) (ds++rest).toArray.toList++us++List.drop (off+0+us.length) (ds++rest).toArray.toList).toArray.size=(ds++rest).toArray.size:=by
    simp;omega
   have hstep:=zej hS hk g1 (.inl rfl) e1 hsz
   rw [hC] at hstep
   refine ⟨_,hst,hstep,?_⟩
   have hs:=zn1 hS hk g1 (n:=b) (.inl rfl) e1 hsz (o:=.cells (over cs off vs)) rfl ?_
   · rw [hC] at hs
     refine hs.congr fun x=> ?_
     simp only [z1i]
     split <;> rfl
   · rw [hC]
     refine ⟨ds.take off++us++ds.drop (off+us.length),rest,T,?_,(e2.step hstep).over off (hl.step hstep)⟩
     rw [t5]
     simp only [z0i w e1,if_true,and_self]
     rw [←zqr ds rest off us (by omega)]
     simp
theorem zry {t:TypeId} {a x:AV} {h':AH} {bs:List Nat} {va vx:Value} (hS:Sim C K w) (hs:zdc P h t a x=(some h',bs)) (hK:∀b∈bs,K b=h.get b) (hva:x3 C w a va) (hvx:x3 C w x vx):
 ∃w',(Instr.storeAt t va vx).run P w=.ok () w'∧Step C w C w'∧Sim C (fun b=> if b∈bs then h'.get b else K b) w':=by
 unfold zdc at hs
 split at hs
 · rename_i ti b off vs ht hvs
   split at hs
   · rename_i cs hcs
     split at hs
     · rename_i hle
       injection hs with h1 h2
       injection h1 with h1
       subst h1 h2
       obtain ⟨hT⟩:=u5 ht
       simp only [x3] at hva
       obtain ⟨rb,hφ,rfl⟩:=hva
       have hcell:=hvx.one hvs
       have hk:K b=some (.cells cs):=by
        rw [hK b (by simp)]
        unfold AH.wcells at hcs
        split at hcs
        · rename_i c0 hg;injection hcs with hcs;subst hcs;exact hg
        · cases hcs
       obtain ⟨w',hr,hst,hsim⟩:=znt (P:=P) hS hk hφ hcell hle.2
       have hsz:vx.cells.size=ti.size:=by
        have:=hcell.length
        rw [hle.1] at this
        simpa using this.symm
       refine ⟨w',?_,hst,?_⟩
       · simp only [Instr.storeAt,Instr.sureAddr,Sem.run_bind,Sem.run_pure,Result.andThen_ok,storeVar,hT.run_size,hsz]
         simpa using hr
       · refine hsim.congr fun y=> ?_
         simp only [List.mem_singleton,z1i,AH.get_put]
         by_cases e:y=b
         · subst e;simp [z6e]
         · simp [e]
     · cases hs
   · cases hs
 · cases hs
/-! ### Structs built -/
theorem zvh {α:Type} (us:List α):∀(cs:List α) (off k:Nat),off+k+us.length≤cs.length→
 ((us.zipIdx k).foldl (fun (cs:Array α) (p:α×Nat)=> cs.setIfInBounds (off+p.2) p.1) cs.toArray)=(cs.take (off+k)++us++cs.drop (off+k+us.length)).toArray:=by
 induction us with
 | nil=> intro cs off k h;simp
 | cons u us ih=>
   intro cs off k h
   simp only [List.zipIdx_cons,List.foldl_cons]
   have hk:off+k < cs.length:=by simp at h;omega
   have e:cs.toArray.setIfInBounds (off+k) u=(cs.set (off+k) u).toArray:=by simp
   rw [e,ih (cs.set (off+k) u) off (k+1) (by simp at h⊢;omega)]
   exact congrArg List.toArray (zfn hk)
theorem zdn {places:Nat→Option (Nat×Nat)}:∀(parts:List (Nat×AV)) (vparts:List (Nat×Value)) (cells out:List AV) (cs:List Value),
 (∀i:Nat,(parts[i]?).map (fun p:Nat×AV=> p.1)=(vparts[i]?).map (fun p:Nat×Value=> p.1))→(∀(i:Nat) (p:Nat×AV) (q:Nat×Value),parts[i]? =some p→vparts[i]? =some q→x3 C w p.2 q.2)→LRel C w true cells cs→
 z7x places cells parts=some out→∃vs:List Value,Instr.fill places cs.toArray vparts=some vs.toArray∧LRel C w true out vs
 | [],vparts,cells,out,cs,h1,h2,h3,h4=> by
   have:vparts=[]:=by
    cases vparts with
    | nil=> rfl
    | cons q r=> have:=h1 0;simp at this
   subst this
   simp only [z7x,Option.some.injEq] at h4;subst h4
   exact ⟨cs,by simp [Instr.fill],h3⟩
 | (i,x)::parts,vparts,cells,out,cs,h1,h2,h3,h4=> by
   cases vparts with
   | nil=> have:=h1 0;simp at this
   | cons q vparts=>
     obtain ⟨j,v⟩:=q
     have hij:i=j:=by have:=h1 0;simpa using this
     subst hij
     simp only [z7x] at h4
     split at h4
     · rename_i off size vs hp hv
       split at h4
       · rename_i hle
         have hx:x3 C w x v:=h2 0 (i,x) (i,v) rfl rfl
         have hc:=hx.one hv
         have hvl:v.cells.size=size:=by have:=hc.length;rw [hle.1] at this;simpa using this.symm
         have hcl:cs.length=cells.length:=h3.length.symm
         have hfs:=zvh v.cells.toList cs off 0 (by simp;omega)
         obtain ⟨us,e1,e2⟩:=zdn parts vparts (over cells off vs) out (cs.take off++v.cells.toList++cs.drop (off+v.cells.toList.length))
          (fun k=> by have:=h1 (k+1);simpa using this) (fun k p q hp hq=> h2 (k+1) p q (by simpa using hp) (by simpa using hq)) (h3.over off hc) h4
         refine ⟨us,?_,e2⟩
         simp only [Instr.fill,hp]
         have hno:(v.cells.size≠size || off+v.cells.size > cs.toArray.size)=false:=by
          simp [hvl];omega
         rw [if_neg (by simpa using hno)]
         rw [←Array.foldl_toList,Array.toList_zipIdx]
         rw [show (fun (cs:Array Value) (x:Value×Nat)=> match x with | (c,j)=> cs.setIfInBounds (off+j) c)=(fun (cs:Array Value) (p:Value×Nat)=> cs.setIfInBounds (off+p.2) p.1) from rfl]
         rw [hfs]
         simpa using e1
       · cases h4
     · cases h4
end
end Go.Proofs.Ytimcbhhebnikiaa.Ab
namespace Go.Proofs.Ytimcbhhebnikiaa.Ab
open Go
set_option linter.unusedVariables false
set_option linter.unusedSimpArgs false
section
variable {P : Program} {C : Ctx} {K : Nat → Option AObj} {w : World} {h : AH}
theorem z0s.heap {w w':World} (e:w'.heap=w.heap) {b o:Nat} {vs:List Value} (r:z0s w b o vs):z0s w' b o vs:=by
 intro i v hv
 have:=r i v hv
 unfold World.cell? at*
 simpa only [e] using this
theorem z5q {b:Nat} {cs:List AV} (hc:h.cells b=some cs):h.get b=some (.cells cs)∨h.get b=some (.ro cs):=by
 unfold AH.cells at hc
 split at hc
 · rename_i g;injection hc with hc;subst hc;exact .inl g
 · rename_i g;injection hc with hc;subst hc;exact .inr g
 · cases hc
theorem z6a {b:Nat} {cs:List AV} (hc:h.wcells b=some cs):h.get b=some (.cells cs):=by
 unfold AH.wcells at hc
 split at hc
 · rename_i g;injection hc with hc;subst hc;exact g
 · cases hc
theorem zdh {b rb:Nat} {cs:List AV} (hS:Sim C K w) (hk:K b=some (.cells cs)∨K b=some (.ro cs)) (hφ:C.φ b=some rb):∃vs,z0s w rb 0 vs∧LRel C w true cs vs:=by
 rcases hk with hk | hk
 · rcases hS.at_ b _ hk with ⟨g,_⟩ | ⟨rb',g1,g2,_⟩
   · rw [g] at hφ;cases hφ
   · rw [g1] at hφ;injection hφ with hφ;subst hφ
     obtain ⟨vs,rest,T,e1,e2⟩:=g2
     refine ⟨vs,fun i v hv=> ?_,e2⟩
     rw [cell?_of w e1]
     have:i < vs.length:=by
      rcases Nat.lt_or_ge i vs.length with g | g
      · exact g
      · rw [List.getElem?_eq_none g] at hv;cases hv
     simp [List.getElem?_append_left this,hv]
 · rcases hS.at_ b _ hk with ⟨g,_⟩ | ⟨rb',g1,g2,_⟩
   · rw [g] at hφ;cases hφ
   · rw [g1] at hφ;injection hφ with hφ;subst hφ
     exact g2
theorem z3q {z n:Nat} {x:AV} {v:Value} {cs:List AV} {rd:List Nat} (hS:Sim C K w) (hc:z0a h z x=some (n,cs,rd)) (hK:∀b∈rd,K b=h.get b) (hv:x3 C w x v):
 ∃vs:List Value,LRel C w true cs vs∧cs.length=n*z∧(∀w',(Builtin.lenOf v).run P w'=.ok n w')∧∀k,k≤n→∀w':World,w'.heap=w.heap→(Builtin.firstCells z k v).run P w'=.ok (vs.take (k*z)).toArray w':=by
 have zero:∀a c (w':World),(Builtin.firstCells z 0 (.slice a 0 c)).run P w'=.ok #[] w':=by
  intro a c w'
  cases a <;> simp [Builtin.firstCells,loadCells,loadCellsFrom]
 cases x with
 | nl=>
   simp only [z0a,Option.some.injEq,Prod.mk.injEq] at hc
   obtain ⟨rfl,rfl,rfl⟩:=hc
   simp only [x3] at hv
   obtain ⟨a,rfl⟩:=hv
   refine ⟨[],LRel.nil,by simp,fun _=> by simp [Builtin.lenOf],fun k hk w' hw'=> ?_⟩
   have:k=0:=by omega
   subst this
   simpa using zero a 0 w'
 | sl m ds=>
   simp only [z0a] at hc
   split at hc
   · rename_i hlen
     simp only [Option.some.injEq,Prod.mk.injEq] at hc
     obtain ⟨rfl,rfl,rfl⟩:=hc
     simp only [x3] at hv
     obtain ⟨a,c,rfl,hle,hn | ⟨ad,vs,rfl,h2,h3,h4,h5⟩⟩:=hv
     · subst hn
       have:ds=[]:=by cases ds with | nil=> rfl | cons _ _=> simp at hlen
       subst this
       refine ⟨[],LRel.nil,by simp,fun _=> by simp [Builtin.lenOf],fun k hk w' hw'=> ?_⟩
       have:k=0:=by omega
       subst this
       simpa using zero a c w'
     · refine ⟨vs,h4.unpure,hlen,fun _=> by simp [Builtin.lenOf],fun k hk w' hw'=> ?_⟩
       simp only [Builtin.firstCells]
       have hl:(vs.take (k*z)).length=k*z:=by
        rw [List.length_take,←h4.length,hlen]
        exact Nat.min_eq_left (Nat.mul_le_mul_right z hk)
       have:=z8l P w' ad h2 (vs.take (k*z)) ((h5.heap hw').take _)
       rwa [hl] at this
   · cases hc
 | rf b z' off m=>
   simp only [z0a] at hc
   split at hc
   · rename_i hz;subst hz
     split at hc
     · rename_i ds hds
       split at hc
       · rename_i hle
         simp only [Option.some.injEq,Prod.mk.injEq] at hc
         obtain ⟨rfl,rfl,rfl⟩:=hc
         have hlen:((ds.drop off).take (m*z')).length=m*z':=by simp;omega
         simp only [x3] at hv
         obtain ⟨a,c,rfl,hcap,h0 | ⟨rb,hφ,rfl,hR⟩⟩:=hv
         · subst h0
           have:m=0:=by omega
           subst this
           refine ⟨[],by simpa using LRel.nil,hlen,fun _=> by simp [Builtin.lenOf],fun k hk w' hw'=> ?_⟩
           have:k=0:=by omega
           subst this
           simpa using zero a 0 w'
         · have hk:K b=some (.cells ds)∨K b=some (.ro ds):=by rw [hK b (by simp)];exact z5q hds
           obtain ⟨vs,e1,e2⟩:=zdh hS hk hφ
           refine ⟨(vs.drop off).take (m*z'),(e2.drop off).take _,hlen,fun _=> by simp [Builtin.lenOf],fun k hk w' hw'=> ?_⟩
           simp only [Builtin.firstCells]
           have hl:(((vs.drop off).take (m*z')).take (k*z')).length=k*z':=by
            have:=Nat.mul_le_mul_right z' hk
            have:=e2.length
            simp;omega
           have:=z8l P w' ⟨rb,off,none⟩ rfl (((vs.drop off).take (m*z')).take (k*z')) (((by simpa using (e1.heap hw').drop off:z0s w' rb off (vs.drop off)).take _).take _)
           rwa [hl] at this
       · cases hc
     · cases hc
   · cases hc
 | _=> simp [z0a] at hc
/-! ### append -/
theorem zb2 (zero:Array Value) (n:Nat):(Builtin.zeroCells zero n).size=n*zero.size:=by simp [Builtin.zeroCells]
theorem zkh (N:Nat):∀(r c:Nat),c≤N→Builtin.growBy N r c≤N+(N+768) / 4
 | 0,c,h=> by simp only [Builtin.growBy];omega
 | r+1,c,h=> by
   simp only [Builtin.growBy]
   split
   · omega
   · rename_i hlt
     by_cases h2:c+(c+768) / 4≤N
     · exact zkh N r _ h2
     · cases r with
       | zero=> simp only [Builtin.growBy];omega
       | succ r=>
         simp only [Builtin.growBy]
         rw [if_pos (by omega)]
         omega
theorem zg5 (need cap:Nat) (h:¬need≤cap):Builtin.nextslicecap need cap≤2*need+256:=by
 unfold Builtin.nextslicecap
 split
 · omega
 · split
   · omega
   · have:=zkh need 4 cap (by omega)
     omega
theorem z9i {t e:TypeId} {ti ei:TI} (hT:TSpec P t ti) (hE:TSpec P e ei) (hk:ti.k=.slice e) {ts:Array TypeId} (hts:ts[0]? =some t) (hno:zee P ts[1]? =true)
 {a:Option Addr} {m c n:Nat} {x:Value} {old new:List Value} (hlen:∀w',(Builtin.lenOf x).run P w'=.ok n w') (hnew:∀w':World,w'.heap=w.heap→(Builtin.firstCells ei.size n x).run P w'=.ok new.toArray w')
 (hold:∀w':World,w'.heap=w.heap→(Builtin.firstCells ei.size m (.slice a m c)).run P w'=.ok old.toArray w') (hb1:m+n≤4294967296) (hb2:ei.bytes≤4096) {ty:TypeId}:
 (m+n≤c→(Builtin.append_ ts ty #[.slice a m c,x]).run P w=((match a with | some a=> storeCells (a.add (m*ei.size)) new | none=> pure ():Sem Unit).run P w).andThen fun _ w'=> .ok (.slice a (m+n) c) w')∧
 (¬m+n≤c→∃(q:Nat) (w1:World),m+n≤q∧(w1.heap=w.heap∧z8t w1=z8t w)∧
   (Builtin.append_ ts ty #[.slice a m c,x]).run P w=.ok (.slice (some ⟨w.heap.size,0,none⟩) (m+n) q) (z3t w1 (Obj.cells (old++new++(Builtin.zeroCells hE.z.cells (q - (m+n))).toList).toArray e (0,0)))):=by
 have hd:=z0v (hk▸hT.kind)
 have hund:(underlying t).run P w=.ok (.slice e) w:=by rw [hT.run_und,hd]
 have hz:ts[1]? =none∨∃(t1 e1:TypeId),ts[1]? =some t1∧((underlying t1).run P w=.ok (.slice e1) w∨(underlying t1).run P w=.ok .string w):=by
  unfold zee at hno
  cases h1:ts[1]? with
  | none=> exact .inl rfl
  | some t1=>
    rw [h1] at hno
    simp only at hno
    split at hno
    · rename_i ti1 ht1
      obtain ⟨hT1⟩:=u5 ht1
      split at hno
      · rename_i e1 hk1
        exact .inr ⟨t1,e1,rfl,.inl (by rw [hT1.run_und];exact congrArg (Result.ok · w) (z0v (hk1▸hT1.kind)))⟩
      · rename_i hk1
        exact .inr ⟨t1,0,rfl,.inr (by rw [hT1.run_und];exact congrArg (Result.ok · w) (z8d (hk1▸hT1.kind)))⟩
      · cases hno
    · cases hno
 constructor
 · intro hle
   rcases hz with h1 | ⟨t1,e1,h1,hu1 | hu1⟩
   · cases a <;> simp [Builtin.append_,hts,h1,hund,hE.run_size,hlen,hnew w rfl,hle]
   · cases a <;> simp [Builtin.append_,hts,h1,hu1,hund,hE.run_size,hlen,hnew w rfl,hle]
   · cases a <;> simp [Builtin.append_,hts,h1,hu1,hund,hE.run_size,hlen,hnew w rfl,hle]
 · intro hgt
   have hns:=zg5 (m+n) c hgt
   have hbnd:¬(281474976710656 < Builtin.nextslicecap (m+n) c*hE.i.bytes):=by
    rw [←hE.bytes]
    have:Builtin.nextslicecap (m+n) c*ei.bytes≤(2*4294967296+256)*4096:=Nat.mul_le_mul (by omega) hb2
    omega
   have h63:¬(IntKind.i64.max < ((m:Int)+(n:Int))):=by
    have:IntKind.i64.max=9223372036854775807:=by decide
    omega
   refine ⟨(m+n)+(w.tape w.drawn (.appendCap (m+n) c e)) % (2 ^ 63 - (m+n)),{w with drawn:=w.drawn+1},by omega,⟨rfl,rfl⟩,?_⟩
   have hn1:=hnew {w with drawn:=w.drawn+1} rfl
   have ho1:=hold {w with drawn:=w.drawn+1} rfl
   rcases hz with h1 | ⟨t1,e1,h1,hu1 | hu1⟩
   · simp [Builtin.append_,hts,h1,hund,hE.run_size,hlen,hn1,ho1,hgt,h63,hE.run_info,hbnd,Question.forced,Question.cut,hE.run_zero,newRow,z3t]
     congr 2
     apply Array.ext'
     simp
   · simp [Builtin.append_,hts,h1,hu1,hund,hE.run_size,hlen,hn1,ho1,hgt,h63,hE.run_info,hbnd,Question.forced,Question.cut,hE.run_zero,newRow,z3t]
     congr 2
     apply Array.ext'
     simp
   · simp [Builtin.append_,hts,h1,hu1,hund,hE.run_size,hlen,hn1,ho1,hgt,h63,hE.run_info,hbnd,Question.forced,Question.cut,hE.run_zero,newRow,z3t]
     congr 2
     apply Array.ext'
     simp
theorem zgd {K':Nat→Option AObj} (hS:Sim C K' w) {n:Nat} (hn:C.φ n=none) {w1:World} (hw1:w1.heap=w.heap∧z8t w1=z8t w) {cs:List AV} {vs rest:List Value} {e:TypeId} {z N q:Nat}
 (hl:LRel C w true cs vs) (hq:N≤q) (hsz:q*z≤(vs++rest).length):
 x3 (C.with n w.heap.size) (z3t w1 (Obj.cells (vs++rest).toArray e (0,0))) (.rf n z 0 N) (.slice (some ⟨w.heap.size,0,none⟩) N q)∧
 Step C w (C.with n w.heap.size) (z3t w1 (Obj.cells (vs++rest).toArray e (0,0)))∧
 Sim (C.with n w.heap.size) (z1i K' n (some (.cells cs))) (z3t w1 (Obj.cells (vs++rest).toArray e (0,0))):=by
 have hS1:=hS.heap hw1.1 hw1.2
 have e0:w1.heap.size=w.heap.size:=by rw [hw1.1]
 have st:=(Step.heap hw1.1 hw1.2:Step C w C w1).trans (zb0 hS1 hn (Obj.cells (vs++rest).toArray e (0,0)))
 have hat:=zba w1 (Obj.cells (vs++rest).toArray e (0,0))
 rw [e0] at st hat
 refine ⟨?_,st,?_⟩
 · simp only [x3]
   exact ⟨_,_,rfl,hq,.inr ⟨w.heap.size,Ctx.with_at C _ _,rfl,_,_,_,hat,by simpa using hsz⟩⟩
 · have:=znc hS1 hn (ob:=Obj.cells (vs++rest).toArray e (0,0)) (o:=.cells cs) rfl ?_
   · rwa [e0] at this
   · rw [e0];exact ⟨vs,rest,e,hat,hl.step st⟩
theorem zo9 {t:TypeId} {ts:Array TypeId} {s x:AV} {r:OR} {vs vx:Value} (hS:Sim C K w) (hn:C.φ h.nx=none) (hts:ts[0]? =some t) (hr:z4z P h t ts[1]? s x=some r)
 (hK:∀b∈r.rd,K b=h.get b) (hvs:x3 C w s vs) (hvx:x3 C w x vx) {ty:TypeId}:z5a P C K w h.nx r (Builtin.append_ ts ty #[vs,vx]):=by
 unfold z4z at hr
 split at hr
 · rename_i ti ht
   split at hr
   · rename_i e hk
     split at hr
     · rename_i ei he
       split at hr
       · cases hr
       · rename_i hno0
         have hno:zee P ts[1]? =true:=by
          cases hx:zee P ts[1]? with
          | true=> rfl
          | false=> exact absurd (.inl hx) hno0
         have hzl:ei.zero.length=ei.size:=Classical.byContradiction fun hx=> hno0 (.inr hx)
         obtain ⟨hT⟩:=u5 ht
         obtain ⟨hE⟩:=u5 he
         have hzs:hE.z.cells.size=ei.size:=by rw [←hzl,hE.zeros];simp
         split at hr
         · rename_i n new rd hsl
           split at hr
           · -- onto nothing
             split at hr
             · rename_i hb
               injection hr with hr;subst hr
               obtain ⟨ns,l1,l2,l3,l4⟩:=z3q (P:=P) hS hsl hK hvx
               simp only [x3] at hvs
               obtain ⟨a,rfl⟩:=hvs
               have hnl:ns.length=n*ei.size:=by rw [←l1.length,l2]
               have hnew:∀w':World,w'.heap=w.heap→(Builtin.firstCells ei.size n vx).run P w'=.ok ns.toArray w':=by
                intro w' hw'
                have:=l4 n (Nat.le_refl _) w' hw'
                rwa [←hnl,List.take_length] at this
               have hold:∀w':World,w'.heap=w.heap→(Builtin.firstCells ei.size 0 (.slice a 0 0)).run P w'=.ok ([]:List Value).toArray w':=by
                intro w' _
                cases a <;> simp [Builtin.firstCells,loadCells,loadCellsFrom]
               obtain ⟨h1,h2⟩:=z9i hT hE hk hts hno (a:=a) (m:=0) (c:=0) l3 hnew hold (by omega) hb.2.1 (ty:=ty)
               by_cases hle:0+n≤0
               · have hn0:n=0:=by omega
                 subst hn0
                 have hns:ns=[]:=by cases ns with | nil=> rfl | cons _ _=> simp at hnl
                 have hnw:new=[]:=by cases new with | nil=> rfl | cons _ _=> simp at l2
                 subst hns hnw
                 refine ⟨.slice a 0 0,C,w,?_,?_,Step.refl C w,?_,fun b hb _=> hb⟩
                 · rw [h1 hle];cases a <;> simp [storeCells]
                 · simp only [x3];exact ⟨a,0,rfl,Nat.le_refl _,.inl rfl⟩
                 · refine (z85 hS hn).congr fun b=> ?_
                   simp only [List.mem_singleton,z1i,AH.get_new]
                   by_cases e:b=h.nx
                   · subst e;simp [z6e]
                   · simp [e]
               · obtain ⟨q,w1,hq,hw1,hrun⟩:=h2 hle
                 have hzz:=zb2 hE.z.cells (q - (0+n))
                 obtain ⟨g1,g2,g3⟩:=zgd (cs:=new) (vs:=ns) (rest:=(Builtin.zeroCells hE.z.cells (q - (0+n))).toList) (e:=e) (z:=ei.size) (N:=n) (q:=q) hS hn hw1 l1 (by omega) (by
                  simp only [List.length_append,Array.length_toList,hzz,hzs,hnl]
                  rw [←Nat.add_mul];exact Nat.mul_le_mul_right _ (by omega))
                 refine ⟨_,_,_,hrun,by simpa using g1,by simpa using g2,?_,fun b hb hne=> by simp [Ctx.with,hne.resolve_right (by simp),hb]⟩
                 refine Sim.congr (by simpa using g3) fun b=> ?_
                 simp only [List.mem_singleton,z1i,AH.get_new]
                 by_cases e:b=h.nx
                 · subst e;simp [z6e]
                 · simp [e]
             · cases hr
           · -- onto an owned block
             rename_i b z m
             split at hr
             · rename_i old hold0
               split at hr
               · rename_i hb
                 obtain ⟨hz,hol,hb1,hb2,hpos⟩:=hb
                 subst hz
                 injection hr with hr;subst hr
                 obtain ⟨ns,l1,l2,l3,l4⟩:=z3q (P:=P) hS hsl (fun b hb=> hK b (by simp [hb])) hvx
                 have hnl:ns.length=n*ei.size:=by rw [←l1.length,l2]
                 have hnew:∀w':World,w'.heap=w.heap→(Builtin.firstCells ei.size n vx).run P w'=.ok ns.toArray w':=by
                  intro w' hw'
                  have:=l4 n (Nat.le_refl _) w' hw'
                  rwa [←hnl,List.take_length] at this
                 have hkb:K b=some (.cells old):=by rw [hK b (by simp)];exact z6a hold0
                 have hso:z0a h ei.size (.rf b ei.size 0 m)=some (m,old,[b]):=by
                  have:h.cells b=some old:=by unfold AH.cells;rw [z6a hold0]
                  simp only [z0a,if_true,this,Nat.zero_add,hol,Nat.le_refl,List.drop_zero]
                  rw [←hol,List.take_length]
                 obtain ⟨os,o1,o2,o3,o4⟩:=z3q (P:=P) hS hso (fun b' hb'=> hK b' (by simp at hb';simp [hb'])) hvs
                 have hvs':=hvs
                 simp only [x3] at hvs'
                 obtain ⟨a,c,rfl,hmc,hcap⟩:=hvs'
                 have hosl:os.length=m*ei.size:=by rw [←o1.length,o2]
                 have hold:∀w':World,w'.heap=w.heap→(Builtin.firstCells ei.size m (.slice a m c)).run P w'=.ok os.toArray w':=by
                  intro w' hw'
                  have:=o4 m (Nat.le_refl _) w' hw'
                  rwa [←hosl,List.take_length] at this
                 obtain ⟨h1,h2⟩:=z9i hT hE hk hts hno (a:=a) (m:=m) (c:=c) l3 hnew hold hb1 hb2 (ty:=ty)
                 have kk:∀(o:AObj) (x:Nat),z6e o=some o→(if x∈[b,h.nx] then ((h.kill b).new o).get x else K x)=z1i (z1i K b none) h.nx (some o) x:=by
                  intro o x ho
                  simp only [List.mem_cons,List.not_mem_nil,or_false,z1i,AH.get_new,AH.nx_kill,AH.get_kill]
                  by_cases e1:x=h.nx
                  · subst e1;simp [ho]
                  · by_cases e2:x=b
                    · subst e2;simp [e1,Ne.symm e1]
                    · simp [e1,e2]
                 by_cases hle:m+n≤c
                 · rcases hcap with h0 | ⟨rb,hφ,ha,hR⟩
                   · -- nothing, and no room
                     have hm0:m=0:=by omega
                     have hn0:n=0:=by omega
                     subst hm0 hn0 h0
                     have hns:ns=[]:=by cases ns with | nil=> rfl | cons _ _=> simp at hnl
                     have hnw:new=[]:=by cases new with | nil=> rfl | cons _ _=> simp at l2
                     have hod:old=[]:=by cases old with | nil=> rfl | cons _ _=> simp at hol
                     subst hns hnw hod
                     refine ⟨.slice a 0 0,C,w,?_,?_,Step.refl C w,?_,fun b hb _=> hb⟩
                     · rw [h1 hle];cases a <;> simp [storeCells]
                     · simp only [x3];exact ⟨a,0,rfl,Nat.le_refl _,.inl rfl⟩
                     · exact (z85 (zoj hS b) hn).congr fun x=> kk (.cells ([]++[])) x rfl
                   · subst ha
                     rcases hS.at_ b _ hkb with ⟨g,_⟩ | ⟨rb',g1,g2,_⟩
                     · rw [g] at hφ;cases hφ
                     rw [g1] at hφ;injection hφ with hφ;subst hφ
                     obtain ⟨vs0,rest,T,e1,e2⟩:=g2
                     obtain ⟨c1,T1,f1,e3,hRl⟩:=hR
                     rw [e1] at e3
                     injection e3 with e3
                     injection e3 with e4 e5 e6
                     subst e4
                     have hv0:vs0.length=m*ei.size:=by rw [←e2.length,hol]
                     have hfit:m*ei.size+ns.length≤(vs0++rest).toArray.size:=by
                      have:(m+n)*ei.size≤c*ei.size:=Nat.mul_le_mul_right _ hle
                      rw [Nat.add_mul] at this
                      rw [hnl]
                      omega
                     have hst:=z3j P rb' ns w (m*ei.size) 0 (vs0++rest).toArray T l1.cells e1 (by simpa using hfit)
                     simp only [Nat.add_zero] at hst
                     have hsz:(List.take (m*ei.size) (vs0++rest).toArray.toList++ns++List.drop (m*ei.size+ns.length) (vs0++rest).toArray.toList).toArray.size=(vs0++rest).toArray.size:=by
                      simp at hfit⊢;omega
                     have hstep:=zej hS hkb g1 (n:=h.nx) (.inr hn) e1 hsz
                     have hadd:(⟨rb',0,none⟩:Addr).add (m*ei.size)=⟨rb',m*ei.size,none⟩:=by
                      unfold Addr.add
                      split
                      · rename_i h0;simp [h0]
                      · simp
                     have hcont:List.take (m*ei.size) (vs0++rest).toArray.toList++ns++List.drop (m*ei.size+ns.length) (vs0++rest).toArray.toList=(vs0++ns)++List.drop (m*ei.size+ns.length) (vs0++rest):=by
                      simp only [List.append_assoc]
                      congr 1
                      rw [←hv0];simp
                     refine ⟨.slice (some ⟨rb',0,none⟩) (m+n) c,_,_,?_,?_,hstep,?_,fun x hx hne=> by simp [Ctx.with,hne.resolve_right (by simp),hx]⟩
                     · rw [h1 hle]
                       simp only [hadd,hst,Result.andThen_ok]
                     · simp only [x3]
                       refine ⟨_,_,rfl,hle,.inr ⟨rb',Ctx.with_at C _ _,rfl,_,T,(0,0),by rw [t5,if_pos ⟨rfl,z0i w e1⟩],?_⟩⟩
                       rw [hsz];exact hRl
                     · refine (zn1 hS hkb g1 (n:=h.nx) (.inr hn) e1 hsz (o:=.cells (old++new)) rfl ?_).congr fun x=> kk (.cells (old++new)) x rfl
                       refine ⟨vs0++ns,_,T,by rw [t5,if_pos ⟨rfl,z0i w e1⟩,hcont],(e2.step hstep).append (l1.step hstep)⟩
                 · obtain ⟨q,w1,hq,hw1,hrun⟩:=h2 hle
                   have hzz:=zb2 hE.z.cells (q - (m+n))
                   obtain ⟨g1,g2,g3⟩:=zgd (cs:=old++new) (vs:=os++ns) (rest:=(Builtin.zeroCells hE.z.cells (q - (m+n))).toList) (e:=e) (z:=ei.size) (N:=m+n) (q:=q) (zoj hS b) hn hw1 (o1.append l1) hq (by
                    simp only [List.length_append,Array.length_toList,hzz,hzs,hnl,hosl]
                    rw [←Nat.add_mul,←Nat.add_mul];exact Nat.mul_le_mul_right _ (by omega))
                   refine ⟨_,_,_,hrun,by simpa using g1,by simpa using g2,?_,fun x hb hne=> by simp [Ctx.with,hne.resolve_right (by simp),hb]⟩
                   exact Sim.congr (by simpa using g3) fun x=> kk (.cells (old++new)) x rfl
               · cases hr
             · cases hr
           · cases hr
         · cases hr
     · cases hr
   · cases hr
 · cases hr
end
end Go.Proofs.Ytimcbhhebnikiaa.Ab
