/- The law 'SendTells': it returns true, and nothing that was there changes. No condition. (Part 11 of 12.) -/
import Derived.Test.YtpflcogplhigcaaSt10
import Derived.Test.YtpflcogplhigcaaRows
namespace Go.Proofs.Ytpflcogplhigcaa
open Go Go.Proofs.Ytpflcogplhigcaa.Ab
set_option linter.unusedVariables false
set_option linter.unusedSimpArgs false
namespace Ab
def mkx (lba:Int) (b:List UInt8) (c:Bool) (n:Int):Ex:=if c=true then ⟨lba,n,1,0,[]⟩ else ⟨lba,n,2,0,b.take (32*n).toNat⟩
def ly:Int→List UInt8→Bool→Int→List Bool→List Ex
 | lba,b,c,n,[]=> if n=0 then [] else [mkx lba b c n]
 | lba,b,c,n,z::zs=> if z=c then ly lba b c (n+1) zs else if n=0 then ly lba b z 1 zs else mkx lba b c n::ly (lba+n) (b.drop (32*n).toNat) z 1 zs
def Lo (lba:Int) (b:List UInt8):Prop:=b.length % 32=0∧0≤lba∧lba≤64∧(b.length:Int) / 32≤64 - lba
instance (lba:Int) (b:List UInt8):Decidable (Lo lba b):=by unfold Lo;infer_instance
def lay (lba:Int) (b:List UInt8):List Ex×Int:=if Lo lba b then (ly lba b false 0 (z0d b),0) else ([],150)
theorem y0a (n:Nat):Int.tdiv (n:Int) 32=(n:Int) / 32:=Int.tdiv_eq_ediv_of_nonneg (by omega)
theorem zgs (lba0:Int) (b0:List UInt8) (c:Bool) (n:Int) (b':List UInt8) (out:List Ex) (bc:List UInt8) (lba:Int) (h1:0≤n) (h2:n≤64) (h3:32*n≤bc.length) (h4:0≤lba) (h5:lba≤64) (h6:out.length≤64):
 zbe lba0 b0 (c,n,b',out,bc,lba)=some (out++[mkx lba bc c n],bc.drop (32*n).toNat,lba+n):=by
 unfold zbe
 simp only [z26]
 have w1:wr (n*32)=32*n:=by rw [t9 (by omega) (by omega)];omega
 have w2:wr (lba+n)=lba+n:=t9 (by omega) (by omega)
 rw [w1,w2]
 have hr:List.take ((bc.length - (32*n).toNat)*1) (bc.drop ((32*n).toNat*1))=bc.drop (32*n).toNat:=by rw [Nat.mul_one,Nat.mul_one];exact List.take_of_length_le (by simp)
 rw [hr]
 cases c with
 | true=>
   rw [z68,x6 ⟨u5 _,by omega⟩,x6 (by omega),x6 (by rw [List.length_map];omega)]
   rfl
 | false=>
   rw [zdf,x6 (by omega),x6 (by rw [List.length_map];omega),x6 (by omega),x6 ⟨u5 _,by omega⟩]
   simp [mkx,List.take_take]
theorem zoi (lba0:Int) (b0:List UInt8) (c:Bool) (n:Int) (b':List UInt8) (out:List Ex) (bc:List UInt8) (lba:Int) (h1:0≤n) (h2:n≤64) (h3:32*n≤bc.length) (h4:0≤lba) (h5:lba≤64) (h6:out.length≤64):
 zdn lba0 b0 (c,n,b',out,bc,lba)=some (out++[mkx lba bc c n],bc.drop (32*n).toNat,lba+n):=zgs lba0 b0 c n b' out bc lba h1 h2 h3 h4 h5 h6
theorem zws (lba:Int) (b:List UInt8) (hb:b.length≤4294967000):zvd lba b=some (lay lba b):=by
 unfold zvd lay
 simp only [z1c,x9,y0a]
 by_cases hm:b.length % 32=0
 case neg=> rw [if_neg (fun h=> hm ((zuj _).1 h)),if_neg fun h=> hm h.1]
 rw [if_pos ((zuj _).2 hm)]
 by_cases h1:lba < 0
 case pos=> rw [if_pos h1,if_neg fun h=> by have:=h.2.1;omega]
 by_cases h2:lba > 64
 case pos=> rw [if_neg h1,if_pos h2,if_neg fun h=> by have:=h.2.2.1;omega]
 rw [if_neg h1,if_neg h2,t9 (x:=64 - lba) (by omega) (by omega),t9 (x:=(b.length:Int) / 32) (by omega) (by omega)]
 by_cases h3:(b.length:Int) / 32 > 64 - lba
 case pos=> rw [if_pos h3,if_neg fun h=> by have:=h.2.2.2;omega]
 rw [if_neg h3,if_pos ⟨hm,by omega,by omega,by omega⟩]
 rw [y08 (fun s:Bool×Int×List UInt8×List Ex×List UInt8×Int=> some (s.2.2.2.1++ly s.2.2.2.2.2 s.2.2.2.2.1 s.1 s.2.1 (z0d s.2.2.1),(0:Int)))
  (fun s=> 0≤s.2.1∧(s.2.2.2.2.1.length:Int)=32*s.2.1+s.2.2.1.length∧0≤s.2.2.2.2.2∧s.2.2.2.2.2+s.2.1+(s.2.2.1.length:Int) / 32≤64∧(s.2.2.2.1.length:Int)≤s.2.2.2.2.2) (fun s=> s.2.2.1.length)]
 · simp
 · exact ⟨by simp,by simp,by simp only;omega,by simp only;omega,by simp only [List.length_nil];omega⟩
 rintro ⟨c,n,b',out,bc,lb⟩ ⟨i1,i2,i3,i4,i5⟩
 simp only at i1 i2 i3 i4 i5⊢
 unfold z5h
 rw [zgs _ _ _ _ _ _ _ _ i1 (by omega) (by omega) i3 (by omega) (by omega),zoi _ _ _ _ _ _ _ _ i1 (by omega) (by omega) i3 (by omega) (by omega)]
 simp only [x9,zb_eq,zwk,v6]
 have hw:wr (n+1)=n+1:=t9 (by omega) (by omega)
 rw [hw]
 by_cases hl:(b'.length:Int)≥32
 · left
   have hzb:(pad 32 b'==List.replicate 32 (UInt8.ofNat 0))=zb (b'.take 32):=by
    unfold zb pad;rw [List.take_append_of_le_length (by omega)];rfl
   rw [if_pos hl]
   simp only [hzb]
   have hf:=z3r (b:=b') (by omega)
   have hdl:(b'.drop 32).length=b'.length - 32:=List.length_drop
   rw [hf]
   by_cases hz:zb (b'.take 32)=c
   · have e1:(!(zb (b'.take 32)==c))=false:=by rw [hz];simp
     rw [e1,zdf]
     refine ⟨_,rfl,⟨by simp only;omega,by simp only [hdl];omega,i3,by simp only [hdl];omega,i5⟩,by simp only [hdl];omega,?_⟩
     simp only [ly]
     rw [if_pos hz,hz]
   · have e1:(!(zb (b'.take 32)==c))=true:=by simp [hz]
     rw [e1,z68]
     by_cases hn:n > 0
     · rw [if_pos hn]
       refine ⟨_,rfl,⟨by simp,by simp only [hdl,List.length_drop];omega,by simp only;omega,by simp only [hdl];omega,by simp only [List.length_append,List.length_singleton];omega⟩,by simp only [hdl];omega,?_⟩
       simp only [ly]
       rw [if_neg hz,if_neg (show ¬n=0 by omega)]
       simp
     · rw [if_neg hn]
       have hn0:n=0:=by omega
       subst hn0
       refine ⟨_,rfl,⟨by simp,by simp only [hdl];omega,i3,by simp only [hdl];omega,i5⟩,by simp only [hdl];omega,?_⟩
       simp only [ly]
       rw [if_neg hz,if_pos trivial]
       rfl
 · right
   rw [if_neg hl,if_neg hl,z74 (b:=b') (by omega)]
   refine ⟨rfl,?_⟩
   simp only [ly]
   by_cases hn:n > 0
   · rw [if_pos hn,x6 (by first | exact ⟨rfl,u5 _⟩ | exact ⟨trivial,u5 _⟩),if_neg (show ¬n=0 by omega)]
   · rw [if_neg hn,x6 (by first | exact ⟨rfl,u5 _⟩ | exact ⟨trivial,u5 _⟩),if_pos (show n=0 by omega),List.append_nil]
end Ab
end Go.Proofs.Ytpflcogplhigcaa
namespace Go.Proofs.Ytpflcogplhigcaa
open Go Go.Proofs.Ytpflcogplhigcaa.Ab
set_option linter.unusedVariables false
set_option linter.unusedSimpArgs false
namespace Ab
theorem zgj:∀(zs:List Bool) (lba:Int) (b:List UInt8) (c:Bool) (n:Int),(ly lba b c n zs).length≤zs.length+1
 | [],lba,b,c,n=> by simp only [ly];split <;> simp
 | z::zs,lba,b,c,n=> by
   simp only [ly]
   have h1:=zgj zs lba b c (n+1)
   have h2:=zgj zs lba b z 1
   have h3:=zgj zs (lba+n) (b.drop (32*n).toNat) z 1
   split
   · simp only [List.length_cons];omega
   · split
     · simp only [List.length_cons];omega
     · simp only [List.length_cons];omega
def sg (g:Int) (x:Ex):Ex:=⟨x.lba,x.len,x.kind,g,x.d⟩
def told (x:Ex):List Ex:=if x.kind=2 then (ly x.lba x.d false 0 (z0d x.d)).map (sg x.gen) else [⟨x.lba,x.len,x.kind,x.gen,[]⟩]
theorem zul {x:Ex} (h:Ck x) (hk:x.kind=2):Lo x.lba x.d:=by
 unfold Ck at h
 have:=h.2.2.2.2.2.2.2.2.1 hk
 exact ⟨by omega,h.1,h.2.1,by omega⟩
theorem zmu {x:Ex} (h:Ck x):(told x).length≤65:=by
 unfold told
 split
 · have h1:=zgj (z0d x.d) x.lba x.d false 0
   have h2:(z0d x.d).length=x.d.length / 32:=z5p _ _
   have h3:=z43 h
   rw [List.length_map];omega
 · simp
theorem zx0 (f:Ex→Ex) (l:List Ex) (i:Nat) (hi:i < l.length):((l.take i).map f++l.drop i).set i (f (z0 l i))=(l.take (i+1)).map f++l.drop (i+1):=by
 have h1:l.drop i=z0 l i::l.drop (i+1):=by unfold z0;exact zb9 _ l i hi
 have h2:l.take (i+1)=l.take i++[z0 l i]:=by unfold z0;exact z7h _ l i hi
 have hl:((l.take i).map f).length=i:=by simp;omega
 rw [List.set_append_right _ _ (by omega),hl,Nat.sub_self,h1,h2]
 simp
theorem y0i (f:Ex→Ex) (l:List Ex) (i:Nat) (hi:i < l.length):z0 ((l.take i).map f++l.drop i) i=z0 l i:=by
 have hl:((l.take i).map f).length=i:=by simp;omega
 unfold z0
 rw [List.getD_eq_getElem?_getD,List.getElem?_append_right (by omega),hl,Nat.sub_self,zb9 ⟨0,0,0,0,[]⟩ l i hi]
 rfl
theorem zsu (x:Ex) (h:Ck x):znj x=some (told x):=by
 unfold znj told
 rw [z1c]
 by_cases hk:x.kind=2
 case neg=> rw [if_neg hk,if_neg hk]
 rw [if_pos hk,if_pos hk,zws _ _ (by have:=z43 h;omega),v6]
 have hlay:lay x.lba x.d=(ly x.lba x.d false 0 (z0d x.d),0):=if_pos (zul h hk)
 rw [hlay]
 have h1:=zgj (z0d x.d) x.lba x.d false 0
 have h2:(z0d x.d).length=x.d.length / 32:=z5p _ _
 have h3:=z43 h
 generalize ly x.lba x.d false 0 (z0d x.d)=l at h1⊢
 have hS:=fun f=> z15 (α:=List Ex) (f:=f) (step:=z2l x (l,0)) (fun i=> ((i:Int),(l.take i).map (sg x.gen)++l.drop i)) l.length (fun i hi=> ?_) ?_
 · simp only [List.take_zero,List.map_nil,List.nil_append,List.drop_zero,Int.natCast_zero] at hS
   rw [hS]
   simp only [x9]
   rw [if_neg (by omega),x6 (by first | exact ⟨rfl,by rw [u5];simp⟩ | exact ⟨trivial,by rw [u5];simp⟩)]
   simp
 · unfold z2l
   simp only [x9,Int.toNat_natCast]
   have hlen:((l.take i).map (sg x.gen)++l.drop i).length=l.length:=by simp;omega
   rw [if_pos (by omega),x6 (by omega),x6 ⟨rfl,by rw [u5,hlen];simp;omega⟩,t9 (by omega) (by omega),y0i _ _ _ hi]
   have e:=zx0 (sg x.gen) l i hi
   unfold sg at e⊢
   rw [e]
   simp
 · unfold z2l
   simp only [x9]
   rw [if_neg (by omega)]
end Ab
end Go.Proofs.Ytpflcogplhigcaa
namespace Go.Proofs.Ytpflcogplhigcaa
open Go Go.Proofs.Ytpflcogplhigcaa.Ab
set_option linter.unusedVariables false
set_option linter.unusedSimpArgs false
namespace Ab
theorem zr1 {σ α:Type} {step:σ→Option σ} {f:σ→Option α} (r1 r2:Option α) (S:Nat→σ) (n:Nat) (P:Nat→Prop) (Q:Prop) [Decidable Q] (hQ:(∀i,i < n→P i)↔Q)
 (hs:∀i:Nat,i < n→(∀j,j < i→P j)→P i→step (S i)=some (S (i+1))) (hf:∀i:Nat,i < n→(∀j,j < i→P j)→¬P i→step (S i)=none∧f (S i)=r1) (he:(∀j,j < n→P j)→step (S n)=none∧f (S n)=r2):
 th step (S 0) f=if Q then r2 else r1:=by
 by_cases h:∀i,i < n→P i
 · rw [if_pos (hQ.1 h),z15 (step:=step) (f:=f) S n (fun i hi=> hs i hi (fun j hj=> h j (by omega)) (h i hi)) (he h).1]
   exact (he h).2
 · rw [if_neg (fun g=> h (hQ.2 g))]
   have hex:∃i,i < n∧¬P i:=Classical.byContradiction fun hn=> h fun i hi=> Classical.byContradiction fun hp=> hn ⟨i,hi,hp⟩
   have key:∀k,(∃i,i < k∧i < n∧¬P i)→∃i,i < n∧¬P i∧∀j,j < i→P j:=by
    intro k
    induction k with
    | zero=> rintro ⟨i,hi,_⟩;omega
    | succ k ih=>
      rintro ⟨i,h1,h2,h3⟩
      by_cases hk:∃i,i < k∧i < n∧¬P i
      · exact ih hk
      · have hik:i=k:=by
         rcases Nat.lt_or_ge i k with g | g
         · exact absurd ⟨i,g,h2,h3⟩ hk
         · omega
        refine ⟨i,h2,h3,fun j hj=> ?_⟩
        exact Classical.byContradiction fun hp=> hk ⟨j,by omega,by omega,hp⟩
   obtain ⟨i,h1,h2⟩:=hex
   obtain ⟨k,k1,k2,k3⟩:=key (i+1) ⟨i,by omega,h1,h2⟩
   rw [z15 (step:=step) (f:=f) S k (fun i hi=> hs i (by omega) (fun j hj=> k3 j (by omega)) (k3 i hi)) (hf k k1 k3 k2).1]
   exact (hf k k1 k3 k2).2
def atp (l:List Ex) (i:Nat):Int:=if i=0 then 0 else (z0 l (i - 1)).lba+(z0 l (i - 1)).len
theorem zm7 (l:List Ex) (i:Nat):atp l (i+1)=(z0 l i).lba+(z0 l i).len:=by unfold atp;rw [if_neg (by omega)];rfl
def LP (l:List Ex) (i:Nat):Prop:=Ck (z0 l i)∧atp l i≤(z0 l i).lba
instance (l:List Ex) (i:Nat):Decidable (LP l i):=by unfold LP;infer_instance
def Ls (l:List Ex):Prop:=l.length≤64∧∀i,i < l.length→LP l i
instance (l:List Ex):Decidable (Ls l):=by unfold Ls;infer_instance
theorem zrp (l:List Ex) (out:List Ex) (i:Nat) (hi:i < l.length):(l.take (i+1)).foldl add out=add ((l.take i).foldl add out) (z0 l i):=by
 have h2:l.take (i+1)=l.take i++[z0 l i]:=by unfold z0;exact z7h _ l i hi
 rw [h2,List.foldl_append];rfl
theorem zbw (l:List Ex) (s1:List Ex×Int×Int) (s4:Bool) (s7:List Ex) (out:List Ex) (i:Nat) (hi:i < s7.length) (h7:s7.length≤4294967296) (ho:out.length+1≤4294967296):
 z17 l s1 s4 s7 ((i:Int),[],out)=some ((i:Int)+1,[],add out (z0 s7 i)):=by
 unfold z17
 simp only [x9,z1u,Int.toNat_natCast]
 rw [if_pos (by omega),x6 (by omega),t9 (x:=(i:Int)+1) (by omega) (by omega)]
 by_cases h0:out=[]
 · subst h0
   rw [if_neg (by simp),x6 ⟨by simp,by simp⟩,zqx];rfl
 · have hl:0 < out.length:=List.length_pos_iff.2 h0
   have hw:wr ((out.length:Int) - 1)=((out.length - 1:Nat):Int):=by rw [t9 (by omega) (by omega)];omega
   rw [if_pos (by omega),hw,x6 (by omega),Int.toNat_natCast,zq0 out h0 _ rfl,zks,v6]
   by_cases hj:Jn (out.getLastD ⟨0,0,0,0,[]⟩) (z0 s7 i)
   · have e:jnv (out.getLastD ⟨0,0,0,0,[]⟩) (z0 s7 i)=(jnx (out.getLastD ⟨0,0,0,0,[]⟩) (z0 s7 i),0):=if_pos hj
     rw [e,if_pos rfl,x6 ⟨rfl,by rw [u5];simp;omega⟩,zvo h0 hj,zd4 out h0 _ rfl]
   · have e:jnv (out.getLastD ⟨0,0,0,0,[]⟩) (z0 s7 i)=(⟨0,0,0,0,[]⟩,70):=if_neg hj
     rw [e,if_neg (by simp),x6 ⟨u5 _,ho⟩,zsv hj]
theorem zky {α:Type} (l:List Ex) (s1:List Ex×Int×Int) (s4:Bool) (s7:List Ex) (out:List Ex) (f:Int×List Ex×List Ex→Option α) (h7:s7.length≤1000000) (ho:out.length≤1000000):
 th (z17 l s1 s4 s7) (0,[],out) f=f ((s7.length:Int),[],s7.foldl add out):=by
 have:=z15 (f:=f) (step:=z17 l s1 s4 s7) (fun i=> ((i:Int),([]:List Ex),(s7.take i).foldl add out)) s7.length (fun i hi=> ?_) ?_
 · simpa using this
 · have hb:=zai (s7.take i) out
   rw [List.length_take] at hb
   rw [zbw _ _ _ _ _ _ hi (by omega) (by omega),zrp _ _ _ hi]
   simp
 · unfold z17
   simp only [x9]
   rw [if_neg (by omega)]
theorem zh8:∀(l:List Ex),(∀x∈l,Ck x)→(l.flatMap told).length≤65*l.length
 | [],_=> by simp
 | x::l,h=> by
   have h1:=zmu (h x (by simp))
   have h2:=zh8 l fun y hy=> h y (by simp [hy])
   rw [List.flatMap_cons,List.length_append,List.length_cons];omega
theorem lp_ck {l:List Ex} {i:Nat} (hi:i≤l.length) (h:∀j,j < i→LP l j):∀x∈l.take i,Ck x:=by
 intro x hx
 obtain ⟨j,hj,e⟩:=List.getElem_of_mem hx
 rw [List.length_take] at hj
 have:=(h j (by omega)).1
 rw [List.getElem_take] at e
 rw [←e]
 have e2:z0 l j=l[j]'(by omega):=by unfold z0;simp [show j < l.length by omega]
 rw [←e2];exact this
def pk (l:List Ex):List Ex×Int:=if Ls l then ((l.flatMap told).foldl add [],0) else ([],70)
theorem zs0 (l:List Ex) (i:Nat) (hi:i < l.length):(l.take (i+1)).flatMap told=(l.take i).flatMap told++told (z0 l i):=by
 have h2:l.take (i+1)=l.take i++[z0 l i]:=by unfold z0;exact z7h _ l i hi
 rw [h2,List.flatMap_append];simp
theorem zli (l:List Ex):zin l=some (pk l):=by
 unfold zin pk
 rw [x9]
 by_cases hl:(l.length:Int) > 64
 · rw [if_pos hl,if_neg fun h=> by have:=h.1;omega]
 rw [if_neg hl]
 have:=zr1 (α:=List Ex×Int) (step:=z1o l) (some ([],70)) (some ((l.flatMap told).foldl add [],0)) (fun i=> (((l.take i).flatMap told).foldl add [],atp l i,(i:Int))) l.length (LP l) (∀i,i < l.length→LP l i) Iff.rfl (fun i hi hpre hp=> ?_) (f:=fun s1=> tb (decide (s1.2.2 < (l.length:Int))) (tp ((0:Int)≤s1.2.2∧s1.2.2 < (l.length:Int)) (tc (z2p (z0 l s1.2.2.toNat)) fun s4=> tb (!s4) (some ([],70)) (tb (decide ((z0 l s1.2.2.toNat).lba < s1.2.1)) (some ([],70)) none))) (tp ((0:Nat)=(0:Nat)∧(List.flatMap Ex.cells s1.1).length=s1.1.length*(5:Nat)) (some (s1.1,0)))) (fun i hi hpre hp=> ?_) (fun hall=> ?_)
 · refine this.trans ?_
   by_cases h:∀i,i < l.length→LP l i
   · rw [if_pos h,if_pos ⟨by omega,h⟩]
   · rw [if_neg h,if_neg fun g=> h g.2]
 · have hc:=hp.1
   have hb:=hp.2
   have hbd:=zh8 _ (lp_ck (by omega) hpre)
   have hbd2:=zai ((l.take i).flatMap told) []
   have hbd3:=zmu hc
   rw [List.length_take] at hbd
   simp only [List.length_nil,Nat.zero_add] at hbd2
   unfold z1o
   simp only [x9,z26,z2m,v6,Int.toNat_natCast]
   unfold Ck at hc
   rw [if_pos (by omega),x6 (by omega),zce hp.1,z68,if_neg (by omega),zsu _ hp.1,v6,zky _ _ _ _ _ _ (by omega) (by omega)]
   simp only
   rw [if_neg (by omega),t9 (by omega) (by omega),t9 (by omega) (by omega),zm7,zs0 _ _ hi,List.foldl_append]
   simp
 · unfold z1o
   simp only [x9,z26,z2m,v6,Int.toNat_natCast]
   by_cases hc:Ck (z0 l i)
   case neg=> refine ⟨?_,?_⟩ <;> (rw [if_pos (by omega),x6 (by omega),zad hc];rfl)
   have hlt:(z0 l i).lba < atp l i:=by
    rcases Int.lt_or_le (z0 l i).lba (atp l i) with g | g
    · exact g
    · exact absurd ⟨hc,g⟩ hp
   refine ⟨?_,?_⟩ <;> (rw [if_pos (by omega),x6 (by omega),zce hc,z68,if_pos hlt])
 · unfold z1o
   simp only [x9]
   rw [if_neg (by omega),if_neg (by omega),List.take_length,x6 (by first | exact ⟨rfl,u5 _⟩ | exact ⟨trivial,u5 _⟩)]
   exact ⟨rfl,rfl⟩
end Ab
end Go.Proofs.Ytpflcogplhigcaa
namespace Go.Proofs.Ytpflcogplhigcaa
open Go Go.Proofs.Ytpflcogplhigcaa.Ab
set_option linter.unusedVariables false
set_option linter.unusedSimpArgs false
namespace Ab
def WL:Int→Int→List Ex→List UInt8→Prop
 | _,_,[],b=> b=[]
 | lba,k,x::l,b=> Ck x∧x.lba=lba∧x.kind≠k∧∃b',b=eb x++b'∧WL (lba+x.len) x.kind l b'
def kd (c:Bool):Int:=if c=true then 1 else 2
theorem zu2 (lba:Int) (b:List UInt8) (c:Bool) (n:Nat) (h1:0≤lba) (h2:1≤n) (h3:lba+n≤64) (hb:32*n≤b.length):Ck (mkx lba b c n):=by
 unfold mkx Ck
 cases c with
 | true=> refine ⟨h1,by simp;omega,by simp;omega,by simp;omega,by simp,by simp,by simp,by simp,by simp,by simp⟩
 | false=> refine ⟨h1,by simp;omega,by simp;omega,by simp;omega,by simp,by simp,by simp,by simp,fun _=> ?_,by simp⟩
           simp only [Bool.false_eq_true,if_false,List.length_take];omega
theorem zpq (lba:Int) (b:List UInt8) (c:Bool) (n:Int):(mkx lba b c n).lba=lba:=by unfold mkx;split <;> rfl
theorem zx3 (lba:Int) (b:List UInt8) (c:Bool) (n:Int):(mkx lba b c n).len=n:=by unfold mkx;split <;> rfl
theorem zfs (lba:Int) (b:List UInt8) (c:Bool) (n:Int):(mkx lba b c n).kind=kd c:=by unfold mkx kd;split <;> rfl
theorem zu7 (lba:Int) (b:List UInt8) (c:Bool) (n:Nat) (hz:c=true→b.take (32*n)=List.replicate (32*n) 0):eb (mkx lba b c n)=b.take (32*n):=by
 unfold eb mkx
 have e:(32*(n:Int)).toNat=32*n:=by omega
 cases c with
 | true=> simp only [if_true];rw [hz rfl];simp [e]
 | false=> simp [e]
theorem zuq:∀(zs:List Bool) (lba:Int) (b:List UInt8) (c:Bool) (m:Nat) (k:Int),0≤lba→1≤m→b.length=32*(m+zs.length)→lba+m+zs.length≤64→z0d (b.drop (32*m))=zs→(c=true→b.take (32*m)=List.replicate (32*m) 0)→kd c≠k→WL lba k (ly lba b c m zs) b
 | [],lba,b,c,m,k,h1,h2,h3,h4,h5,h6,h7=> by
   simp only [List.length_nil,Nat.add_zero] at h3 h4
   unfold ly
   rw [if_neg (by omega)]
   refine ⟨zu2 _ _ _ _ h1 h2 (by omega) (by omega),zpq _ _ _ _,by rw [zfs];exact h7,[],?_,rfl⟩
   rw [zu7 _ _ _ _ h6,List.append_nil,List.take_of_length_le (by omega)]
 | z::zs,lba,b,c,m,k,h1,h2,h3,h4,h5,h6,h7=> by
   simp only [List.length_cons] at h3 h4
   have hf:=z3r (b:=b.drop (32*m)) (by rw [List.length_drop];omega)
   rw [h5] at hf
   injection hf with hz hzs
   have hd:(b.drop (32*m)).drop 32=b.drop (32*(m+1)):=by rw [List.drop_drop];congr 1
   rw [hd] at hzs
   unfold ly
   split
   · rename_i hc
     have:=zuq zs lba b c (m+1) k h1 (by omega) (by omega) (by omega) hzs.symm (fun ht=> ?_) h7
     · rw [show ((m+1:Nat):Int)=(m:Int)+1 by omega] at this;exact this
     · have h8:(b.drop (32*m)).take 32=List.replicate 32 0:=by
        have:zb ((b.drop (32*m)).take 32)=true:=by rw [←hz,hc,ht]
        exact eq_of_beq this
       rw [show 32*(m+1)=32*m+32 by omega,List.take_add,h8,h6 ht,List.replicate_append_replicate]
   · rename_i hc
     rw [if_neg (by omega)]
     have e:(32*(m:Int)).toNat=32*m:=by omega
     refine ⟨zu2 _ _ _ _ h1 h2 (by omega) (by omega),zpq _ _ _ _,by rw [zfs];exact h7,b.drop (32*m),?_,?_⟩
     · rw [zu7 _ _ _ _ h6,List.take_append_drop]
     · rw [zx3,zfs,e]
       refine zuq zs (lba+m) (b.drop (32*m)) z 1 (kd c) (by omega) (by omega) (by rw [List.length_drop];omega) (by omega) (by rw [Nat.mul_one,hd];exact hzs.symm) (fun ht=> ?_) ?_
       · have:zb ((b.drop (32*m)).take 32)=true:=by rw [←hz,ht]
         exact eq_of_beq this
       · unfold kd;cases z <;> cases c <;> simp_all
theorem zvy {lba:Int} {b:List UInt8} (h:Lo lba b):WL lba 0 (ly lba b false 0 (z0d b)) b:=by
 unfold Lo at h
 by_cases hb:b.length < 32
 · have:b=[]:=List.eq_nil_of_length_eq_zero (by omega)
   subst this
   rw [z74 (by simp)];simp [ly,WL]
 have hf:=z3r (b:=b) (by omega)
 have hl:(z0d (b.drop 32)).length=(b.length - 32) / 32:=by rw [show (z0d (b.drop 32)).length=(b.drop 32).length / 32 from z5p _ _,List.length_drop]
 rw [hf]
 have key:ly lba b false 0 (zb (b.take 32)::z0d (b.drop 32))=ly lba b (zb (b.take 32)) ((1:Nat):Int) (z0d (b.drop 32)):=by
  conv=> lhs;unfold ly
  split
  · rename_i hz;rw [hz];rfl
  · rfl
 rw [key]
 refine zuq _ _ _ _ 1 0 h.2.1 (by omega) (by omega) (by omega) rfl (fun ht=> eq_of_beq ht) (by unfold kd;split <;> omega)
end Ab
end Go.Proofs.Ytpflcogplhigcaa
namespace Go.Proofs.Ytpflcogplhigcaa
open Go Go.Proofs.Ytpflcogplhigcaa.Ab
set_option linter.unusedVariables false
set_option linter.unusedSimpArgs false
namespace Ab
def So:Int→List Ex→Prop
 | _,[]=> True
 | s,x::l=> Ck x∧s≤x.lba∧So (x.lba+x.len) l
def en:Int→List Ex→Int
 | s,[]=> s
 | _,x::l=> en (x.lba+x.len) l
theorem zk3:∀(a b:List Ex) (s:Int),en s (a++b)=en (en s a) b
 | [],b,s=> rfl
 | x::a,b,s=> zk3 a b _
theorem zoa:∀(a b:List Ex) (s:Int),So s (a++b)↔So s a∧So (en s a) b
 | [],b,s=> by simp [So,en]
 | x::a,b,s=> by
   have ih:=zoa a b (x.lba+x.len)
   simp only [List.cons_append,So,en,ih]
   exact ⟨fun ⟨h1,h2,h3,h4⟩=> ⟨⟨h1,h2,h3⟩,h4⟩,fun ⟨⟨h1,h2,h3⟩,h4⟩=> ⟨h1,h2,h3,h4⟩⟩
theorem zi9:∀{l:List Ex} {s:Int},So s l→∀x∈l,Ck x∧s≤x.lba
 | [],_,_,x,hx=> by cases hx
 | y::l,s,h,x,hx=> by
   have p:=z08 h.1
   rcases List.mem_cons.1 hx with e | e
   · subst e;exact ⟨h.1,h.2.1⟩
   · have:=zi9 h.2.2 x e
     have:=h.2.1
     exact ⟨(zi9 h.2.2 x e).1,by omega⟩
theorem zxz:∀{l:List Ex} {s:Int},So s l→s≤en s l
 | [],_,_=> Int.le_refl _
 | x::l,s,h=> by
   have p:=z08 h.1
   have:=zxz h.2.2
   have:=h.2.1
   simp only [en];omega
theorem zyd:∀{l:List Ex} {s:Int},So s l→∀x∈l,x.lba+x.len≤en s l
 | [],_,_,x,hx=> by cases hx
 | y::l,s,h,x,hx=> by
   simp only [en]
   rcases List.mem_cons.1 hx with e | e
   · subst e;exact zxz h.2.2
   · exact zyd h.2.2 x e
theorem zqw {l:List Ex} {s t:Int} (h:So s l) (ht:t≤s):So t l:=by
 cases l with
 | nil=> trivial
 | cons x l=> exact ⟨h.1,by have:=h.2.1;omega,h.2.2⟩
theorem ls_so {l:List Ex} (h:Ls l):So 0 l:=by
 have key:∀j,j≤l.length→So (atp l (l.length - j)) (l.drop (l.length - j)):=by
  intro j
  induction j with
  | zero=> intro _;rw [Nat.sub_zero,List.drop_length];trivial
  | succ j ih=>
    intro hj
    have hi:l.length - (j+1) < l.length:=by omega
    have hp:=h.2 _ hi
    have e:l.drop (l.length - (j+1))=z0 l (l.length - (j+1))::l.drop (l.length - (j+1)+1):=by unfold z0;exact zb9 _ l _ hi
    rw [e]
    refine ⟨hp.1,hp.2,?_⟩
    rw [←zm7,show l.length - (j+1)+1=l.length - j by omega]
    exact ih (by omega)
 have:=key l.length (Nat.le_refl _)
 simpa [atp] using this
theorem ztw:∀(l:List Ex) (s:Int),So s l→∀i,i < l.length→Ck (z0 l i)∧(if i=0 then s else (z0 l (i - 1)).lba+(z0 l (i - 1)).len)≤(z0 l i).lba
 | [],_,_,i,hi=> by simp at hi
 | x::l,s,h,0,hi=> ⟨h.1,h.2.1⟩
 | x::l,s,h,i+1,hi=> by
   have ih:=ztw l _ h.2.2 i (by simpa using hi)
   refine ⟨ih.1,?_⟩
   rw [if_neg (by omega),Nat.add_sub_cancel]
   have e:z0 (x::l) (i+1)=z0 l i:=rfl
   rw [e]
   cases i with
   | zero=> exact ih.2
   | succ i=> have:=ih.2;rw [if_neg (by omega),Nat.add_sub_cancel] at this;exact this
theorem so_lp {l:List Ex} (h:So 0 l):∀i,i < l.length→LP l i:=fun i hi=> by
 have:=ztw l 0 h i hi
 unfold LP atp;exact this
def NJ:List Ex→Prop
 | []=> True
 | [_]=> True
 | x::y::l=> ¬Jn x y∧NJ (y::l)
theorem zdw:∀(o:List Ex) (y:Ex),NJ (o++[y])↔NJ o∧∀a,o.getLast? =some a→¬Jn a y
 | [],y=> by simp [NJ]
 | [x],y=> by simp [NJ]
 | x::z::o,y=> by
   have ih:=zdw (z::o) y
   simp only [List.cons_append,NJ] at ih⊢
   rw [ih,List.getLast?_cons_cons,and_assoc]
theorem zj8 (o:List Ex) (y:Ex) (s:Int):So s (o++[y])↔So s o∧Ck y∧en s o≤y.lba:=by
 rw [zoa];simp [So]
def Gd (x:Ex):Prop:=x.kind=2→∀z∈z0d x.d,z=false
theorem y0z {a b:Ex} (h:Jn a b) (ha:Gd a) (hb:Gd b):Gd (jnx a b):=by
 intro hk z hz
 have hk:a.kind=2:=hk
 have hl:=z9m h.1 hk
 have e:z0d (jnx a b).d=z0d a.d++z0d b.d:=z5i _ (by omega)
 rw [e] at hz
 rcases List.mem_append.1 hz with g | g
 · exact ha hk z g
 · exact hb (h.2.2.2.1▸hk) z g
theorem zux {out:List Ex} {y:Ex} (h1:So 0 out) (h2:NJ out) (h3:∀x∈out,Gd x) (hy:Ck y) (hg:Gd y) (hl:en 0 out≤y.lba):So 0 (add out y)∧NJ (add out y)∧(∀x∈add out y,Gd x)∧en 0 (add out y)=y.lba+y.len:=by
 unfold add
 by_cases g:out≠[]∧Jn (out.getLastD ⟨0,0,0,0,[]⟩) y
 · rw [if_pos g]
   have e:=zdr g.1
   generalize out.getLastD ⟨0,0,0,0,[]⟩=a at g e⊢
   generalize out.dropLast=o at e⊢
   rw [e] at h1 h2 h3
   obtain ⟨a1,a2,a3⟩:=(zj8 o a 0).1 h1
   obtain ⟨b1,b2⟩:=(zdw o a).1 h2
   have hj:=g.2
   refine ⟨(zj8 o _ 0).2 ⟨a1,zue hj,a3⟩,(zdw o _).2 ⟨b1,fun b hb q=> b2 b hb ⟨q.1,a2,q.2.2.1,q.2.2.2.1,q.2.2.2.2⟩⟩,fun x hx=> ?_,?_⟩
   · rcases List.mem_append.1 hx with q | q
     · exact h3 x (List.mem_append_left _ q)
     · rw [List.mem_singleton] at q;subst q
       exact y0z hj (h3 a (by simp)) hg
   · rw [zk3]
     simp only [en,jnx]
     have:=hj.2.2.1
     omega
 · rw [if_neg g]
   refine ⟨(zj8 out y 0).2 ⟨h1,hy,hl⟩,(zdw out y).2 ⟨h2,fun a ha q=> g ⟨?_,?_⟩⟩,fun x hx=> ?_,?_⟩
   · intro e0;rw [e0] at ha;cases ha
   · rw [List.getLastD_eq_getLast?,ha];exact q
   · rcases List.mem_append.1 hx with q | q
     · exact h3 x q
     · rw [List.mem_singleton] at q;subst q;exact hg
   · rw [zk3];rfl
theorem zpt:∀(ys out:List Ex),So 0 out→NJ out→(∀x∈out,Gd x)→So (en 0 out) ys→(∀x∈ys,Gd x)→So 0 (ys.foldl add out)∧NJ (ys.foldl add out)∧(∀x∈ys.foldl add out,Gd x)
 | [],out,h1,h2,h3,_,_=> ⟨h1,h2,h3⟩
 | y::ys,out,h1,h2,h3,h4,h5=> by
   obtain ⟨a,b,c,d⟩:=zux h1 h2 h3 h4.1 (h5 y (by simp)) h4.2.1
   rw [List.foldl_cons]
   exact zpt ys _ a b c (by rw [d];exact h4.2.2) fun x hx=> h5 x (by simp [hx])
/-! What is told apart. -/
theorem zxy:∀(zs:List Bool) (lba:Int) (b:List UInt8) (n:Int),(∀z∈zs,z=false)→0≤n→ly lba b false n zs=if n+zs.length=0 then [] else [mkx lba b false (n+zs.length)]
 | [],lba,b,n,_,hn=> by simp [ly]
 | z::zs,lba,b,n,h,hn=> by
   have hz:=h z (by simp)
   subst hz
   unfold ly
   rw [if_pos rfl,zxy zs lba b (n+1) (fun y hy=> h y (by simp [hy])) (by omega)]
   simp only [List.length_cons]
   rw [if_neg (by omega),if_neg (by omega),show n+1+(zs.length:Int)=n+((zs.length+1:Nat):Int) by omega]
theorem zqu {x:Ex} (h:Ck x) (hg:Gd x):told x=[x]:=by
 unfold told
 by_cases hk:x.kind=2
 · rw [if_pos hk]
   have hl:=z9m h hk
   have p:=z08 h
   have hf:(z0d x.d).length=x.d.length / 32:=z5p _ _
   rw [zxy _ _ _ _ (hg hk) (Int.le_refl _),if_neg (by omega)]
   have e:(0:Int)+((z0d x.d).length:Int)=x.len:=by omega
   rw [e]
   simp only [List.map_cons,List.map_nil,mkx,sg,Bool.false_eq_true,if_false]
   rw [List.take_of_length_le (by omega),←hk]
 · rw [if_neg hk]
   have:=z82 h hk
   cases x with
   | mk a b c e d=> simp only at this;subst this;rfl
theorem zbb {b:List UInt8} (h:b.length=32):z0d b=[zb b]:=by
 rw [z3r (b:=b) (by omega),z74 (by rw [List.length_drop];omega),List.take_of_length_le (by omega)]
theorem zq3:∀(zs:List Bool) (lba:Int) (b:List UInt8) (c:Bool) (m:Nat),b.length=32*(m+zs.length)→z0d (b.drop (32*m))=zs→(c=false→∀z∈z0d (b.take (32*m)),z=false)→∀x∈ly lba b c m zs,Gd x
 | [],lba,b,c,m,h3,h5,h6,x,hx=> by
   unfold ly at hx
   split at hx
   · cases hx
   · rw [List.mem_singleton] at hx
     subst hx
     intro hk
     unfold mkx at hk⊢
     cases c with
     | true=> simp at hk
     | false=>
       simp only [Bool.false_eq_true,if_false]
       rw [show (32*(m:Int)).toNat=32*m by omega]
       exact h6 rfl
 | z::zs,lba,b,c,m,h3,h5,h6,x,hx=> by
   simp only [List.length_cons] at h3
   have hf:=z3r (b:=b.drop (32*m)) (by rw [List.length_drop];omega)
   rw [h5] at hf
   injection hf with hz hzs
   have hd:(b.drop (32*m)).drop 32=b.drop (32*(m+1)):=by rw [List.drop_drop];congr 1
   rw [hd] at hzs
   have h32:((b.drop (32*m)).take 32).length=32:=by rw [List.length_take,List.length_drop];omega
   unfold ly at hx
   split at hx
   · rename_i hc
     refine zq3 zs lba b c (m+1) (by omega) hzs.symm (fun hcf=> ?_) x (by rw [show ((m+1:Nat):Int)=(m:Int)+1 by omega];exact hx)
     have e:b.take (32*(m+1))=b.take (32*m)++(b.drop (32*m)).take 32:=by rw [show 32*(m+1)=32*m+32 by omega,List.take_add]
     rw [e,z5i _ (by rw [List.length_take];omega),zbb h32]
     intro y hy
     rcases List.mem_append.1 hy with g | g
     · exact h6 hcf y g
     · rw [List.mem_singleton] at g
       rw [g,←hz,hc,hcf]
   · rename_i hc
     split at hx
     · rename_i hm
       have hm0:m=0:=by omega
       subst hm0
       refine zq3 zs lba b z 1 (by omega) hzs.symm (fun hcf=> ?_) x (by simpa using hx)
       rw [Nat.mul_zero,List.drop_zero] at hz h32
       rw [Nat.mul_one,zbb h32]
       intro y hy
       rw [List.mem_singleton] at hy
       rw [hy,←hz,hcf]
     · rcases List.mem_cons.1 hx with g | g
       · subst g
         intro hk
         unfold mkx at hk⊢
         cases c with
         | true=> simp at hk
         | false=>
           simp only [Bool.false_eq_true,if_false]
           rw [show (32*(m:Int)).toNat=32*m by omega]
           exact h6 rfl
       · have e:(32*(m:Int)).toNat=32*m:=by omega
         rw [e] at g
         refine zq3 zs (lba+m) (b.drop (32*m)) z 1 (by rw [List.length_drop];omega) (by rw [Nat.mul_one,hd];exact hzs.symm) (fun hcf=> ?_) x (by simpa using g)
         rw [Nat.mul_one,zbb h32]
         intro y hy
         rw [List.mem_singleton] at hy
         rw [hy,←hz,hcf]
theorem zyl:∀(l:List Ex) (lba k:Int) (b:List UInt8) (g:Int),0≤g∧g≤2147483647→WL lba k l b→So lba (l.map (sg g))∧(en lba (l.map (sg g)):Int)*32=lba*32+b.length
 | [],lba,k,b,g,_,h=> by
   have h:b=[]:=h
   subst h;simp [So,en]
 | x::l,lba,k,b,g,hg,h=> by
   obtain ⟨h1,h2,h3,b',h4,h5⟩:=h
   obtain ⟨i1,i2⟩:=zyl l _ _ _ g hg h5
   have hl:=zvr h1
   have hc:=h1
   unfold Ck at hc
   refine ⟨⟨?_,by show lba≤x.lba;omega,by show So (x.lba+x.len) _;rw [h2];exact i1⟩,?_⟩
   · exact ⟨hc.1,hc.2.1,hc.2.2.1,hc.2.2.2.1,hc.2.2.2.2.1,hc.2.2.2.2.2.1,hg.1,hg.2,hc.2.2.2.2.2.2.2.2.1,hc.2.2.2.2.2.2.2.2.2⟩
   · have hlen:b.length=(eb x).length+b'.length:=by rw [h4,List.length_append]
     show en (x.lba+x.len) _*32=_
     rw [h2,i2];omega
theorem zqq {x:Ex} (h:Ck x):So x.lba (told x)∧en x.lba (told x)=x.lba+x.len∧∀y∈told x,Gd y:=by
 by_cases hk:x.kind=2
 · have hw:=zvy (zul h hk)
   have hc:=h
   unfold Ck at hc
   have hl:=z9m h hk
   obtain ⟨i1,i2⟩:=zyl _ _ _ _ x.gen ⟨hc.2.2.2.2.2.2.1,hc.2.2.2.2.2.2.2.1⟩ hw
   unfold told
   rw [if_pos hk]
   refine ⟨i1,by omega,fun y hy=> ?_⟩
   obtain ⟨z,hz,rfl⟩:=List.mem_map.1 hy
   have hf:(z0d x.d).length=x.d.length / 32:=z5p _ _
   have:=zq3 (z0d x.d) x.lba x.d false 0 (by omega) (by simp) (fun _ y hy=> by simp [z74] at hy) z hz
   exact this
 · have e:=zqu h fun q=> absurd q hk
   rw [e]
   exact ⟨⟨h,Int.le_refl _,trivial⟩,rfl,fun y hy=> by rw [List.mem_singleton] at hy;subst hy;exact fun q=> absurd q hk⟩
theorem zgg:∀(l:List Ex) (s:Int),So s l→So s (l.flatMap told)∧en s (l.flatMap told)=en s l∧∀y∈l.flatMap told,Gd y
 | [],s,_=> ⟨trivial,rfl,fun y hy=> by simp at hy⟩
 | x::l,s,h=> by
   obtain ⟨a,b,c⟩:=zqq h.1
   obtain ⟨i1,i2,i3⟩:=zgg l _ h.2.2
   have p:=z08 h.1
   have he:en s (told x)=x.lba+x.len:=by
    cases hq:told x with
    | nil=> rw [hq] at b;simp only [en] at b;omega
    | cons y q=> rw [hq] at b;exact b
   rw [List.flatMap_cons]
   refine ⟨(zoa _ _ _).2 ⟨zqw a h.2.1,by rw [he];exact i1⟩,by rw [zk3,he,i2];rfl,fun y hy=> ?_⟩
   rcases List.mem_append.1 hy with g | g
   · exact c y g
   · exact i3 y g
theorem zjl {l:List Ex} (h:Ls l):So 0 (pk l).1∧NJ (pk l).1∧(∀x∈(pk l).1,Gd x)∧(pk l).2=0∧(pk l).1=(l.flatMap told).foldl add []:=by
 obtain ⟨a,b,c⟩:=zgg l 0 (ls_so h)
 have:=zpt (l.flatMap told) [] trivial trivial (fun x hx=> by cases hx) a c
 have e:pk l=((l.flatMap told).foldl add [],0):=by unfold pk;rw [if_pos h]
 rw [e]
 exact ⟨this.1,this.2.1,this.2.2,rfl,rfl⟩
end Ab
end Go.Proofs.Ytpflcogplhigcaa
namespace Go.Proofs.Ytpflcogplhigcaa
open Go Go.Proofs.Ytpflcogplhigcaa.Ab
set_option linter.unusedVariables false
set_option linter.unusedSimpArgs false
namespace Ab
theorem zuy:∀(l:List Ex) (lba k:Int) (b:List UInt8),WL lba k l b→∀j:Nat,32*j+32≤b.length→∃c,Den l (lba+j) c∧pad 32 c.2.2=pad 32 (b.drop (32*j))
 | [],lba,k,b,h,j,hj=> by
   have h:b=[]:=h
   subst h;simp at hj
 | x::l,lba,k,b,h,j,hj=> by
   obtain ⟨h1,h2,h3,b',h4,h5⟩:=h
   have hl:=zvr h1
   have p:=z08 h1
   have hlen:b.length=(eb x).length+b'.length:=by rw [h4,List.length_append]
   by_cases g:(j:Int) < x.len
   · refine ⟨bAt x (lba+j),z51.2 (.inl ⟨by omega,by omega,rfl⟩),?_⟩
     have e:(32*(lba+(j:Int) - x.lba)).toNat=32*j:=by omega
     simp only [bAt,e]
     rw [zal,h4]
     have hd:(eb x++b').drop (32*j)=(eb x).drop (32*j)++b':=List.drop_append_of_le_length (by omega)
     rw [hd,←zal ((eb x).drop (32*j)++b'),List.take_append_of_le_length (by rw [List.length_drop];omega),zal]
     unfold eb
     by_cases hk:x.kind=2
     · rw [if_pos hk]
     · rw [if_neg hk,z82 h1 hk,List.drop_replicate,List.drop_nil,zqj,zwf]
   · obtain ⟨c,c1,c2⟩:=zuy l _ _ _ h5 (j - x.len.toNat) (by omega)
     refine ⟨c,z51.2 (.inr ?_),?_⟩
     · rw [show lba+(j:Int)=lba+x.len+((j - x.len.toNat:Nat):Int) by omega];exact c1
     · rw [c2,h4,show 32*j=(eb x).length+32*(j - x.len.toNat) by omega,←List.drop_drop,List.drop_left]
theorem zvg {x:Ex} (h:Ck x) {k:Int} (h1:x.lba≤k) (h2:k < x.lba+x.len):∃c,Den (told x) k c∧pad 32 c.2.2=pad 32 (bAt x k).2.2:=by
 by_cases hk:x.kind=2
 · have hw:=zvy (zul h hk)
   have hl:=z9m h hk
   obtain ⟨c,⟨y,hy,q1,q2,q3⟩,c2⟩:=zuy _ _ _ _ hw (k - x.lba).toNat (by omega)
   rw [show x.lba+(((k - x.lba).toNat:Nat):Int)=k by omega] at q1 q2 q3
   refine ⟨bAt (sg x.gen y) k,?_,?_⟩
   · unfold told
     rw [if_pos hk]
     exact ⟨sg x.gen y,List.mem_map.2 ⟨y,hy,rfl⟩,q1,q2,rfl⟩
   · have e1:(bAt (sg x.gen y) k).2.2=c.2.2:=by rw [q3];rfl
     rw [e1,c2]
     simp only [bAt]
     rw [zal,show 32*(k - x.lba).toNat=(32*(k - x.lba)).toNat by omega]
 · rw [zqu h fun q=> absurd q hk]
   exact ⟨bAt x k,z95.2 ⟨h1,h2,rfl⟩,rfl⟩
theorem zwu {x:Ex} (h:Ck x) {k:Int} {c:Int×Int×List UInt8} (hd:Den (told x) k c):x.lba≤k∧k < x.lba+x.len:=by
 obtain ⟨a,b,_⟩:=zqq h
 obtain ⟨y,hy,q1,q2,_⟩:=hd
 have h1:=(zi9 a y hy).2
 have h2:=zyd a y hy
 rw [b] at h2
 omega
theorem zn8 {l:List Ex} {k:Int} {c:Int×Int×List UInt8}:Den (l.flatMap told) k c↔∃x∈l,Den (told x) k c:=by
 unfold Den
 constructor
 · rintro ⟨y,hy,q⟩
   obtain ⟨x,hx,hy⟩:=List.mem_flatMap.1 hy
   exact ⟨x,hx,y,hy,q⟩
 · rintro ⟨x,hx,y,hy,q⟩
   exact ⟨y,List.mem_flatMap.2 ⟨x,hx,hy⟩,q⟩
theorem gd_is {x:Ex} (h:Ck x) (hg:Gd x) {j:Nat} (hj:32*j+32≤x.d.length):isz ((x.d.drop (32*j)).take 32)=false:=by
 have hk:x.kind=2:=by
  rcases Decidable.em (x.kind=2) with q | q
  · exact q
  · rw [z82 h q] at hj;simp at hj
 have hm:x.d=x.d.take (32*j)++((x.d.drop (32*j)).take 32++x.d.drop (32*j+32)):=by
  rw [←List.drop_drop,List.take_append_drop,List.take_append_drop]
 have hl:((x.d.drop (32*j)).take 32).length=32:=by rw [List.length_take,List.length_drop];omega
 have hf:zb ((x.d.drop (32*j)).take 32)∈z0d x.d:=by
  have e:z0d x.d=z0d (x.d.take (32*j))++(z0d ((x.d.drop (32*j)).take 32)++z0d (x.d.drop (32*j+32))):=by
   conv=> lhs;rw [hm]
   rw [z5i _ (by rw [List.length_take];omega),z5i _ (by rw [hl])]
  rw [e,zbb hl]
  exact List.mem_append_right _ (List.mem_append_left _ (by simp))
 have:=hg hk _ hf
 rw [zyu hl];exact this
theorem zyc:∀(l:List Ex),NJ l→∀i,i+1 < l.length→¬Jn (z0 l i) (z0 l (i+1))
 | [],_,i,hi=> by simp at hi
 | [_],_,i,hi=> by simp at hi
 | x::y::l,h,0,_=> h.1
 | x::y::l,h,i+1,hi=> zyc (y::l) h.2 i (by simpa using hi)
end Ab
end Go.Proofs.Ytpflcogplhigcaa
namespace Go.Proofs.Ytpflcogplhigcaa
open Go Go.Proofs.Ytpflcogplhigcaa.Ab
set_option linter.unusedVariables false
set_option linter.unusedSimpArgs false
set_option maxRecDepth 1000000
set_option maxHeartbeats 0
namespace Ab
noncomputable def z8n (s:Sm) (s7:Int×Int) (s10:Bool) (s16:Bool) (s18:List UInt8):Option (List UInt8):=
 (tb ((decide ((s18.length:Int)≥(32:Int)))) (tc (pIs ((List.take 32 s18))) fun s20=> (tb (s20) none (some ((List.take ((s18.length - (32:Nat))*1) (List.drop 32 s18)))))) none)
noncomputable def z90 (s:Sm) (s7:Int×Int) (s10:Bool) (s15:List UInt8):Option (List UInt8):=
 (tb ((decide ((s15.length:Int)≥(32:Int)))) (tc (pIs ((List.take 32 s15))) fun s17=> (tb (s17) none (some ((List.take ((s15.length - (32:Nat))*1) (List.drop 32 s15)))))) none)
noncomputable def z40 (s:Sm) (s7:Int×Int):Option (Int×Int):=
 (tb ((decide (s7.2 < (s.list.length:Int)))) (tp ((((0:Int)≤s7.2)∧(s7.2 < (s.list.length:Int)))) (tc (z2p ((z0 s.list s7.2.toNat))) fun s10=> (tb ((!s10)) none (tb (((z0 s.list s7.2.toNat).gen !=(0:Int))) none (tb ((decide ((z0 s.list s7.2.toNat).lba < s7.1))) none (tb ((decide (s7.2 > (0:Int)))) (tp ((((0:Int)≤(wr (s7.2 - (1:Int))))∧((wr (s7.2 - (1:Int))) < (s.list.length:Int)))) (tc (z6u ((z0 s.list (Int.toNat (wr (s7.2 - (1:Int)))))) ((z0 s.list s7.2.toNat))) fun s16=> (tb (s16) none (th (z8n s s7 s10 s16) ((z0 s.list s7.2.toNat).d) fun s18=> (tb ((decide ((s18.length:Int)≥(32:Int)))) none (some (((wr ((z0 s.list s7.2.toNat).lba+(z0 s.list s7.2.toNat).len)),(wr (s7.2+(1:Int))))))))))) (th (z90 s s7 s10) ((z0 s.list s7.2.toNat).d) fun s15=> (tb ((decide ((s15.length:Int)≥(32:Int)))) none (some (((wr ((z0 s.list s7.2.toNat).lba+(z0 s.list s7.2.toNat).len)),(wr (s7.2+(1:Int)))))))))))))) none)
noncomputable def zg4 (s:Sm) (s7:Int×Int) (s10:Bool) (s16:Bool) (s18:List UInt8):Option (List UInt8):=
 (tb ((decide ((s18.length:Int)≥(32:Int)))) (tc (pIs ((List.take 32 s18))) fun s20=> (tb (s20) none (some ((List.take ((s18.length - (32:Nat))*1) (List.drop 32 s18)))))) none)
noncomputable def zg8 (s:Sm) (s7:Int×Int) (s10:Bool) (s15:List UInt8):Option (List UInt8):=
 (tb ((decide ((s15.length:Int)≥(32:Int)))) (tc (pIs ((List.take 32 s15))) fun s17=> (tb (s17) none (some ((List.take ((s15.length - (32:Nat))*1) (List.drop 32 s15)))))) none)
noncomputable def zpi (s:Sm):Option (Bool):=
 (tb ((decide (s.blocks < (1:Int)))) (some (false)) (tb ((decide (s.blocks > (64:Int)))) (some (false)) (tb ((decide (s.target < (1:Int)))) (some (false)) (tb ((decide (s.target > (2147483647:Int)))) (some (false)) (tb ((decide (s.parent < (0:Int)))) (some (false)) (tb ((decide (s.parent≥s.target))) (some (false)) (tb ((decide ((s.list.length:Int) > (64:Int)))) (some (false)) (th (z40 s) (((0:Int),(0:Int))) fun s7=> (tb ((decide (s7.2 < (s.list.length:Int)))) (tp ((((0:Int)≤s7.2)∧(s7.2 < (s.list.length:Int)))) (tc (z2p ((z0 s.list s7.2.toNat))) fun s10=> (tb ((!s10)) (some (false)) (tb (((z0 s.list s7.2.toNat).gen !=(0:Int))) (some (false)) (tb ((decide ((z0 s.list s7.2.toNat).lba < s7.1))) (some (false)) (tb ((decide (s7.2 > (0:Int)))) (tp ((((0:Int)≤(wr (s7.2 - (1:Int))))∧((wr (s7.2 - (1:Int))) < (s.list.length:Int)))) (tc (z6u ((z0 s.list (Int.toNat (wr (s7.2 - (1:Int)))))) ((z0 s.list s7.2.toNat))) fun s16=> (tb (s16) (some (false)) (th (zg4 s s7 s10 s16) ((z0 s.list s7.2.toNat).d) fun s18=> (tb ((decide ((s18.length:Int)≥(32:Int)))) (tc (pIs ((List.take 32 s18))) fun s20=> (tb (s20) (some (false)) none)) none))))) (th (zg8 s s7 s10) ((z0 s.list s7.2.toNat).d) fun s15=> (tb ((decide ((s15.length:Int)≥(32:Int)))) (tc (pIs ((List.take 32 s15))) fun s17=> (tb (s17) (some (false)) none)) none)))))))) (some ((decide (s7.1≤s.blocks)))))))))))))
end Ab
end Go.Proofs.Ytpflcogplhigcaa
namespace Go.Proofs.Ytpflcogplhigcaa
open Go Go.Proofs.Ytpflcogplhigcaa.Ab
set_option linter.unusedVariables false
set_option linter.unusedSimpArgs false
namespace Ab
def eAt (l:List Ex) (i:Nat):Int:=if i=0 then 0 else (z0 l (i - 1)).lba+(z0 l (i - 1)).len
theorem ztf (l:List Ex) (i:Nat):eAt l (i+1)=(z0 l i).lba+(z0 l i).len:=by simp [eAt]
theorem zsp:∀(l:List Ex) (s:Int),(if l.length=0 then s else (z0 l (l.length - 1)).lba+(z0 l (l.length - 1)).len)=en s l
 | [],s=> rfl
 | [x],s=> rfl
 | x::y::l,s=> by
   have:=zsp (y::l) (x.lba+x.len)
   rw [if_neg (by simp)] at this⊢
   show _=en (x.lba+x.len) (y::l)
   rw [←this]
   rfl
theorem zq6 {α:Type} {x:Ex} (h:Ck x) (hg:Gd x) (step:List UInt8→Option (List UInt8)) (f:List UInt8→Option α)
 (hs:∀d:List UInt8,d.length≤100000→step d=if 32≤d.length then (if isz (d.take 32)=true then none else some (d.drop 32)) else none):
 th step x.d f=f (x.d.drop (32*(x.d.length / 32))):=by
 have hl:=z43 h
 have:=z15 (step:=step) (f:=f) (fun i=> x.d.drop (32*i)) (x.d.length / 32) (fun i hi=> by
  rw [hs _ (by rw [List.length_drop];omega),if_pos (by rw [List.length_drop];omega),gd_is h hg (by omega),if_neg (by simp),List.drop_drop]
  congr 2) (by
  rw [hs _ (by rw [List.length_drop];omega),if_neg (by rw [List.length_drop];omega)])
 simpa using this
theorem zvu (d:List UInt8) (h:32≤d.length):List.take ((d.length - 32)*1) (List.drop 32 d)=d.drop 32:=List.take_of_length_le (by rw [List.length_drop];omega)
theorem zp5 {s:Sm} (h1:1≤s.blocks∧s.blocks≤64) (h2:1≤s.target∧s.target≤2147483647) (h3:0≤s.parent∧s.parent < s.target) (h4:s.list.length≤64) (h5:So 0 s.list) (h6:NJ s.list) (h7:∀x∈s.list,Gd x∧x.gen=0) (h8:en 0 s.list≤s.blocks):zpi s=some true:=by
 unfold zpi
 simp only [x9]
 rw [if_neg (by omega),if_neg (by omega),if_neg (by omega),if_neg (by omega),if_neg (by omega),if_neg (by omega),if_neg (by omega)]
 have hls:=ztw s.list 0 h5
 have hgd:=(z1m s.list (fun x=> Gd x∧x.gen=0)).2 h7
 have h0:((0:Int),(0:Int))=(eAt s.list 0,((0:Nat):Int)):=by simp [eAt]
 rw [h0,z15 (step:=z40 s) (fun i=> (eAt s.list i,(i:Int))) s.list.length]
 · rw [if_neg (by omega)]
   have:=zsp s.list 0
   unfold eAt
   rw [this,decide_eq_true h8]
 · intro i hi
   obtain ⟨hck,hle⟩:=hls i hi
   have px:=z08 hck
   have hl:=z43 hck
   obtain ⟨g1,g2⟩:=hgd i hi
   have hle':eAt s.list i≤(z0 s.list i).lba:=hle
   unfold z40
   simp only [x9,z26,z1c,Int.toNat_natCast,z2m,v6]
   rw [if_pos (by omega),x6 (by omega),zce hck,z68,if_pos g2,if_neg (by omega),ztf,t9 (x:=(z0 s.list i).lba+(z0 s.list i).len) (by omega) (by omega),t9 (x:=(i:Int)+1) (by omega) (by omega)]
   have e1:((i+1:Nat):Int)=(i:Int)+1:=by omega
   rw [e1]
   have hlen:(x:List UInt8)→x=(z0 s.list i).d.drop (32*((z0 s.list i).d.length / 32))→¬((x.length:Int)≥32):=by
    rintro x rfl
    rw [List.length_drop];omega
   by_cases hp:(i:Int) > 0
   · rw [if_pos hp,t9 (x:=(i:Int) - 1) (by omega) (by omega),x6 (by omega),show ((i:Int) - 1).toNat=i - 1 by omega,z93,v6]
     have hnj:=zyc s.list h6 (i - 1) (by omega)
     rw [show i - 1+1=i by omega] at hnj
     rw [zp8 hnj,zdf]
     refine (zq6 hck g1 _ _ fun d hd=> ?_).trans ?_
     · unfold z8n
       simp only [x9]
       by_cases g:32≤d.length
       · rw [if_pos (by omega),if_pos g,zv4 _ (by rw [List.length_take];omega),v6,zsh,zvu d g]
       · rw [if_neg (by omega),if_neg g]
     · rw [if_neg (hlen _ rfl)]
   · rw [if_neg hp]
     refine (zq6 hck g1 _ _ fun d hd=> ?_).trans ?_
     · unfold z90
       simp only [x9]
       by_cases g:32≤d.length
       · rw [if_pos (by omega),if_pos g,zv4 _ (by rw [List.length_take];omega),v6,zsh,zvu d g]
       · rw [if_neg (by omega),if_neg g]
     · rw [if_neg (hlen _ rfl)]
 · unfold z40
   simp only [x9]
   rw [if_neg (by omega)]
end Ab
end Go.Proofs.Ytpflcogplhigcaa
namespace Go.Proofs.Ytpflcogplhigcaa
open Go Go.Proofs.Ytpflcogplhigcaa.Ab
set_option linter.unusedVariables false
set_option linter.unusedSimpArgs false
set_option maxRecDepth 1000000
set_option maxHeartbeats 0
namespace Ab
noncomputable abbrev zes (s:Sa) (from_:Int) (to_:Int) (s0:Po×Int) (s3:Po×Int):St:=(St.mk [(0,(exs s0.1.map)),(1,(AV.i 0)),(2,(AV.fn (25:Nat) [(AV.pt 3 0)])),(6,AV.nl),(10,(exs s0.1.map)),(11,(AV.i (s0.1.map.length:Int))),(12,(AV.i 0))] 41 (AH.mk 4 [(3,(AObj.cells [(AV.i s3.1.id),(AV.i s3.1.gen),(exs s3.1.map)])),(2,(AObj.cells [(AV.i s0.1.id),(AV.i s0.1.gen),(exs s0.1.map)])),(1,(AObj.cells [(AV.i 0),(AV.i 0),(AV.i 0),AV.nl])),(0,(AObj.cells [(AV.i s.blocks),(AV.i s.gen),(exs s.map),(AV.sl s.points.length (s.points.flatMap Po.cells)),(AV.i s.last),(bys s.staged)]))]) false)
noncomputable abbrev z4k (s:Sa) (from_:Int) (to_:Int) (s0:Po×Int) (s3:Po×Int) (s6:List Ex×Int):St:=(St.mk [(0,(exs s0.1.map)),(1,(AV.i 0)),(2,(AV.fn (25:Nat) [(AV.pt 3 0)])),(6,(AV.rf 4 5 0 s6.1.length)),(10,(exs s0.1.map)),(11,(AV.i (s0.1.map.length:Int))),(12,(AV.i s6.2))] 41 (AH.mk 5 [(3,(AObj.cells [(AV.i s3.1.id),(AV.i s3.1.gen),(exs s3.1.map)])),(2,(AObj.cells [(AV.i s0.1.id),(AV.i s0.1.gen),(exs s0.1.map)])),(1,(AObj.cells [(AV.i 0),(AV.i 0),(AV.i 0),AV.nl])),(0,(AObj.cells [(AV.i s.blocks),(AV.i s.gen),(exs s.map),(AV.sl s.points.length (s.points.flatMap Po.cells)),(AV.i s.last),(bys s.staged)])),(4,(AObj.cells (s6.1.flatMap Ex.cells)))]) false)
noncomputable def z3c (s:Sa) (from_:Int) (to_:Int) (s0:Po×Int) (s3:Po×Int) (s6:List Ex×Int):Option (List Ex×Int):=
 (tb ((decide (s6.2 < (s0.1.map.length:Int)))) (tp ((((0:Int)≤s6.2)∧(s6.2 < (s0.1.map.length:Int)))) (tb ((decide ((z0 s0.1.map s6.2.toNat).gen > s3.1.gen))) (tp ((((↑(List.length (z0 s0.1.map s6.2.toNat).d):Int)=(↑(List.length (z0 s0.1.map s6.2.toNat).d):Int))∧(((0:Int)≤(↑(List.length (z0 s0.1.map s6.2.toNat).d):Int))∧((↑(List.length (z0 s0.1.map s6.2.toNat).d):Int)≤(4294967296:Int))))) (tp ((((List.length (s6.1.flatMap Ex.cells))=(s6.1.length*5))∧((s6.1.length+(1:Nat))≤(4294967296:Nat)))) (some (((s6.1++[(Ex.mk (z0 s0.1.map s6.2.toNat).lba (z0 s0.1.map s6.2.toNat).len (z0 s0.1.map s6.2.toNat).kind 0 (List.take ((Int.toNat (↑(List.length (z0 s0.1.map s6.2.toNat).d):Int))*1) (((List.take 0 (List.replicate (Int.toNat (↑(List.length (z0 s0.1.map s6.2.toNat).d):Int)) (UInt8.ofNat (0:Nat))))++(List.take ((Min.min (List.length (z0 s0.1.map s6.2.toNat).d) (Int.toNat (↑(List.length (z0 s0.1.map s6.2.toNat).d):Int)))*1) (z0 s0.1.map s6.2.toNat).d))++(List.drop ((0:Nat)+(List.length (List.take ((Min.min (List.length (z0 s0.1.map s6.2.toNat).d) (Int.toNat (↑(List.length (z0 s0.1.map s6.2.toNat).d):Int)))*1) (List.map AV.y (z0 s0.1.map s6.2.toNat).d)))) (List.replicate (Int.toNat (↑(List.length (z0 s0.1.map s6.2.toNat).d):Int)) (UInt8.ofNat (0:Nat)))))))]),(wr (s6.2+(1:Int)))))))) (some ((s6.1,(wr (s6.2+(1:Int)))))))) none)
theorem zcu (s:Sa) (from_:Int) (to_:Int) (s0:Po×Int) (s3:Po×Int) (s6 zz:List Ex×Int):z3c s from_ to_ s0 s3 s6=some zz→u7 Try.prog cf 4 (lp Try.prog 27 0) (z4k s from_ to_ s0 s3 s6) (z4k s from_ to_ s0 s3 zz):=by
 unfold z3c
 exact tbD (fun h7 h7p=> x8 fun h8=> tbD (fun h9 h9p=> x8 fun h10=> x8 fun h11=> by intro e;injection e with e;subst e;exact j0 z9 (k:=300) (r:=[]) (hs:=hz [(1,[.yes,.yes,.yes,.cells ((Ex.cells (z0 s0.1.map s6.2.toNat)))]),(2,[.fc]),(2,[.fc]),(11,[.yes]),(4,[.yes]),(5,[.yes,.yes]),(15,[.fc,.fc,.yes,.yes]),(3,[])]) (ks:=[0,1,2,6,10,11,12]) (st1:=(St.mk [(0,(exs s0.1.map)),(1,(AV.i 0)),(2,(AV.fn (25:Nat) [(AV.pt 3 0)])),(6,(AV.rf 9 5 0 (s6.1.length+(1:Nat)))),(10,(exs s0.1.map)),(11,(AV.i (s0.1.map.length:Int))),(12,(AV.i (wr (s6.2+(1:Int)))))] 41 (AH.mk 10 [(9,(AObj.cells ((s6.1.flatMap Ex.cells)++[(AV.i (z0 s0.1.map s6.2.toNat).lba),(AV.i (z0 s0.1.map s6.2.toNat).len),(AV.i (z0 s0.1.map s6.2.toNat).kind),(AV.i 0),(AV.rf 7 1 0 (Int.toNat (↑(List.length (z0 s0.1.map s6.2.toNat).d):Int)))]))),(8,(AObj.cells [(AV.i (z0 s0.1.map s6.2.toNat).lba),(AV.i (z0 s0.1.map s6.2.toNat).len),(AV.i (z0 s0.1.map s6.2.toNat).kind),(AV.i 0),(AV.rf 7 1 0 (Int.toNat (↑(List.length (z0 s0.1.map s6.2.toNat).d):Int)))])),(7,(AObj.cells (((List.take 0 (List.flatten (List.replicate (Int.toNat (↑(List.length (z0 s0.1.map s6.2.toNat).d):Int)) [(AV.y (UInt8.ofNat (0:Nat)))])))++(List.take ((Min.min (List.length (z0 s0.1.map s6.2.toNat).d) (Int.toNat (↑(List.length (z0 s0.1.map s6.2.toNat).d):Int)))*1) (List.map AV.y (z0 s0.1.map s6.2.toNat).d)))++(List.drop ((0:Nat)+(List.length (List.take ((Min.min (List.length (z0 s0.1.map s6.2.toNat).d) (Int.toNat (↑(List.length (z0 s0.1.map s6.2.toNat).d):Int)))*1) (List.map AV.y (z0 s0.1.map s6.2.toNat).d)))) (List.flatten (List.replicate (Int.toNat (↑(List.length (z0 s0.1.map s6.2.toNat).d):Int)) [(AV.y (UInt8.ofNat (0:Nat)))])))))),(6,(AObj.cells (xc (z0 s0.1.map s6.2.toNat)))),(5,(AObj.cells (xc (z0 s0.1.map s6.2.toNat)))),(3,(AObj.cells [(AV.i s3.1.id),(AV.i s3.1.gen),(exs s3.1.map)])),(2,(AObj.cells [(AV.i s0.1.id),(AV.i s0.1.gen),(exs s0.1.map)])),(1,(AObj.cells [(AV.i 0),(AV.i 0),(AV.i 0),AV.nl])),(0,(AObj.cells [(AV.i s.blocks),(AV.i s.gen),(exs s.map),(AV.sl s.points.length (s.points.flatMap Po.cells)),(AV.i s.last),(bys s.staged)])),(4,AObj.dead)]) false)) kq (ac h7 (ac h8 (ac (fq (p:=((5:Nat)≤(List.length (List.drop (s6.2.toNat*5) (s0.1.map.flatMap Ex.cells)))))) (ac (show (List.take 5 (List.drop (s6.2.toNat*5) (s0.1.map.flatMap Ex.cells)))=(Ex.cells (z0 s0.1.map s6.2.toNat)) from (w7 bq bq)) (ac h9 (ac h10 (ac (tq (p:=((List.length (List.map AV.y (z0 s0.1.map s6.2.toNat).d))=((List.length (z0 s0.1.map s6.2.toNat).d)*1)))) (ac (tq (p:=(((0:Nat)+((Int.toNat (↑(List.length (z0 s0.1.map s6.2.toNat).d):Int))*1))≤(List.length (List.flatten (List.replicate (Int.toNat (↑(List.length (z0 s0.1.map s6.2.toNat).d):Int)) [(AV.y (UInt8.ofNat (0:Nat)))])))))) (ac (tq (p:=(((0:Nat)=(0:Nat))∧((List.length [(AV.i (z0 s0.1.map s6.2.toNat).lba),(AV.i (z0 s0.1.map s6.2.toNat).len),(AV.i (z0 s0.1.map s6.2.toNat).kind),(AV.i 0),(AV.rf 7 1 0 (Int.toNat (↑(List.length (z0 s0.1.map s6.2.toNat).d):Int)))])=(5:Nat))))) (ac h11 an)))))))))) (Nat.le_of_ble_eq_true rfl) (Nat.le_of_ble_eq_true rfl) (y9 [9] [7] kq (.consn kq (.eqv tq rfl) (.consn kq (.eqv tq rfl) (.consn kq (.fn (.cons (.pt rfl) .nil)) (.consn kq (.rfn (n:=(s6.1.length+(1:Nat))) rfl tq) (.consn kq (.eqv tq rfl) (.consn kq (.eqv tq rfl) (.consn kq (.eqv tq rfl) .nil))))))) (.cons (.old rfl rfl (.cells (.pl rfl pq))) (.cons (.old rfl rfl (.cells (.pl rfl pq))) (.cons (.old rfl rfl (.cells (.cons (.eqv tq rfl) (.cons (.eqv tq rfl) (.cons (.eqv tq rfl) (.cons .nl0 .nil)))))) (.cons (.old rfl rfl (.cells (.pl rfl pq))) (.cons (.old rfl rfl (.cells (.cast rfl tq (.app (.pl rfl pq) (.cons (.eqv rfl rfl) (.cons (.eqv rfl rfl) (.cons (.eqv rfl rfl) (.cons (.eqv rfl rfl) (.cons (.frzn rfl tq pq (by simp) rfl) .nil))))))))) .nil))))))) fun h9 h9p=> by intro e;injection e with e;subst e;exact j0 z9 (k:=300) (r:=[]) (hs:=hz [(1,[.yes,.yes,.yes,.cells ((Ex.cells (z0 s0.1.map s6.2.toNat)))]),(2,[.fc]),(2,[.fc]),(11,[.no]),(2,[])]) (ks:=[0,1,2,6,10,11,12]) (st1:=(St.mk [(0,(exs s0.1.map)),(1,(AV.i 0)),(2,(AV.fn (25:Nat) [(AV.pt 3 0)])),(6,(AV.rf 4 5 0 s6.1.length)),(10,(exs s0.1.map)),(11,(AV.i (s0.1.map.length:Int))),(12,(AV.i (wr (s6.2+(1:Int)))))] 41 (AH.mk 7 [(6,(AObj.cells (xc (z0 s0.1.map s6.2.toNat)))),(5,(AObj.cells (xc (z0 s0.1.map s6.2.toNat)))),(3,(AObj.cells [(AV.i s3.1.id),(AV.i s3.1.gen),(exs s3.1.map)])),(2,(AObj.cells [(AV.i s0.1.id),(AV.i s0.1.gen),(exs s0.1.map)])),(1,(AObj.cells [(AV.i 0),(AV.i 0),(AV.i 0),AV.nl])),(0,(AObj.cells [(AV.i s.blocks),(AV.i s.gen),(exs s.map),(AV.sl s.points.length (s.points.flatMap Po.cells)),(AV.i s.last),(bys s.staged)])),(4,(AObj.cells (s6.1.flatMap Ex.cells)))]) false)) kq (ac h7 (ac h8 (ac (fq (p:=((5:Nat)≤(List.length (List.drop (s6.2.toNat*5) (s0.1.map.flatMap Ex.cells)))))) (ac (show (List.take 5 (List.drop (s6.2.toNat*5) (s0.1.map.flatMap Ex.cells)))=(Ex.cells (z0 s0.1.map s6.2.toNat)) from (w7 bq bq)) (ac h9 an))))) (Nat.le_of_ble_eq_true rfl) (Nat.le_of_ble_eq_true rfl) (y9 [4] [] kq (.consn kq (.eqv tq rfl) (.consn kq (.eqv tq rfl) (.consn kq (.fn (.cons (.pt rfl) .nil)) (.consn kq (.rfn (n:=s6.1.length) rfl tq) (.consn kq (.eqv tq rfl) (.consn kq (.eqv tq rfl) (.consn kq (.eqv tq rfl) .nil))))))) (.cons (.old rfl rfl (.cells (.pl rfl pq))) (.cons (.old rfl rfl (.cells (.pl rfl pq))) (.cons (.old rfl rfl (.cells (.cons (.eqv tq rfl) (.cons (.eqv tq rfl) (.cons (.eqv tq rfl) (.cons .nl0 .nil)))))) (.cons (.old rfl rfl (.cells (.pl rfl pq))) (.cons (.old rfl rfl (.cells (.pl tq pq))) .nil))))))) fun h7 h7p=> u6
noncomputable abbrev zg6 (s:Sa) (from_:Int) (to_:Int) (s0:Po×Int):St:=(St.mk [(0,(exs s0.1.map)),(1,(AV.i 0)),(2,(AV.fn (24:Nat) ([]:List AV))),(6,AV.nl),(10,(exs s0.1.map)),(11,(AV.i (s0.1.map.length:Int))),(12,(AV.i 0))] 41 (AH.mk 3 [(2,(AObj.cells [(AV.i s0.1.id),(AV.i s0.1.gen),(exs s0.1.map)])),(1,(AObj.cells [(AV.i 0),(AV.i 0),(AV.i 0),AV.nl])),(0,(AObj.cells [(AV.i s.blocks),(AV.i s.gen),(exs s.map),(AV.sl s.points.length (s.points.flatMap Po.cells)),(AV.i s.last),(bys s.staged)]))]) false)
noncomputable abbrev z4r (s:Sa) (from_:Int) (to_:Int) (s0:Po×Int) (s4:List Ex×Int):St:=(St.mk [(0,(exs s0.1.map)),(1,(AV.i 0)),(2,(AV.fn (24:Nat) ([]:List AV))),(6,(AV.rf 3 5 0 s4.1.length)),(10,(exs s0.1.map)),(11,(AV.i (s0.1.map.length:Int))),(12,(AV.i s4.2))] 41 (AH.mk 4 [(2,(AObj.cells [(AV.i s0.1.id),(AV.i s0.1.gen),(exs s0.1.map)])),(1,(AObj.cells [(AV.i 0),(AV.i 0),(AV.i 0),AV.nl])),(0,(AObj.cells [(AV.i s.blocks),(AV.i s.gen),(exs s.map),(AV.sl s.points.length (s.points.flatMap Po.cells)),(AV.i s.last),(bys s.staged)])),(3,(AObj.cells (s4.1.flatMap Ex.cells)))]) false)
noncomputable def z3b (s:Sa) (from_:Int) (to_:Int) (s0:Po×Int) (s4:List Ex×Int):Option (List Ex×Int):=
 (tb ((decide (s4.2 < (s0.1.map.length:Int)))) (tp ((((0:Int)≤s4.2)∧(s4.2 < (s0.1.map.length:Int)))) (tb (((z0 s0.1.map s4.2.toNat).kind !=(0:Int))) (tp ((((↑(List.length (z0 s0.1.map s4.2.toNat).d):Int)=(↑(List.length (z0 s0.1.map s4.2.toNat).d):Int))∧(((0:Int)≤(↑(List.length (z0 s0.1.map s4.2.toNat).d):Int))∧((↑(List.length (z0 s0.1.map s4.2.toNat).d):Int)≤(4294967296:Int))))) (tp ((((List.length (s4.1.flatMap Ex.cells))=(s4.1.length*5))∧((s4.1.length+(1:Nat))≤(4294967296:Nat)))) (some (((s4.1++[(Ex.mk (z0 s0.1.map s4.2.toNat).lba (z0 s0.1.map s4.2.toNat).len (z0 s0.1.map s4.2.toNat).kind 0 (List.take ((Int.toNat (↑(List.length (z0 s0.1.map s4.2.toNat).d):Int))*1) (((List.take 0 (List.replicate (Int.toNat (↑(List.length (z0 s0.1.map s4.2.toNat).d):Int)) (UInt8.ofNat (0:Nat))))++(List.take ((Min.min (List.length (z0 s0.1.map s4.2.toNat).d) (Int.toNat (↑(List.length (z0 s0.1.map s4.2.toNat).d):Int)))*1) (z0 s0.1.map s4.2.toNat).d))++(List.drop ((0:Nat)+(List.length (List.take ((Min.min (List.length (z0 s0.1.map s4.2.toNat).d) (Int.toNat (↑(List.length (z0 s0.1.map s4.2.toNat).d):Int)))*1) (List.map AV.y (z0 s0.1.map s4.2.toNat).d)))) (List.replicate (Int.toNat (↑(List.length (z0 s0.1.map s4.2.toNat).d):Int)) (UInt8.ofNat (0:Nat)))))))]),(wr (s4.2+(1:Int)))))))) (some ((s4.1,(wr (s4.2+(1:Int)))))))) none)
theorem zd2 (s:Sa) (from_:Int) (to_:Int) (s0:Po×Int) (s4 zz:List Ex×Int):z3b s from_ to_ s0 s4=some zz→u7 Try.prog cf 3 (lp Try.prog 27 0) (z4r s from_ to_ s0 s4) (z4r s from_ to_ s0 zz):=by
 unfold z3b
 exact tbD (fun h5 h5p=> x8 fun h6=> tbN (fun h7 h7p=> x8 fun h8=> x8 fun h9=> by intro e;injection e with e;subst e;exact j0 z9 (k:=300) (r:=[]) (hs:=hz [(1,[.yes,.yes,.yes,.cells ((Ex.cells (z0 s0.1.map s4.2.toNat)))]),(2,[.fc]),(2,[.fc]),(8,[.yes]),(4,[.yes]),(5,[.yes,.yes]),(15,[.fc,.fc,.yes,.yes]),(3,[])]) (ks:=[0,1,2,6,10,11,12]) (st1:=(St.mk [(0,(exs s0.1.map)),(1,(AV.i 0)),(2,(AV.fn (24:Nat) ([]:List AV))),(6,(AV.rf 8 5 0 (s4.1.length+(1:Nat)))),(10,(exs s0.1.map)),(11,(AV.i (s0.1.map.length:Int))),(12,(AV.i (wr (s4.2+(1:Int)))))] 41 (AH.mk 9 [(8,(AObj.cells ((s4.1.flatMap Ex.cells)++[(AV.i (z0 s0.1.map s4.2.toNat).lba),(AV.i (z0 s0.1.map s4.2.toNat).len),(AV.i (z0 s0.1.map s4.2.toNat).kind),(AV.i 0),(AV.rf 6 1 0 (Int.toNat (↑(List.length (z0 s0.1.map s4.2.toNat).d):Int)))]))),(7,(AObj.cells [(AV.i (z0 s0.1.map s4.2.toNat).lba),(AV.i (z0 s0.1.map s4.2.toNat).len),(AV.i (z0 s0.1.map s4.2.toNat).kind),(AV.i 0),(AV.rf 6 1 0 (Int.toNat (↑(List.length (z0 s0.1.map s4.2.toNat).d):Int)))])),(6,(AObj.cells (((List.take 0 (List.flatten (List.replicate (Int.toNat (↑(List.length (z0 s0.1.map s4.2.toNat).d):Int)) [(AV.y (UInt8.ofNat (0:Nat)))])))++(List.take ((Min.min (List.length (z0 s0.1.map s4.2.toNat).d) (Int.toNat (↑(List.length (z0 s0.1.map s4.2.toNat).d):Int)))*1) (List.map AV.y (z0 s0.1.map s4.2.toNat).d)))++(List.drop ((0:Nat)+(List.length (List.take ((Min.min (List.length (z0 s0.1.map s4.2.toNat).d) (Int.toNat (↑(List.length (z0 s0.1.map s4.2.toNat).d):Int)))*1) (List.map AV.y (z0 s0.1.map s4.2.toNat).d)))) (List.flatten (List.replicate (Int.toNat (↑(List.length (z0 s0.1.map s4.2.toNat).d):Int)) [(AV.y (UInt8.ofNat (0:Nat)))])))))),(5,(AObj.cells (xc (z0 s0.1.map s4.2.toNat)))),(4,(AObj.cells (xc (z0 s0.1.map s4.2.toNat)))),(2,(AObj.cells [(AV.i s0.1.id),(AV.i s0.1.gen),(exs s0.1.map)])),(1,(AObj.cells [(AV.i 0),(AV.i 0),(AV.i 0),AV.nl])),(0,(AObj.cells [(AV.i s.blocks),(AV.i s.gen),(exs s.map),(AV.sl s.points.length (s.points.flatMap Po.cells)),(AV.i s.last),(bys s.staged)])),(3,AObj.dead)]) false)) kq (ac h5 (ac h6 (ac (fq (p:=((5:Nat)≤(List.length (List.drop (s4.2.toNat*5) (s0.1.map.flatMap Ex.cells)))))) (ac (show (List.take 5 (List.drop (s4.2.toNat*5) (s0.1.map.flatMap Ex.cells)))=(Ex.cells (z0 s0.1.map s4.2.toNat)) from (w7 bq bq)) (ac h7 (ac h8 (ac (tq (p:=((List.length (List.map AV.y (z0 s0.1.map s4.2.toNat).d))=((List.length (z0 s0.1.map s4.2.toNat).d)*1)))) (ac (tq (p:=(((0:Nat)+((Int.toNat (↑(List.length (z0 s0.1.map s4.2.toNat).d):Int))*1))≤(List.length (List.flatten (List.replicate (Int.toNat (↑(List.length (z0 s0.1.map s4.2.toNat).d):Int)) [(AV.y (UInt8.ofNat (0:Nat)))])))))) (ac (tq (p:=(((0:Nat)=(0:Nat))∧((List.length [(AV.i (z0 s0.1.map s4.2.toNat).lba),(AV.i (z0 s0.1.map s4.2.toNat).len),(AV.i (z0 s0.1.map s4.2.toNat).kind),(AV.i 0),(AV.rf 6 1 0 (Int.toNat (↑(List.length (z0 s0.1.map s4.2.toNat).d):Int)))])=(5:Nat))))) (ac h9 an)))))))))) (Nat.le_of_ble_eq_true rfl) (Nat.le_of_ble_eq_true rfl) (y9 [8] [6] kq (.consn kq (.eqv tq rfl) (.consn kq (.eqv tq rfl) (.consn kq (.fn .nil) (.consn kq (.rfn (n:=(s4.1.length+(1:Nat))) rfl tq) (.consn kq (.eqv tq rfl) (.consn kq (.eqv tq rfl) (.consn kq (.eqv tq rfl) .nil))))))) (.cons (.old rfl rfl (.cells (.pl rfl pq))) (.cons (.old rfl rfl (.cells (.cons (.eqv tq rfl) (.cons (.eqv tq rfl) (.cons (.eqv tq rfl) (.cons .nl0 .nil)))))) (.cons (.old rfl rfl (.cells (.pl rfl pq))) (.cons (.old rfl rfl (.cells (.cast rfl tq (.app (.pl rfl pq) (.cons (.eqv rfl rfl) (.cons (.eqv rfl rfl) (.cons (.eqv rfl rfl) (.cons (.eqv rfl rfl) (.cons (.frzn rfl tq pq (by simp) rfl) .nil))))))))) .nil)))))) fun h7 h7p=> by intro e;injection e with e;subst e;exact j0 z9 (k:=300) (r:=[]) (hs:=hz [(1,[.yes,.yes,.yes,.cells ((Ex.cells (z0 s0.1.map s4.2.toNat)))]),(2,[.fc]),(2,[.fc]),(8,[.no]),(2,[])]) (ks:=[0,1,2,6,10,11,12]) (st1:=(St.mk [(0,(exs s0.1.map)),(1,(AV.i 0)),(2,(AV.fn (24:Nat) ([]:List AV))),(6,(AV.rf 3 5 0 s4.1.length)),(10,(exs s0.1.map)),(11,(AV.i (s0.1.map.length:Int))),(12,(AV.i (wr (s4.2+(1:Int)))))] 41 (AH.mk 6 [(5,(AObj.cells (xc (z0 s0.1.map s4.2.toNat)))),(4,(AObj.cells (xc (z0 s0.1.map s4.2.toNat)))),(2,(AObj.cells [(AV.i s0.1.id),(AV.i s0.1.gen),(exs s0.1.map)])),(1,(AObj.cells [(AV.i 0),(AV.i 0),(AV.i 0),AV.nl])),(0,(AObj.cells [(AV.i s.blocks),(AV.i s.gen),(exs s.map),(AV.sl s.points.length (s.points.flatMap Po.cells)),(AV.i s.last),(bys s.staged)])),(3,(AObj.cells (s4.1.flatMap Ex.cells)))]) false)) kq (ac h5 (ac h6 (ac (fq (p:=((5:Nat)≤(List.length (List.drop (s4.2.toNat*5) (s0.1.map.flatMap Ex.cells)))))) (ac (show (List.take 5 (List.drop (s4.2.toNat*5) (s0.1.map.flatMap Ex.cells)))=(Ex.cells (z0 s0.1.map s4.2.toNat)) from (w7 bq bq)) (ac h7 an))))) (Nat.le_of_ble_eq_true rfl) (Nat.le_of_ble_eq_true rfl) (y9 [3] [] kq (.consn kq (.eqv tq rfl) (.consn kq (.eqv tq rfl) (.consn kq (.fn .nil) (.consn kq (.rfn (n:=s4.1.length) rfl tq) (.consn kq (.eqv tq rfl) (.consn kq (.eqv tq rfl) (.consn kq (.eqv tq rfl) .nil))))))) (.cons (.old rfl rfl (.cells (.pl rfl pq))) (.cons (.old rfl rfl (.cells (.cons (.eqv tq rfl) (.cons (.eqv tq rfl) (.cons (.eqv tq rfl) (.cons .nl0 .nil)))))) (.cons (.old rfl rfl (.cells (.pl rfl pq))) (.cons (.old rfl rfl (.cells (.pl tq pq))) .nil)))))) fun h5 h5p=> u6
noncomputable def zl6 (s:Sa) (from_:Int) (to_:Int):Option (Sm×Int):=
 (tc (zcm (s) (to_)) fun s0=> (tb ((s0.2 !=(0:Int))) (some (((Sm.mk 0 0 0 ([]:List Ex)),s0.2))) (tb ((from_ !=(0:Int))) (tc (zcm (s) (from_)) fun s3=> (tb ((s3.2 !=(0:Int))) (some (((Sm.mk 0 0 0 ([]:List Ex)),s3.2))) (tb ((decide (from_≥to_))) (some (((Sm.mk 0 0 0 ([]:List Ex)),(180:Int)))) (th (z3c s from_ to_ s0 s3) ((([]:List Ex),(0:Int))) fun s6=> (tb ((decide (s6.2 < (s0.1.map.length:Int)))) none (tp ((((0:Nat)=(0:Nat))∧((List.length (s6.1.flatMap Ex.cells))=(s6.1.length*5)))) (tc (zin (s6.1)) fun s9=> (tb ((s9.2 !=(0:Int))) (some (((Sm.mk 0 0 0 ([]:List Ex)),s9.2))) (some (((Sm.mk s.blocks from_ to_ s9.1),(0:Int)))))))))))) (tb ((decide (from_≥to_))) (some (((Sm.mk 0 0 0 ([]:List Ex)),(180:Int)))) (th (z3b s from_ to_ s0) ((([]:List Ex),(0:Int))) fun s4=> (tb ((decide (s4.2 < (s0.1.map.length:Int)))) none (tp ((((0:Nat)=(0:Nat))∧((List.length (s4.1.flatMap Ex.cells))=(s4.1.length*5)))) (tc (zin (s4.1)) fun s7=> (tb ((s7.2 !=(0:Int))) (some (((Sm.mk 0 0 0 ([]:List Ex)),s7.2))) (some (((Sm.mk s.blocks from_ to_ s7.1),(0:Int)))))))))))))
abbrev zxn (s:Sa) (from_:Int) (to_:Int) (r:Sm×Int):Prop:=z06 Try.prog cf false 10 [Sa.av (s),.i (from_),.i (to_)] (.tu [Sm.av (r.1),.i (r.2)])
theorem zvi (s:Sa) (from_:Int) (to_:Int) (r:Sm×Int):zl6 s from_ to_=some r→zxn s from_ to_ r:=by
 unfold zl6
 exact w6 fun s0 h0=> tbN (fun h1 h1p=> by intro e;injection e with e;subst e;exact x4 z9 (k:=300) (r:=[]) (hs:=hz [(4,[.fc]),(2,[.fres (.tu [Po.av (s0.1),.i (s0.2)])]),(5,[.fc]),(3,[.yes]),(1,[.fc]),(2,[.fc]),(2,[.fc])]) (raw:=(AV.tu [(AV.ag [(AV.i 0),(AV.i 0),(AV.i 0),(AV.sl 0 ([]:List AV))]),(AV.i s0.2)])) kq (ac (z1i (s) (to_) _ h0) (ac h1 an)) tq) fun h1 h1p=> tbN (fun h2 h2p=> w6 fun s3 h3=> tbN (fun h4 h4p=> by intro e;injection e with e;subst e;exact x4 z9 (k:=300) (r:=[]) (hs:=hz [(4,[.fc]),(2,[.fres (.tu [Po.av (s0.1),.i (s0.2)])]),(5,[.fc]),(3,[.no]),(3,[.yes]),(1,[.fc]),(2,[.fres (.tu [Po.av (s3.1),.i (s3.2)])]),(5,[.fc]),(3,[.yes]),(1,[.fc]),(2,[.fc]),(2,[.fc])]) (raw:=(AV.tu [(AV.ag [(AV.i 0),(AV.i 0),(AV.i 0),(AV.sl 0 ([]:List AV))]),(AV.i s3.2)])) kq (ac (z1i (s) (to_) _ h0) (ac h1 (ac h2 (ac (z1i (s) (from_) _ h3) (ac h4 an))))) tq) fun h4 h4p=> tbD (fun h5 h5p=> by intro e;injection e with e;subst e;exact x4 z9 (k:=300) (r:=[]) (hs:=hz [(4,[.fc]),(2,[.fres (.tu [Po.av (s0.1),.i (s0.2)])]),(5,[.fc]),(3,[.no]),(3,[.yes]),(1,[.fc]),(2,[.fres (.tu [Po.av (s3.1),.i (s3.2)])]),(5,[.fc]),(3,[.no]),(5,[.yes]),(1,[.fc]),(1,[.fc]),(2,[.fc])]) (raw:=(AV.tu [(AV.ag [(AV.i 0),(AV.i 0),(AV.i 0),(AV.sl 0 ([]:List AV))]),(AV.i 180)])) kq (ac (z1i (s) (to_) _ h0) (ac h1 (ac h2 (ac (z1i (s) (from_) _ h3) (ac h4 (ac h5 an)))))) tq) fun h5 h5p=> z13 fun s6 h6=> tbD (fun h7 h7p=> u6) fun h7 h7p=> x8 fun h8=> w6 fun s9 h9=> tbN (fun h10 h10p=> by intro e;injection e with e;subst e;exact x4 z9 (k:=300) (r:=[]) (hs:=hz [(4,[.fc]),(2,[.fres (.tu [Po.av (s0.1),.i (s0.2)])]),(5,[.fc]),(3,[.no]),(3,[.yes]),(1,[.fc]),(2,[.fres (.tu [Po.av (s3.1),.i (s3.2)])]),(5,[.fc]),(3,[.no]),(5,[.no]),(9,[.head (z4k s from_ to_ s0 s3 s6)]),(1,[.no]),(3,[.yes,.yes,.fres (.tu [exs (s9.1),.i (s9.2)])]),(7,[.yes]),(1,[.fc]),(2,[.fc]),(2,[.fc])]) (raw:=(AV.tu [(AV.ag [(AV.i 0),(AV.i 0),(AV.i 0),(AV.sl 0 ([]:List AV))]),(AV.i s9.2)])) kq (ac (z1i (s) (to_) _ h0) (ac h1 (ac h2 (ac (z1i (s) (from_) _ h3) (ac h4 (ac h5 (ac (show x5 Try.prog cf (lp Try.prog 27 0) (zes s from_ to_ s0 s3) (z4k s from_ to_ s0 s3 s6) from (x5.of (zcu s from_ to_ s0 s3) (y9 [4] [] kq (.consn kq (.eqv tq rfl) (.consn kq (.eqv tq rfl) (.consn kq (.fn (.cons (.pt rfl) .nil)) (.consn kq (.nln tq) (.consn kq (.eqv tq rfl) (.consn kq (.eqv tq rfl) (.consn kq (.eqv tq rfl) .nil))))))) (.cons (.old rfl rfl (.cells (.pl rfl pq))) (.cons (.old rfl rfl (.cells (.pl rfl pq))) (.cons (.old rfl rfl (.cells (.cons (.eqv tq rfl) (.cons (.eqv tq rfl) (.cons (.eqv tq rfl) (.cons .nl0 .nil)))))) (.cons (.old rfl rfl (.cells (.pl rfl pq))) (.cons (.none rfl (Nat.le_refl _) rfl) .nil)))))) h6)) (ac h7 (ac h8 (ac (pq (p:=Pl false ((s6.1.flatMap Ex.cells)))) (ac (zbg (s6.1) _ h9) (ac h10 an)))))))))))) tq) fun h10 h10p=> by intro e;injection e with e;subst e;exact x4 z9 (k:=300) (r:=[]) (hs:=hz [(4,[.fc]),(2,[.fres (.tu [Po.av (s0.1),.i (s0.2)])]),(5,[.fc]),(3,[.no]),(3,[.yes]),(1,[.fc]),(2,[.fres (.tu [Po.av (s3.1),.i (s3.2)])]),(5,[.fc]),(3,[.no]),(5,[.no]),(9,[.head (z4k s from_ to_ s0 s3 s6)]),(1,[.no]),(3,[.yes,.yes,.fres (.tu [exs (s9.1),.i (s9.2)])]),(7,[.no]),(8,[.fc]),(2,[.fc])]) (raw:=(AV.tu [(AV.ag [(AV.i s.blocks),(AV.i from_),(AV.i to_),(exs s9.1)]),(AV.i 0)])) kq (ac (z1i (s) (to_) _ h0) (ac h1 (ac h2 (ac (z1i (s) (from_) _ h3) (ac h4 (ac h5 (ac (show x5 Try.prog cf (lp Try.prog 27 0) (zes s from_ to_ s0 s3) (z4k s from_ to_ s0 s3 s6) from (x5.of (zcu s from_ to_ s0 s3) (y9 [4] [] kq (.consn kq (.eqv tq rfl) (.consn kq (.eqv tq rfl) (.consn kq (.fn (.cons (.pt rfl) .nil)) (.consn kq (.nln tq) (.consn kq (.eqv tq rfl) (.consn kq (.eqv tq rfl) (.consn kq (.eqv tq rfl) .nil))))))) (.cons (.old rfl rfl (.cells (.pl rfl pq))) (.cons (.old rfl rfl (.cells (.pl rfl pq))) (.cons (.old rfl rfl (.cells (.cons (.eqv tq rfl) (.cons (.eqv tq rfl) (.cons (.eqv tq rfl) (.cons .nl0 .nil)))))) (.cons (.old rfl rfl (.cells (.pl rfl pq))) (.cons (.none rfl (Nat.le_refl _) rfl) .nil)))))) h6)) (ac h7 (ac h8 (ac (pq (p:=Pl false ((s6.1.flatMap Ex.cells)))) (ac (zbg (s6.1) _ h9) (ac h10 an)))))))))))) tq) fun h2 h2p=> tbD (fun h3 h3p=> by intro e;injection e with e;subst e;exact x4 z9 (k:=300) (r:=[]) (hs:=hz [(4,[.fc]),(2,[.fres (.tu [Po.av (s0.1),.i (s0.2)])]),(5,[.fc]),(3,[.no]),(3,[.no]),(3,[.yes]),(1,[.fc]),(1,[.fc]),(2,[.fc])]) (raw:=(AV.tu [(AV.ag [(AV.i 0),(AV.i 0),(AV.i 0),(AV.sl 0 ([]:List AV))]),(AV.i 180)])) kq (ac (z1i (s) (to_) _ h0) (ac h1 (ac h2 (ac h3 an)))) tq) fun h3 h3p=> z13 fun s4 h4=> tbD (fun h5 h5p=> u6) fun h5 h5p=> x8 fun h6=> w6 fun s7 h7=> tbN (fun h8 h8p=> by intro e;injection e with e;subst e;exact x4 z9 (k:=300) (r:=[]) (hs:=hz [(4,[.fc]),(2,[.fres (.tu [Po.av (s0.1),.i (s0.2)])]),(5,[.fc]),(3,[.no]),(3,[.no]),(3,[.no]),(9,[.head (z4r s from_ to_ s0 s4)]),(1,[.no]),(3,[.yes,.yes,.fres (.tu [exs (s7.1),.i (s7.2)])]),(7,[.yes]),(1,[.fc]),(2,[.fc]),(2,[.fc])]) (raw:=(AV.tu [(AV.ag [(AV.i 0),(AV.i 0),(AV.i 0),(AV.sl 0 ([]:List AV))]),(AV.i s7.2)])) kq (ac (z1i (s) (to_) _ h0) (ac h1 (ac h2 (ac h3 (ac (show x5 Try.prog cf (lp Try.prog 27 0) (zg6 s from_ to_ s0) (z4r s from_ to_ s0 s4) from (x5.of (zd2 s from_ to_ s0) (y9 [3] [] kq (.consn kq (.eqv tq rfl) (.consn kq (.eqv tq rfl) (.consn kq (.fn .nil) (.consn kq (.nln tq) (.consn kq (.eqv tq rfl) (.consn kq (.eqv tq rfl) (.consn kq (.eqv tq rfl) .nil))))))) (.cons (.old rfl rfl (.cells (.pl rfl pq))) (.cons (.old rfl rfl (.cells (.cons (.eqv tq rfl) (.cons (.eqv tq rfl) (.cons (.eqv tq rfl) (.cons .nl0 .nil)))))) (.cons (.old rfl rfl (.cells (.pl rfl pq))) (.cons (.none rfl (Nat.le_refl _) rfl) .nil))))) h4)) (ac h5 (ac h6 (ac (pq (p:=Pl false ((s4.1.flatMap Ex.cells)))) (ac (zbg (s4.1) _ h7) (ac h8 an)))))))))) tq) fun h8 h8p=> by intro e;injection e with e;subst e;exact x4 z9 (k:=300) (r:=[]) (hs:=hz [(4,[.fc]),(2,[.fres (.tu [Po.av (s0.1),.i (s0.2)])]),(5,[.fc]),(3,[.no]),(3,[.no]),(3,[.no]),(9,[.head (z4r s from_ to_ s0 s4)]),(1,[.no]),(3,[.yes,.yes,.fres (.tu [exs (s7.1),.i (s7.2)])]),(7,[.no]),(8,[.fc]),(2,[.fc])]) (raw:=(AV.tu [(AV.ag [(AV.i s.blocks),(AV.i from_),(AV.i to_),(exs s7.1)]),(AV.i 0)])) kq (ac (z1i (s) (to_) _ h0) (ac h1 (ac h2 (ac h3 (ac (show x5 Try.prog cf (lp Try.prog 27 0) (zg6 s from_ to_ s0) (z4r s from_ to_ s0 s4) from (x5.of (zd2 s from_ to_ s0) (y9 [3] [] kq (.consn kq (.eqv tq rfl) (.consn kq (.eqv tq rfl) (.consn kq (.fn .nil) (.consn kq (.nln tq) (.consn kq (.eqv tq rfl) (.consn kq (.eqv tq rfl) (.consn kq (.eqv tq rfl) .nil))))))) (.cons (.old rfl rfl (.cells (.pl rfl pq))) (.cons (.old rfl rfl (.cells (.cons (.eqv tq rfl) (.cons (.eqv tq rfl) (.cons (.eqv tq rfl) (.cons .nl0 .nil)))))) (.cons (.old rfl rfl (.cells (.pl rfl pq))) (.cons (.none rfl (Nat.le_refl _) rfl) .nil))))) h4)) (ac h5 (ac h6 (ac (pq (p:=Pl false ((s4.1.flatMap Ex.cells)))) (ac (zbg (s4.1) _ h7) (ac h8 an)))))))))) tq
end Ab
end Go.Proofs.Ytpflcogplhigcaa
namespace Go.Proofs.Ytpflcogplhigcaa
open Go Go.Proofs.Ytpflcogplhigcaa.Ab
set_option linter.unusedVariables false
set_option linter.unusedSimpArgs false
namespace Ab
theorem cpd (d:List UInt8):List.take ((Int.toNat ((d.length:Nat):Int))*1) (((List.take 0 (List.replicate (Int.toNat ((d.length:Nat):Int)) (UInt8.ofNat 0)))++(List.take ((Min.min d.length (Int.toNat ((d.length:Nat):Int)))*1) d))++(List.drop (0+(List.length (List.take ((Min.min d.length (Int.toNat ((d.length:Nat):Int)))*1) (List.map AV.y d)))) (List.replicate (Int.toNat ((d.length:Nat):Int)) (UInt8.ofNat 0))))=d:=by
 simp
def z59 (p:Ex→Bool) (g:Int) (l:List Ex):List Ex:=(l.filter p).map (gn g)
theorem zxj (p:Ex→Bool) (g:Int) (l:List Ex) (i:Nat) (hi:i < l.length):z59 p g (l.take (i+1))=z59 p g (l.take i)++(if p (z0 l i)=true then [gn g (z0 l i)] else []):=by
 unfold z59
 rw [z8j l i hi,List.filter_append,List.map_append]
 by_cases h:p (z0 l i)=true
 · rw [if_pos h];simp [List.filter_cons,h]
 · rw [if_neg h];simp [List.filter_cons,h]
theorem y0r (p:Ex→Bool) (g:Int) (l:List Ex):(z59 p g l).length≤l.length:=by
 unfold z59;rw [List.length_map];exact List.length_filter_le _ _
def v0:Sm:=⟨0,0,0,[]⟩
def mkV (s:Sa) (a b:Int) (l:List Ex):Sm×Int:=if (pk l).2≠0 then (v0,(pk l).2) else (⟨s.blocks,a,b,(pk l).1⟩,0)
noncomputable def makV (s:Sa) (a b:Int):Sm×Int:=
 if (pnt s b).2≠0 then (v0,(pnt s b).2) else
 if a≠0 then (if (pnt s a).2≠0 then (v0,(pnt s a).2) else if a≥b then (v0,180) else mkV s a b (z59 (fun x=> decide (x.gen > (pnt s a).1.gen)) 0 (pnt s b).1.map))
 else if a≥b then (v0,180) else mkV s a b (z59 (fun x=> x.kind !=0) 0 (pnt s b).1.map)
theorem y0o {s:Sa} (h:Sz s) (id:Int):Sx (pnt s id).1.map:=by
 unfold pnt
 split
 · cases hf:fd s.points id with
   | none=> exact ⟨by simp [fdv,po0],fun x hx=> by cases hx⟩
   | some p=> exact h.2.2.1 p (List.mem_of_find?_eq_some hf)
 · exact ⟨by simp [po0],fun x hx=> by cases hx⟩
theorem zus {s:Sa} (h:Sz s) (a b:Int):zl6 s a b=some (makV s a b):=by
 unfold zl6 makV
 rw [zh6 h,v6,z1c]
 have hx:=y0o h b
 generalize pnt s b=q at hx
 by_cases h1:q.2=0
 case neg=> rw [if_neg h1,if_pos h1];rfl
 rw [if_pos h1,if_neg (fun g=> g h1),z1c]
 have hd:=(z1m q.1.map (fun x=> x.d.length≤1000000)).2 hx.2
 have hxl:=hx.1
 have key:∀(p:Ex→Bool) (step:List Ex×Int→Option (List Ex×Int)) (f:List Ex×Int→Option (Sm×Int)),
  (∀(i:Nat) (o:List Ex),i < q.1.map.length→o.length≤1000000→step (o,(i:Int))=some (o++(if p (z0 q.1.map i)=true then [gn 0 (z0 q.1.map i)] else []),(i:Int)+1))→(∀o,step (o,(q.1.map.length:Int))=none)→
  th step (([]:List Ex),0) f=f (z59 p 0 q.1.map,(q.1.map.length:Int)):=by
  intro p step f hs he
  have:=zjd (step:=step) (f:=f) (fun i=> z59 p 0 (q.1.map.take i)) q.1.map.length (fun i hi=> by
   have hle:=y0r p 0 (q.1.map.take i)
   rw [List.length_take] at hle
   rw [hs i _ hi (by omega),zxj p 0 _ i hi]) (he _)
  simp only [List.take_zero,List.take_length] at this
  exact this
 by_cases h2:a=0
 · rw [if_pos h2,if_neg (fun g=> g h2),x9]
   by_cases h3:a≥b
   · rw [if_pos h3,if_pos h3];rfl
   rw [if_neg h3,if_neg h3]
   refine (key (fun x=> x.kind !=0) _ _ ?_ ?_).trans ?_
   · intro i o hi ho
     have h1:=hd i hi
     unfold z3b
     simp only [x9,z1c,Int.toNat_natCast]
     rw [if_pos (by omega),x6 (by omega),t9 (x:=(i:Int)+1) (by omega) (by omega)]
     by_cases hk:(z0 q.1.map i).kind=0
     · rw [if_pos hk,if_neg (by simp [hk])];simp
     · rw [if_neg hk,if_pos (by simpa using hk),x6 ⟨by trivial,by omega,by omega⟩,x6 ⟨u5 _,by omega⟩]
       exact congrArg (fun d=> some (o++[(⟨(z0 q.1.map i).lba,(z0 q.1.map i).len,(z0 q.1.map i).kind,0,d⟩:Ex)],(i:Int)+1)) (cpd _)
   · intro o
     unfold z3b
     simp only [x9]
     rw [if_neg (by omega)]
   · dsimp only
     rw [x9,if_neg (by omega),x6 ⟨rfl,u5 _⟩,zli,v6,z1c]
     unfold mkV
     by_cases h4:(pk (z59 (fun x=> x.kind !=0) 0 q.1.map)).2=0
     · rw [if_pos h4,if_neg (fun g=> g h4)]
     · rw [if_neg h4,if_pos h4];rfl
 · rw [if_neg h2,if_pos h2,zh6 h,v6,z1c]
   generalize pnt s a=r
   by_cases h5:r.2=0
   case neg=> rw [if_neg h5,if_pos h5];rfl
   rw [if_pos h5,if_neg (fun g=> g h5),x9]
   by_cases h3:a≥b
   · rw [if_pos h3,if_pos h3];rfl
   rw [if_neg h3,if_neg h3]
   refine (key (fun x=> decide (x.gen > r.1.gen)) _ _ ?_ ?_).trans ?_
   · intro i o hi ho
     have h1:=hd i hi
     unfold z3c
     simp only [x9,Int.toNat_natCast]
     rw [if_pos (by omega),x6 (by omega),t9 (x:=(i:Int)+1) (by omega) (by omega)]
     by_cases hk:(z0 q.1.map i).gen > r.1.gen
     · rw [if_pos hk,if_pos (decide_eq_true hk),x6 ⟨by trivial,by omega,by omega⟩,x6 ⟨u5 _,by omega⟩]
       exact congrArg (fun d=> some (o++[(⟨(z0 q.1.map i).lba,(z0 q.1.map i).len,(z0 q.1.map i).kind,0,d⟩:Ex)],(i:Int)+1)) (cpd _)
     · rw [if_neg hk,if_neg (by simpa using hk)];simp
   · intro o
     unfold z3c
     simp only [x9]
     rw [if_neg (by omega)]
   · dsimp only
     rw [x9,if_neg (by omega),x6 ⟨rfl,u5 _⟩,zli,v6,z1c]
     unfold mkV
     by_cases h4:(pk (z59 (fun x=> decide (x.gen > r.1.gen)) 0 q.1.map)).2=0
     · rw [if_pos h4,if_neg (fun g=> g h4)]
     · rw [if_neg h4,if_pos h4];rfl
end Ab
end Go.Proofs.Ytpflcogplhigcaa
namespace Go.Proofs.Ytpflcogplhigcaa
open Go Go.Proofs.Ytpflcogplhigcaa.Ab
set_option linter.unusedVariables false
set_option linter.unusedSimpArgs false
namespace Ab
theorem zyr:∀{l:List Ex} {s:Int},CH s l→So s l∧en s l=s+sl l
 | [],s,_=> ⟨trivial,by simp [en,sl]⟩
 | x::l,s,h=> by
   obtain ⟨h1,h2,_,h4⟩:=h
   rw [←h2] at h4
   have ih:=zyr h4
   exact ⟨⟨h1,by omega,ih.1⟩,by simp only [en,sl];rw [ih.2];omega⟩
theorem zwp:∀{l:List Ex} {s t:Int},t≤s→en t l≤en s l
 | [],s,t,h=> h
 | x::l,s,t,_=> Int.le_refl _
theorem zhi (p:Ex→Bool):∀{l:List Ex} {s:Int},So s l→So s (l.filter p)∧en s (l.filter p)≤en s l
 | [],s,_=> ⟨trivial,Int.le_refl _⟩
 | x::l,s,h=> by
   obtain ⟨h1,h2,h3⟩:=h
   have ih:=zhi p h3
   have px:=z08 h1
   by_cases q:p x=true
   · rw [List.filter_cons_of_pos q];exact ⟨⟨h1,h2,ih.1⟩,ih.2⟩
   · rw [List.filter_cons_of_neg q]
     exact ⟨zqw ih.1 (by omega),Int.le_trans (zwp (by omega)) ih.2⟩
theorem ck_gn {x:Ex} (h:Ck x) {g:Int} (hg:0≤g∧g≤2147483647):Ck (gn g x):=by
 obtain ⟨h1,h2,h3,h4,h5,h6,_,_,h9,h10⟩:=h
 exact ⟨h1,h2,h3,h4,h5,h6,hg.1,hg.2,h9,h10⟩
theorem zyg {g:Int} (hg:0≤g∧g≤2147483647):∀{l:List Ex} {s:Int},So s l→So s (l.map (gn g))∧en s (l.map (gn g))=en s l
 | [],s,_=> ⟨trivial,rfl⟩
 | x::l,s,h=> by
   have ih:=zyg hg h.2.2
   exact ⟨⟨ck_gn h.1 hg,h.2.1,ih.1⟩,ih.2⟩
theorem zjz:∀{l:List Ex} {s:Int},So s l→s+l.length≤en s l
 | [],s,_=> by simp [en]
 | x::l,s,h=> by
   have ih:=zjz h.2.2
   have px:=z08 h.1
   have h2:=h.2.1
   simp only [en,List.length_cons]
   omega
theorem zy5 {b:Int} {m:List Ex} (h:Mk b m) (p:Ex→Bool) {g:Int} (hg:0≤g∧g≤2147483647):So 0 (z59 p g m)∧en 0 (z59 p g m)≤b∧(z59 p g m).length≤64:=by
 obtain ⟨a,e⟩:=zyr (z89 h)
 obtain ⟨a1,e1⟩:=zhi p a
 obtain ⟨a2,e2⟩:=zyg hg a1
 have hb:=z97 h
 have hs:=h.2.2
 have hl:=zjz a2
 unfold z59
 rw [e2] at hl⊢
 exact ⟨a2,by omega,by omega⟩
theorem zts {l:List Ex} (h:So 0 l) (hl:l.length≤64):Ls l:=⟨hl,so_lp h⟩
theorem zw6 {g:Int} {out:List Ex} {y:Ex} (h:∀x∈out,x.gen=g) (hy:y.gen=g):∀x∈add out y,x.gen=g:=by
 intro x hx
 unfold add at hx
 split at hx
 · rename_i q
   rcases List.mem_append.1 hx with q1 | q1
   · exact h x (List.dropLast_subset _ q1)
   · rw [List.mem_singleton] at q1
     subst q1
     have hm:out.getLastD ⟨0,0,0,0,[]⟩∈out:=by
      rw [zdr q.1]
      simp
     show (out.getLastD ⟨0,0,0,0,[]⟩).gen=g
     exact h _ hm
 · rcases List.mem_append.1 hx with q1 | q1
   · exact h x q1
   · rw [List.mem_singleton] at q1;subst q1;exact hy
theorem zlq {g:Int}:∀(ys out:List Ex),(∀x∈out,x.gen=g)→(∀x∈ys,x.gen=g)→∀x∈ys.foldl add out,x.gen=g
 | [],out,h,_=> h
 | y::ys,out,h,hy=> zlq ys _ (zw6 h (hy y (by simp))) fun x hx=> hy x (by simp [hx])
theorem zt0 {x y:Ex} (hy:y∈told x):y.gen=x.gen:=by
 unfold told at hy
 split at hy
 · obtain ⟨z,_,rfl⟩:=List.mem_map.1 hy;rfl
 · rw [List.mem_singleton] at hy;subst hy;rfl
theorem zqc:∀(ys out:List Ex),So 0 out→NJ out→(∀x∈out,Gd x)→So (en 0 out) ys→(∀x∈ys,Gd x)→en 0 (ys.foldl add out)=en (en 0 out) ys
 | [],out,_,_,_,_,_=> rfl
 | y::ys,out,h1,h2,h3,h4,h5=> by
   obtain ⟨a,b,c,d⟩:=zux h1 h2 h3 h4.1 (h5 y (by simp)) h4.2.1
   rw [List.foldl_cons,zqc ys _ a b c (by rw [d];exact h4.2.2) (fun x hx=> h5 x (by simp [hx])),d]
   rfl
theorem zzw {l:List Ex} {b:Int} (h:So 0 l) (he:en 0 l≤b) (hb:b≤64) (hg:∀x∈l,x.gen=0):(pk l).2=0∧So 0 (pk l).1∧NJ (pk l).1∧(∀x∈(pk l).1,Gd x∧x.gen=0)∧en 0 (pk l).1≤b∧(pk l).1.length≤64:=by
 have hl:=zjz h
 have hls:=zts h (by omega)
 obtain ⟨p1,p2,p3,p4,p5⟩:=zjl hls
 obtain ⟨t1,t2,t3⟩:=zgg l 0 h
 have hen:en 0 (pk l).1=en 0 l:=by
  rw [p5,zqc _ [] trivial trivial (fun x hx=> by cases hx) t1 t3]
  exact t2
 have hgen:∀x∈(pk l).1,x.gen=0:=by
  rw [p5]
  refine zlq _ [] (fun x hx=> by cases hx) fun x hx=> ?_
  obtain ⟨z,hz,q⟩:=List.mem_flatMap.1 hx
  rw [zt0 q,hg z hz]
 have hl2:=zjz p1
 exact ⟨p4,p1,p2,fun x hx=> ⟨p3 x hx,hgen x hx⟩,by omega,by omega⟩
theorem y02 {s:Sa} {a c:Int} {m:List Ex} (hm:Mk s.blocks m) (p:Ex→Bool) (ha:0≤a∧a < c) (hc:1≤c∧c≤2147483647):
 mkV s a c (z59 p 0 m)=(⟨s.blocks,a,c,(pk (z59 p 0 m)).1⟩,0)∧zpi ⟨s.blocks,a,c,(pk (z59 p 0 m)).1⟩=some true∧So 0 (pk (z59 p 0 m)).1∧en 0 (pk (z59 p 0 m)).1≤s.blocks∧(pk (z59 p 0 m)).1.length≤64:=by
 have hb:=z97 hm
 obtain ⟨o1,o2,o3⟩:=zy5 hm p (g:=0) (by omega)
 have og:∀x∈z59 p 0 m,x.gen=0:=fun x hx=> by
  obtain ⟨y,_,rfl⟩:=List.mem_map.1 hx;rfl
 obtain ⟨q1,q2,q3,q4,q5,q6⟩:=zzw o1 o2 hb.2 og
 refine ⟨by unfold mkV;rw [if_neg (fun g=> g q1)],zp5 hb hc ha q6 q2 q3 q4 q5,q2,q5,q6⟩
end Ab
end Go.Proofs.Ytpflcogplhigcaa
namespace Go.Proofs.Ytpflcogplhigcaa
open Go Go.Proofs.Ytpflcogplhigcaa.Ab
set_option linter.unusedVariables false
set_option linter.unusedSimpArgs false
namespace Ab
theorem fo_sx {l:List Ex} (h:Fo l):Sx l:=⟨by have:=h.2;omega,fun x hx=> by
 have:=z43 ((z1m l Ck).1 (fun i hi=> (h.1 i hi).1) x hx);omega⟩
theorem zvj {c:Ch} (h:CkH c):Hz c:=by
 by_cases k8:c.kind=8
 · have:=(zmn k8).1 h
   exact ⟨by omega,fo_sx this.2.2.2⟩
 · have hl:c.list=[]:=List.eq_nil_of_length_eq_zero (by unfold CkH at h;omega)
   refine ⟨by unfold CkH at h;omega,?_⟩
   rw [hl];exact ⟨by simp,fun x hx=> by cases hx⟩
theorem zdp {s:Sa} {c:Ch} (hz:Sz s) (hc:c.list.length≤9223372036854775807):sDo s c=some (doS s c):=by
 by_cases hk:CkH c
 · exact zzp hz (zvj hk)
 unfold sDo
 rw [z9b hz,v6,z1c]
 by_cases hs:SOk s
 case neg=> rw [zh0 hs,if_neg (by omega),zv0 hs];rfl
 rw [zur hs,if_pos rfl,zid c hc,v6,z26,x9]
 simp only [zgl hz,zpz hs,v6,x9,z1u]
 rw [if_neg hk,z88 hs hk,x6 ⟨trivial,u5 _⟩]
theorem ziw {s:Sa} {c:Ch} (hz:Sz s) (hs:SOk s):Sz (doS s c).1:=by
 by_cases hk:CkH c
 · exact zzd hz (zvj hk)
 · rw [z88 hs hk];exact hz
theorem y0c {l:List Ex} {k:Int}:On l k↔∃c,Den l k c:=
 ⟨fun ⟨x,hx,a,b⟩=> ⟨_,x,hx,a,b,rfl⟩,fun ⟨_,x,hx,a,b,_⟩=> ⟨x,hx,a,b⟩⟩
theorem on_pk {l:List Ex} (hs:So 0 l) (hl:l.length≤64) {k:Int}:On (pk l).1 k↔On l k:=by
 have h:=zts hs hl
 rw [y0c]
 constructor
 · rintro ⟨c,hc⟩
   rw [(zjl h).2.2.2.2,zax,zn8] at hc
   rcases hc with q | ⟨x,hx,q⟩
   · exact absurd q z46
   · obtain ⟨a,b⟩:=zwu (zi9 hs x hx).1 q
     exact ⟨x,hx,a,b⟩
 · rintro ⟨x,hx,a,b⟩
   obtain ⟨c,hc,_⟩:=zvg (zi9 hs x hx).1 a b
   refine ⟨c,?_⟩
   rw [(zjl h).2.2.2.2,zax,zn8]
   exact .inr ⟨x,hx,hc⟩
theorem on_of {g a k:Int} {m:List Ex}:On (z59 (fun x=> decide (x.gen > g)) a m) k↔Nw g m k:=by
 unfold z59
 rw [zy2]
 simp only [On,Nw,List.mem_filter,decide_eq_true_iff]
 constructor
 · rintro ⟨x,⟨h1,h2⟩,h3⟩;exact ⟨x,h1,h2,h3⟩
 · rintro ⟨x,h1,h2,h3⟩;exact ⟨x,⟨h1,h2⟩,h3⟩
theorem zwb {s:Sa} {c:Ch} (h:SOk s) (hk:c.kind≤3):(doS s c).1.points=s.points∧(doS s c).1.last=s.last∧(doS s c).1.gen=s.gen∧((doS s c).2≠0→(doS s c).1=s):=by
 have hl:∀o,(lyS s o).1.points=s.points∧(lyS s o).1.last=s.last∧(lyS s o).1.gen=s.gen∧((lyS s o).2≠0→(lyS s o).1=s):=fun o=> by
  unfold lyS
  split
  · exact ⟨rfl,rfl,rfl,fun g=> absurd rfl g⟩
  · exact ⟨rfl,rfl,rfl,fun _=> rfl⟩
 by_cases hc:CkH c
 case neg=> rw [z88 h hc];exact ⟨rfl,rfl,rfl,fun _=> rfl⟩
 rw [zg3 h hc]
 have kk:=z6w hc
 unfold doK
 by_cases k1:c.kind=1
 · rw [if_pos k1];exact hl _
 rw [if_neg k1]
 by_cases k2:c.kind=2
 · rw [if_pos k2];exact hl _
 rw [if_neg k2,if_pos (by omega)]
 exact hl _
noncomputable def tch (q:Sa×List Bool) (c:Ch):Sa×List Bool:=if c.kind > 3 then q else ((doS q.1 c).1,if (doS q.1 c).2=0 then z83 q.2 c.lba c.n else q.2)
def TcI (b g:Int) (ps:List Po) (la:Int) (q:Sa×List Bool):Prop:=SOk q.1∧Sz q.1∧q.1.blocks=b∧q.2.length=64∧q.1.points=ps∧q.1.last=la∧(g < q.1.gen→Tl q.2 (Nw g q.1.map))
theorem zwq {b g la:Int} {ps:List Po} {q:Sa×List Bool} {c:Ch} (hg:g < q.1.gen∨q.1.gen≤g) (h:TcI b g ps la q):TcI b g ps la (tch q c)∧(tch q c).1.gen=q.1.gen:=by
 obtain ⟨h1,h2,h3,h4,h5,h6,h7⟩:=h
 unfold tch
 by_cases hk:c.kind > 3
 · rw [if_pos hk];exact ⟨⟨h1,h2,h3,h4,h5,h6,h7⟩,rfl⟩
 rw [if_neg hk]
 obtain ⟨p1,p2,p3,p4⟩:=zwb h1 (c:=c) (by omega)
 refine ⟨⟨zjt h1 c,ziw h2 h1,(z7w h1 c).trans h3,?_,p1.trans h5,p2.trans h6,fun gg=> ?_⟩,p3⟩
 · show (if _ then _ else _:List Bool).length=64
   split
   · exact (z38 _ _ _).trans h4
   · exact h4
 · have gg:g < q.1.gen:=by rw [←p3];exact gg
   show Tl (if _ then _ else _) (Nw g (doS q.1 c).1.map)
   by_cases he:(doS q.1 c).2=0
   · rw [if_pos he]
     have hli:c.list=[]:=by
      have hc:CkH c:=Classical.byContradiction fun hn=> by rw [z88 h1 hn] at he;exact absurd he (by simp)
      exact List.eq_nil_of_length_eq_zero (by unfold CkH at hc;omega)
     refine zf7 (ztd (h7 gg) c.lba c.n) fun k=> ?_
     rw [(nw_do h1 gg he k).2,hli]
     simp only [zca,or_false]
     constructor
     · rintro (q | q)
       · exact .inl q
       · exact .inr ⟨by omega,q⟩
     · rintro (q | q)
       · exact .inl q
       · exact .inr q.2
   · rw [if_neg he,p4 he];exact h7 gg
theorem zgh {b g la:Int} {ps:List Po}:∀(l:List Ch) (q:Sa×List Bool),TcI b g ps la q→TcI b g ps la (l.foldl tch q)∧(l.foldl tch q).1.gen=q.1.gen
 | [],q,h=> ⟨h,rfl⟩
 | c::l,q,h=> by
   obtain ⟨h1,h2⟩:=zwq (c:=c) (by omega) h
   obtain ⟨h3,h4⟩:=zgh l _ h1
   exact ⟨h3,h4.trans h2⟩
noncomputable def dos (s:Sa) (l:List Ch):Sa:=l.foldl (fun s c=> (doS s c).1) s
theorem zqk {b:Int}:∀(l:List Ch) (s:Sa),SOk s→Sz s→s.blocks=b→SOk (dos s l)∧Sz (dos s l)∧(dos s l).blocks=b
 | [],s,h1,h2,h3=> ⟨h1,h2,h3⟩
 | c::l,s,h1,h2,h3=> zqk l _ (zjt h1 c) (ziw h2 h1) ((z7w h1 c).trans h3)
theorem zmy (l:List Ch) (i:Nat) (hi:i < l.length):l.take (i+1)=l.take i++[d7 l i]:=by
 rw [List.take_succ_eq_append_getElem hi]
 simp [d7,hi]
theorem zsi (s:Sa) (l:List Ch) (i:Nat) (hi:i < l.length):dos s (l.take (i+1))=(doS (dos s (l.take i)) (d7 l i)).1:=by
 unfold dos;rw [zmy l i hi,List.foldl_append];rfl
theorem zt4 (q:Sa×List Bool) (l:List Ch) (i:Nat) (hi:i < l.length):(l.take (i+1)).foldl tch q=tch ((l.take i).foldl tch q) (d7 l i):=by
 rw [zmy l i hi,List.foldl_append];rfl
theorem zxw {s:Sa} {c:Ch} (h:SOk s) (hk:c.kind=4) (he:(doS s c).2=0):(doS s c).1=⟨s.blocks,s.gen+1,s.map,s.points++[⟨c.id,s.gen,s.map⟩],c.id,s.staged⟩:=by
 have hc:CkH c:=Classical.byContradiction fun hn=> by rw [z88 h hn] at he;exact absurd he (by simp)
 rw [zg3 h hc] at he⊢
 unfold doK at he⊢
 rw [if_neg (by omega),if_neg (by omega),if_neg (by omega),if_pos hk] at he⊢
 unfold mkS at he⊢
 split at he
 · cases he
 rename_i a;rw [if_neg a]
 split at he
 · cases he
 rename_i b;rw [if_neg b]
 split at he
 · cases he
 rename_i d;rw [if_neg d]
theorem zxu {s:Sa} (h:SOk s) {k:Int}:¬Nw s.gen s.map k:=by
 rintro ⟨x,hx,h1,_⟩
 have:=h.1.2 x hx
 omega
end Ab
end Go.Proofs.Ytpflcogplhigcaa
namespace Go.Proofs.Ytpflcogplhigcaa
open Go Go.Proofs.Ytpflcogplhigcaa.Ab
set_option linter.unusedVariables false
set_option linter.unusedSimpArgs false
set_option maxRecDepth 1000000
set_option maxHeartbeats 0
namespace Ab
def cX0:Sa:=⟨8,1,[⟨0,8,0,0,[]⟩],[],0,[]⟩
def cX:Sa:=⟨8,3,[⟨0,2,0,0,[]⟩,⟨2,1,0,2,[]⟩,⟨3,2,1,1,[]⟩,⟨5,3,0,0,[]⟩],[⟨5,1,[⟨0,2,0,0,[]⟩,⟨2,3,1,1,[]⟩,⟨5,3,0,0,[]⟩]⟩,⟨7,2,[⟨0,2,0,0,[]⟩,⟨2,1,0,2,[]⟩,⟨3,2,1,1,[]⟩,⟨5,3,0,0,[]⟩]⟩],7,[]⟩
def cL:List Ch:=[⟨2,2,3,0,[],[]⟩,⟨4,0,0,5,[],[]⟩,⟨3,2,1,0,[],[]⟩,⟨4,0,0,7,[],[]⟩]
def cA:Sm:=⟨8,0,5,[⟨2,3,1,0,[]⟩]⟩
def cB:Sm:=⟨8,5,7,[⟨2,1,0,0,[]⟩]⟩
def cV:Sm:=⟨0,0,0,[]⟩
def cM:List Ex:=[⟨0,2,0,0,[]⟩,⟨2,3,1,9,[]⟩,⟨5,3,0,0,[]⟩]
theorem zw1:z72 Try.prog cf 4000 20 [.i 8]=some (.tu [Sa.av cX0,.i 0]):=by kernel_rfl
theorem zx2:z72 Try.prog cf 4000 21 [Sa.av cX0,chs cL]=some (.tu [Sa.av cX,.i 4,.i 0]):=by kernel_rfl
theorem zry:z72 Try.prog cf 4000 10 [Sa.av cX,.i 0,.i 5]=some (.tu [Sm.av cA,.i 0]):=by kernel_rfl
theorem zrc:z72 Try.prog cf 4000 10 [Sa.av cX,.i 5,.i 7]=some (.tu [Sm.av cB,.i 0]):=by kernel_rfl
theorem zs1:z72 Try.prog cf 4000 10 [Sa.av cX,.i 7,.i 7]=some (.tu [Sm.av cV,.i 180]):=by kernel_rfl
theorem zr9:z72 Try.prog cf 4000 10 [Sa.av cX,.i 0,.i 6]=some (.tu [Sm.av cV,.i 111]):=by kernel_rfl
theorem zm6:z72 Try.prog cf 4000 11 [.i 8,exs cX0.map,Sm.av cA,.i 9]=some (.tu [exs cM,.i 0]):=by kernel_rfl
theorem zkq:z72 Try.prog cf 4000 11 [.i 7,exs [],Sm.av cA,.i 9]=some (.tu [exs [],.i 170]):=by kernel_rfl
theorem zs2:z72 Try.prog cf 4000 18 [Sm.av cA,Sm.av cA]=some (.b true):=by kernel_rfl
theorem zrd:z72 Try.prog cf 4000 18 [Sm.av cB,Sm.av cB]=some (.b true):=by kernel_rfl
def cNew (b:Int):Option (Sa×Int):=if b=8 then some (cX0,0) else none
def cRun (s:Sa) (l:List Ch):Option (Sa×Int×Int):=if s=cX0∧l=cL then some (cX,4,0) else none
def zi4 (s:Sa) (a b:Int):Option (Sm×Int):=if s=cX then (if a=0∧b=5 then some (cA,0) else if a=5∧b=7 then some (cB,0) else if a=7∧b=7 then some (cV,180) else if a=0∧b=6 then some (cV,111) else none) else none
def zdh (n:Int) (l:List Ex) (s:Sm) (g:Int):Option (List Ex×Int):=if s=cA∧g=9 then (if n=8∧l=cX0.map then some (cM,0) else if n=7∧l=[] then some ([],170) else none) else none
def zqi (a b:Sm):Option Bool:=if a=cA∧b=cA then some true else if a=cB∧b=cB then some true else none
theorem z1t (b:Int) (r:Sa×Int) (h:cNew b=some r):z06 Try.prog cf false 20 [.i b] (.tu [Sa.av r.1,.i r.2]):=by
 unfold cNew at h
 split at h
 · rename_i e;subst e;injection h with h;subst h;exact z06.of_aCall zw1
 · cases h
theorem z1s (s:Sa) (l:List Ch) (r:Sa×Int×Int) (h:cRun s l=some r):z06 Try.prog cf false 21 [s.av,chs l] (.tu [Sa.av r.1,.i r.2.1,.i r.2.2]):=by
 unfold cRun at h
 split at h
 · rename_i e;obtain ⟨rfl,rfl⟩:=e;injection h with h;subst h;exact z06.of_aCall zx2
 · cases h
theorem v8 (s:Sa) (a b:Int) (r:Sm×Int) (h:zi4 s a b=some r):z06 Try.prog cf false 10 [s.av,.i a,.i b] (.tu [Sm.av r.1,.i r.2]):=by
 unfold zi4 at h
 split at h
 · rename_i e;subst e
   split at h
   · rename_i e;obtain ⟨rfl,rfl⟩:=e;injection h with h;subst h;exact z06.of_aCall zry
   split at h
   · rename_i e;obtain ⟨rfl,rfl⟩:=e;injection h with h;subst h;exact z06.of_aCall zrc
   split at h
   · rename_i e;obtain ⟨rfl,rfl⟩:=e;injection h with h;subst h;exact z06.of_aCall zs1
   split at h
   · rename_i e;obtain ⟨rfl,rfl⟩:=e;injection h with h;subst h;exact z06.of_aCall zr9
   · cases h
 · cases h
theorem u9 (n:Int) (l:List Ex) (s:Sm) (g:Int) (r:List Ex×Int) (h:zdh n l s g=some r):z06 Try.prog cf false 11 [.i n,exs l,s.av,.i g] (.tu [exs r.1,.i r.2]):=by
 unfold zdh at h
 split at h
 · rename_i e;obtain ⟨rfl,rfl⟩:=e
   split at h
   · rename_i e;obtain ⟨rfl,rfl⟩:=e;injection h with h;subst h;exact z06.of_aCall zm6
   split at h
   · rename_i e;obtain ⟨rfl,rfl⟩:=e;injection h with h;subst h;exact z06.of_aCall zkq
   · cases h
 · cases h
theorem z00 (a b:Sm) (r:Bool) (h:zqi a b=some r):z06 Try.prog cf true 18 [a.av,b.av] (.b r):=by
 unfold zqi at h
 split at h
 · rename_i e;obtain ⟨rfl,rfl⟩:=e;injection h with h;subst h;exact z06.of_bool zs2
 split at h
 · rename_i e;obtain ⟨rfl,rfl⟩:=e;injection h with h;subst h;exact z06.of_bool zrd
 · cases h
end Ab
end Go.Proofs.Ytpflcogplhigcaa
namespace Go.Proofs.Ytpflcogplhigcaa
open Go Go.Proofs.Ytpflcogplhigcaa.Ab
set_option linter.unusedVariables false
set_option linter.unusedSimpArgs false
set_option maxRecDepth 1000000
set_option maxHeartbeats 0
namespace Ab
noncomputable def aw18:Option (Bool):=
 (tc (cNew ((8:Int))) fun s0=>
  (tc (cRun (s0.1) ([(Ch.mk 2 2 3 0 ([]:List UInt8) ([]:List Ex)),(Ch.mk 4 0 0 5 ([]:List UInt8) ([]:List Ex)),(Ch.mk 3 2 1 0 ([]:List UInt8) ([]:List Ex)),(Ch.mk 4 0 0 7 ([]:List UInt8) ([]:List Ex))])) fun s1=>
   (tc (zi4 (s1.1) ((0:Int)) ((5:Int))) fun s2=>
    (tc (zi4 (s1.1) ((5:Int)) ((7:Int))) fun s3=>
     (tc (zi4 (s1.1) ((7:Int)) ((7:Int))) fun s4=>
      (tc (zi4 (s1.1) ((0:Int)) ((6:Int))) fun s5=>
       (tc (zdh ((8:Int)) (s0.1.map) (s2.1) ((9:Int))) fun s6=>
        (tc (zdh ((7:Int)) (([]:List Ex)) (s2.1) ((9:Int))) fun s7=>
         (tc (zqi (s2.1) ((Sm.mk 8 0 5 [(Ex.mk 2 3 1 0 ([]:List UInt8))]))) fun s8=>
          (tb (s8)
           (tc (zqi (s3.1) ((Sm.mk 8 5 7 [(Ex.mk 2 1 0 0 ([]:List UInt8))]))) fun s10=>
            (tb ((s1.2.1==(4:Int)))
             (tb ((s1.2.2==(0:Int)))
              (tb ((s2.2==(0:Int)))
               (tb ((s3.2==(0:Int)))
                (tb (s10)
                 (tb ((s4.2==(180:Int)))
                  (tb ((s5.2==(111:Int)))
                   (tb (((↑(List.length s6.1):Int)==(3:Int)))
                    (tb ((s6.2==(0:Int)))
                     (tb ((s7.2==(170:Int)))
                      (some (Bool.true))
                      (some (Bool.false)))
                     (some (Bool.false)))
                    (some (Bool.false)))
                   (some (Bool.false)))
                  (some (Bool.false)))
                 (some (Bool.false)))
                (some (Bool.false)))
               (some (Bool.false)))
              (some (Bool.false)))
             (some (Bool.false))))
           (tb ((s1.2.1==(4:Int)))
            (tb ((s1.2.2==(0:Int)))
             (tb ((s2.2==(0:Int)))
              (tb ((s3.2==(0:Int)))
               (some (Bool.false))
               (some (Bool.false)))
              (some (Bool.false)))
             (some (Bool.false)))
            (some (Bool.false)))))))))))))
abbrev y0l (r:Bool):Prop:=z06 Try.prog cf true 7 [] (.b (r))
theorem zbd (r:Bool):aw18=some r→y0l r:=by
 unfold aw18
 refine w6 (fun s0 h0=> ?_)
 refine w6 (fun s1 h1=> ?_)
 refine w6 (fun s2 h2=> ?_)
 refine w6 (fun s3 h3=> ?_)
 refine w6 (fun s4 h4=> ?_)
 refine w6 (fun s5 h5=> ?_)
 refine w6 (fun s6 h6=> ?_)
 refine w6 (fun s7 h7=> ?_)
 refine w6 (fun s8 h8=> ?_)
 refine t6 (fun h9=> ?_) (fun h9=> ?_)
 ·
  refine w6 (fun s10 h10=> ?_)
  refine t6 (fun h11=> ?_) (fun h11=> ?_)
  ·
   have h11p:=eq_of_beq h11
   refine t6 (fun h12=> ?_) (fun h12=> ?_)
   ·
    have h12p:=eq_of_beq h12
    refine t6 (fun h13=> ?_) (fun h13=> ?_)
    ·
     have h13p:=eq_of_beq h13
     refine t6 (fun h14=> ?_) (fun h14=> ?_)
     ·
      have h14p:=eq_of_beq h14
      refine t6 (fun h15=> ?_) (fun h15=> ?_)
      ·
       refine t6 (fun h16=> ?_) (fun h16=> ?_)
       ·
        have h16p:=eq_of_beq h16
        refine t6 (fun h17=> ?_) (fun h17=> ?_)
        ·
         have h17p:=eq_of_beq h17
         refine t6 (fun h18=> ?_) (fun h18=> ?_)
         ·
          have h18p:=eq_of_beq h18
          refine t6 (fun h19=> ?_) (fun h19=> ?_)
          ·
           have h19p:=eq_of_beq h19
           refine t6 (fun h20=> ?_) (fun h20=> ?_)
           ·
            have h20p:=eq_of_beq h20
            intro e;injection e with e;subst e
            exact x4 z9 (k:=300) (r:=[]) (hs:=hz [(2,[.fres (.tu [Sa.av (s0.1),.i (s0.2)])]),(5,[.fc]),(2,[.fc]),(5,[.fc]),(1,[.fc]),(1,[.fc]),(1,[.fc,.fc]),(1,[.yes]),(1,[.fres (.tu [Sa.av (s1.1),.i (s1.2.1),.i (s1.2.2)])]),(6,[.fc]),(3,[.fc]),(1,[.fres (.tu [Sm.av (s2.1),.i (s2.2)])]),(5,[.fc]),(2,[.fc]),(1,[.fres (.tu [Sm.av (s3.1),.i (s3.2)])]),(5,[.fc]),(2,[.fc]),(1,[.fres (.tu [Sm.av (s4.1),.i (s4.2)])]),(5,[.fc]),(2,[.fc]),(1,[.fres (.tu [Sm.av (s5.1),.i (s5.2)])]),(5,[.fc]),(5,[.fc]),(1,[.fres (.tu [exs (s6.1),.i (s6.2)])]),(6,[.fc]),(1,[.fres (.tu [exs (s7.1),.i (s7.2)])]),(6,[.fc]),(2,[.fc,.fc]),(2,[.yes]),(1,[.fres (.b (s8))]),(1,[.yes]),(1,[.fc,.yes]),(1,[.yes]),(1,[.fc,.fc,.yes]),(1,[.yes]),(1,[.yes]),(1,[.fres (.b (s10)),.yes]),(4,[.yes]),(1,[.yes]),(1,[.yes]),(1,[.yes]),(1,[.yes]),(1,[.yes]),(1,[.yes]),(1,[.yes]),(1,[.yes]),(1,[.yes]),(1,[.yes]),(1,[.yes]),(1,[.yes]),(1,[.yes]),(1,[.yes]),(1,[.yes]),(1,[.yes]),(1,[.yes]),(1,[.yes]),(1,[.yes]),(1,[.yes]),(1,[.yes]),(1,[.yes]),(1,[.yes]),(1,[.yes]),(1,[.yes]),(1,[.yes]),(1,[.yes]),(1,[])]) (raw:=(AV.b Bool.true)) kq (ac (z1t ((8:Int)) _ h0) (ac (tq (p:=(((0:Nat)=(0:Nat))∧((24:Nat)=(24:Nat))))) (ac (z1s (s0.1) ([(Ch.mk 2 2 3 0 ([]:List UInt8) ([]:List Ex)),(Ch.mk 4 0 0 5 ([]:List UInt8) ([]:List Ex)),(Ch.mk 3 2 1 0 ([]:List UInt8) ([]:List Ex)),(Ch.mk 4 0 0 7 ([]:List UInt8) ([]:List Ex))]) _ h1) (ac (v8 (s1.1) ((0:Int)) ((5:Int)) _ h2) (ac (v8 (s1.1) ((5:Int)) ((7:Int)) _ h3) (ac (v8 (s1.1) ((7:Int)) ((7:Int)) _ h4) (ac (v8 (s1.1) ((0:Int)) ((6:Int)) _ h5) (ac (u9 ((8:Int)) (s0.1.map) (s2.1) ((9:Int)) _ h6) (ac (u9 ((7:Int)) (([]:List Ex)) (s2.1) ((9:Int)) _ h7) (ac (tq (p:=(((0:Nat)=(0:Nat))∧((5:Nat)=(5:Nat))))) (ac (z00 (s2.1) ((Sm.mk 8 0 5 [(Ex.mk 2 3 1 0 ([]:List UInt8))])) _ h8) (ac h9 (ac h9 (ac h9 (ac h9 (ac h9 (ac (tq (p:=(((0:Nat)=(0:Nat))∧((5:Nat)=(5:Nat))))) (ac (z00 (s3.1) ((Sm.mk 8 5 7 [(Ex.mk 2 1 0 0 ([]:List UInt8))])) _ h10) (ac h9 (ac h11 (ac h11 (ac h11 (ac h12 (ac h12 (ac h12 (ac h13 (ac h13 (ac h13 (ac h14 (ac h14 (ac h15 (ac h15 (ac h15 (ac h16 (ac h16 (ac h16 (ac h17 (ac h17 (ac h17 (ac h17 (ac h18 (ac h18 (ac h18 (ac h19 (ac h19 (ac h19 (ac h20 an))))))))))))))))))))))))))))))))))))))))))))))) tq
           ·
            have h20p:=ne_of_beq_false h20
            intro e;injection e with e;subst e
            exact x4 z9 (k:=300) (r:=[]) (hs:=hz [(2,[.fres (.tu [Sa.av (s0.1),.i (s0.2)])]),(5,[.fc]),(2,[.fc]),(5,[.fc]),(1,[.fc]),(1,[.fc]),(1,[.fc,.fc]),(1,[.yes]),(1,[.fres (.tu [Sa.av (s1.1),.i (s1.2.1),.i (s1.2.2)])]),(6,[.fc]),(3,[.fc]),(1,[.fres (.tu [Sm.av (s2.1),.i (s2.2)])]),(5,[.fc]),(2,[.fc]),(1,[.fres (.tu [Sm.av (s3.1),.i (s3.2)])]),(5,[.fc]),(2,[.fc]),(1,[.fres (.tu [Sm.av (s4.1),.i (s4.2)])]),(5,[.fc]),(2,[.fc]),(1,[.fres (.tu [Sm.av (s5.1),.i (s5.2)])]),(5,[.fc]),(5,[.fc]),(1,[.fres (.tu [exs (s6.1),.i (s6.2)])]),(6,[.fc]),(1,[.fres (.tu [exs (s7.1),.i (s7.2)])]),(6,[.fc]),(2,[.fc,.fc]),(2,[.yes]),(1,[.fres (.b (s8))]),(1,[.yes]),(1,[.fc,.yes]),(1,[.yes]),(1,[.fc,.fc,.yes]),(1,[.yes]),(1,[.yes]),(1,[.fres (.b (s10)),.yes]),(4,[.yes]),(1,[.yes]),(1,[.yes]),(1,[.yes]),(1,[.yes]),(1,[.yes]),(1,[.yes]),(1,[.yes]),(1,[.yes]),(1,[.yes]),(1,[.yes]),(1,[.yes]),(1,[.yes]),(1,[.yes]),(1,[.yes]),(1,[.yes]),(1,[.yes]),(1,[.yes]),(1,[.yes]),(1,[.yes]),(1,[.yes]),(1,[.yes]),(1,[.yes]),(1,[.yes]),(1,[.yes]),(1,[.yes]),(1,[.yes]),(1,[.no]),(1,[])]) (raw:=(AV.b Bool.false)) kq (ac (z1t ((8:Int)) _ h0) (ac (tq (p:=(((0:Nat)=(0:Nat))∧((24:Nat)=(24:Nat))))) (ac (z1s (s0.1) ([(Ch.mk 2 2 3 0 ([]:List UInt8) ([]:List Ex)),(Ch.mk 4 0 0 5 ([]:List UInt8) ([]:List Ex)),(Ch.mk 3 2 1 0 ([]:List UInt8) ([]:List Ex)),(Ch.mk 4 0 0 7 ([]:List UInt8) ([]:List Ex))]) _ h1) (ac (v8 (s1.1) ((0:Int)) ((5:Int)) _ h2) (ac (v8 (s1.1) ((5:Int)) ((7:Int)) _ h3) (ac (v8 (s1.1) ((7:Int)) ((7:Int)) _ h4) (ac (v8 (s1.1) ((0:Int)) ((6:Int)) _ h5) (ac (u9 ((8:Int)) (s0.1.map) (s2.1) ((9:Int)) _ h6) (ac (u9 ((7:Int)) (([]:List Ex)) (s2.1) ((9:Int)) _ h7) (ac (tq (p:=(((0:Nat)=(0:Nat))∧((5:Nat)=(5:Nat))))) (ac (z00 (s2.1) ((Sm.mk 8 0 5 [(Ex.mk 2 3 1 0 ([]:List UInt8))])) _ h8) (ac h9 (ac h9 (ac h9 (ac h9 (ac h9 (ac (tq (p:=(((0:Nat)=(0:Nat))∧((5:Nat)=(5:Nat))))) (ac (z00 (s3.1) ((Sm.mk 8 5 7 [(Ex.mk 2 1 0 0 ([]:List UInt8))])) _ h10) (ac h9 (ac h11 (ac h11 (ac h11 (ac h12 (ac h12 (ac h12 (ac h13 (ac h13 (ac h13 (ac h14 (ac h14 (ac h15 (ac h15 (ac h15 (ac h16 (ac h16 (ac h16 (ac h17 (ac h17 (ac h17 (ac h17 (ac h18 (ac h18 (ac h18 (ac h19 (ac h19 (ac h19 (ac h20 an))))))))))))))))))))))))))))))))))))))))))))))) tq
          ·
           have h19p:=ne_of_beq_false h19
           intro e;injection e with e;subst e
           exact x4 z9 (k:=300) (r:=[]) (hs:=hz [(2,[.fres (.tu [Sa.av (s0.1),.i (s0.2)])]),(5,[.fc]),(2,[.fc]),(5,[.fc]),(1,[.fc]),(1,[.fc]),(1,[.fc,.fc]),(1,[.yes]),(1,[.fres (.tu [Sa.av (s1.1),.i (s1.2.1),.i (s1.2.2)])]),(6,[.fc]),(3,[.fc]),(1,[.fres (.tu [Sm.av (s2.1),.i (s2.2)])]),(5,[.fc]),(2,[.fc]),(1,[.fres (.tu [Sm.av (s3.1),.i (s3.2)])]),(5,[.fc]),(2,[.fc]),(1,[.fres (.tu [Sm.av (s4.1),.i (s4.2)])]),(5,[.fc]),(2,[.fc]),(1,[.fres (.tu [Sm.av (s5.1),.i (s5.2)])]),(5,[.fc]),(5,[.fc]),(1,[.fres (.tu [exs (s6.1),.i (s6.2)])]),(6,[.fc]),(1,[.fres (.tu [exs (s7.1),.i (s7.2)])]),(6,[.fc]),(2,[.fc,.fc]),(2,[.yes]),(1,[.fres (.b (s8))]),(1,[.yes]),(1,[.fc,.yes]),(1,[.yes]),(1,[.fc,.fc,.yes]),(1,[.yes]),(1,[.yes]),(1,[.fres (.b (s10)),.yes]),(4,[.yes]),(1,[.yes]),(1,[.yes]),(1,[.yes]),(1,[.yes]),(1,[.yes]),(1,[.yes]),(1,[.yes]),(1,[.yes]),(1,[.yes]),(1,[.yes]),(1,[.yes]),(1,[.yes]),(1,[.yes]),(1,[.yes]),(1,[.yes]),(1,[.yes]),(1,[.yes]),(1,[.yes]),(1,[.yes]),(1,[.yes]),(1,[.yes]),(1,[.yes]),(1,[.yes]),(1,[.no,.no,.no]),(3,[])]) (raw:=(AV.b Bool.false)) kq (ac (z1t ((8:Int)) _ h0) (ac (tq (p:=(((0:Nat)=(0:Nat))∧((24:Nat)=(24:Nat))))) (ac (z1s (s0.1) ([(Ch.mk 2 2 3 0 ([]:List UInt8) ([]:List Ex)),(Ch.mk 4 0 0 5 ([]:List UInt8) ([]:List Ex)),(Ch.mk 3 2 1 0 ([]:List UInt8) ([]:List Ex)),(Ch.mk 4 0 0 7 ([]:List UInt8) ([]:List Ex))]) _ h1) (ac (v8 (s1.1) ((0:Int)) ((5:Int)) _ h2) (ac (v8 (s1.1) ((5:Int)) ((7:Int)) _ h3) (ac (v8 (s1.1) ((7:Int)) ((7:Int)) _ h4) (ac (v8 (s1.1) ((0:Int)) ((6:Int)) _ h5) (ac (u9 ((8:Int)) (s0.1.map) (s2.1) ((9:Int)) _ h6) (ac (u9 ((7:Int)) (([]:List Ex)) (s2.1) ((9:Int)) _ h7) (ac (tq (p:=(((0:Nat)=(0:Nat))∧((5:Nat)=(5:Nat))))) (ac (z00 (s2.1) ((Sm.mk 8 0 5 [(Ex.mk 2 3 1 0 ([]:List UInt8))])) _ h8) (ac h9 (ac h9 (ac h9 (ac h9 (ac h9 (ac (tq (p:=(((0:Nat)=(0:Nat))∧((5:Nat)=(5:Nat))))) (ac (z00 (s3.1) ((Sm.mk 8 5 7 [(Ex.mk 2 1 0 0 ([]:List UInt8))])) _ h10) (ac h9 (ac h11 (ac h11 (ac h11 (ac h12 (ac h12 (ac h12 (ac h13 (ac h13 (ac h13 (ac h14 (ac h14 (ac h15 (ac h15 (ac h15 (ac h16 (ac h16 (ac h16 (ac h17 (ac h17 (ac h17 (ac h17 (ac h18 (ac h18 (ac h18 (ac h19 (ac h19 (ac h19 an)))))))))))))))))))))))))))))))))))))))))))))) tq
         ·
          have h18p:=ne_of_beq_false h18
          intro e;injection e with e;subst e
          exact x4 z9 (k:=300) (r:=[]) (hs:=hz [(2,[.fres (.tu [Sa.av (s0.1),.i (s0.2)])]),(5,[.fc]),(2,[.fc]),(5,[.fc]),(1,[.fc]),(1,[.fc]),(1,[.fc,.fc]),(1,[.yes]),(1,[.fres (.tu [Sa.av (s1.1),.i (s1.2.1),.i (s1.2.2)])]),(6,[.fc]),(3,[.fc]),(1,[.fres (.tu [Sm.av (s2.1),.i (s2.2)])]),(5,[.fc]),(2,[.fc]),(1,[.fres (.tu [Sm.av (s3.1),.i (s3.2)])]),(5,[.fc]),(2,[.fc]),(1,[.fres (.tu [Sm.av (s4.1),.i (s4.2)])]),(5,[.fc]),(2,[.fc]),(1,[.fres (.tu [Sm.av (s5.1),.i (s5.2)])]),(5,[.fc]),(5,[.fc]),(1,[.fres (.tu [exs (s6.1),.i (s6.2)])]),(6,[.fc]),(1,[.fres (.tu [exs (s7.1),.i (s7.2)])]),(6,[.fc]),(2,[.fc,.fc]),(2,[.yes]),(1,[.fres (.b (s8))]),(1,[.yes]),(1,[.fc,.yes]),(1,[.yes]),(1,[.fc,.fc,.yes]),(1,[.yes]),(1,[.yes]),(1,[.fres (.b (s10)),.yes]),(4,[.yes]),(1,[.yes]),(1,[.yes]),(1,[.yes]),(1,[.yes]),(1,[.yes]),(1,[.yes]),(1,[.yes]),(1,[.yes]),(1,[.yes]),(1,[.yes]),(1,[.yes]),(1,[.yes]),(1,[.yes]),(1,[.yes]),(1,[.yes]),(1,[.yes]),(1,[.yes]),(1,[.yes]),(1,[.yes]),(1,[.yes]),(1,[.no,.no,.no]),(7,[])]) (raw:=(AV.b Bool.false)) kq (ac (z1t ((8:Int)) _ h0) (ac (tq (p:=(((0:Nat)=(0:Nat))∧((24:Nat)=(24:Nat))))) (ac (z1s (s0.1) ([(Ch.mk 2 2 3 0 ([]:List UInt8) ([]:List Ex)),(Ch.mk 4 0 0 5 ([]:List UInt8) ([]:List Ex)),(Ch.mk 3 2 1 0 ([]:List UInt8) ([]:List Ex)),(Ch.mk 4 0 0 7 ([]:List UInt8) ([]:List Ex))]) _ h1) (ac (v8 (s1.1) ((0:Int)) ((5:Int)) _ h2) (ac (v8 (s1.1) ((5:Int)) ((7:Int)) _ h3) (ac (v8 (s1.1) ((7:Int)) ((7:Int)) _ h4) (ac (v8 (s1.1) ((0:Int)) ((6:Int)) _ h5) (ac (u9 ((8:Int)) (s0.1.map) (s2.1) ((9:Int)) _ h6) (ac (u9 ((7:Int)) (([]:List Ex)) (s2.1) ((9:Int)) _ h7) (ac (tq (p:=(((0:Nat)=(0:Nat))∧((5:Nat)=(5:Nat))))) (ac (z00 (s2.1) ((Sm.mk 8 0 5 [(Ex.mk 2 3 1 0 ([]:List UInt8))])) _ h8) (ac h9 (ac h9 (ac h9 (ac h9 (ac h9 (ac (tq (p:=(((0:Nat)=(0:Nat))∧((5:Nat)=(5:Nat))))) (ac (z00 (s3.1) ((Sm.mk 8 5 7 [(Ex.mk 2 1 0 0 ([]:List UInt8))])) _ h10) (ac h9 (ac h11 (ac h11 (ac h11 (ac h12 (ac h12 (ac h12 (ac h13 (ac h13 (ac h13 (ac h14 (ac h14 (ac h15 (ac h15 (ac h15 (ac h16 (ac h16 (ac h16 (ac h17 (ac h17 (ac h17 (ac h17 (ac h18 (ac h18 (ac h18 an))))))))))))))))))))))))))))))))))))))))))) tq
        ·
         have h17p:=ne_of_beq_false h17
         intro e;injection e with e;subst e
         exact x4 z9 (k:=300) (r:=[]) (hs:=hz [(2,[.fres (.tu [Sa.av (s0.1),.i (s0.2)])]),(5,[.fc]),(2,[.fc]),(5,[.fc]),(1,[.fc]),(1,[.fc]),(1,[.fc,.fc]),(1,[.yes]),(1,[.fres (.tu [Sa.av (s1.1),.i (s1.2.1),.i (s1.2.2)])]),(6,[.fc]),(3,[.fc]),(1,[.fres (.tu [Sm.av (s2.1),.i (s2.2)])]),(5,[.fc]),(2,[.fc]),(1,[.fres (.tu [Sm.av (s3.1),.i (s3.2)])]),(5,[.fc]),(2,[.fc]),(1,[.fres (.tu [Sm.av (s4.1),.i (s4.2)])]),(5,[.fc]),(2,[.fc]),(1,[.fres (.tu [Sm.av (s5.1),.i (s5.2)])]),(5,[.fc]),(5,[.fc]),(1,[.fres (.tu [exs (s6.1),.i (s6.2)])]),(6,[.fc]),(1,[.fres (.tu [exs (s7.1),.i (s7.2)])]),(6,[.fc]),(2,[.fc,.fc]),(2,[.yes]),(1,[.fres (.b (s8))]),(1,[.yes]),(1,[.fc,.yes]),(1,[.yes]),(1,[.fc,.fc,.yes]),(1,[.yes]),(1,[.yes]),(1,[.fres (.b (s10)),.yes]),(4,[.yes]),(1,[.yes]),(1,[.yes]),(1,[.yes]),(1,[.yes]),(1,[.yes]),(1,[.yes]),(1,[.yes]),(1,[.yes]),(1,[.yes]),(1,[.yes]),(1,[.yes]),(1,[.yes]),(1,[.yes]),(1,[.yes]),(1,[.yes]),(1,[.yes]),(1,[.no,.no,.no,.no]),(11,[])]) (raw:=(AV.b Bool.false)) kq (ac (z1t ((8:Int)) _ h0) (ac (tq (p:=(((0:Nat)=(0:Nat))∧((24:Nat)=(24:Nat))))) (ac (z1s (s0.1) ([(Ch.mk 2 2 3 0 ([]:List UInt8) ([]:List Ex)),(Ch.mk 4 0 0 5 ([]:List UInt8) ([]:List Ex)),(Ch.mk 3 2 1 0 ([]:List UInt8) ([]:List Ex)),(Ch.mk 4 0 0 7 ([]:List UInt8) ([]:List Ex))]) _ h1) (ac (v8 (s1.1) ((0:Int)) ((5:Int)) _ h2) (ac (v8 (s1.1) ((5:Int)) ((7:Int)) _ h3) (ac (v8 (s1.1) ((7:Int)) ((7:Int)) _ h4) (ac (v8 (s1.1) ((0:Int)) ((6:Int)) _ h5) (ac (u9 ((8:Int)) (s0.1.map) (s2.1) ((9:Int)) _ h6) (ac (u9 ((7:Int)) (([]:List Ex)) (s2.1) ((9:Int)) _ h7) (ac (tq (p:=(((0:Nat)=(0:Nat))∧((5:Nat)=(5:Nat))))) (ac (z00 (s2.1) ((Sm.mk 8 0 5 [(Ex.mk 2 3 1 0 ([]:List UInt8))])) _ h8) (ac h9 (ac h9 (ac h9 (ac h9 (ac h9 (ac (tq (p:=(((0:Nat)=(0:Nat))∧((5:Nat)=(5:Nat))))) (ac (z00 (s3.1) ((Sm.mk 8 5 7 [(Ex.mk 2 1 0 0 ([]:List UInt8))])) _ h10) (ac h9 (ac h11 (ac h11 (ac h11 (ac h12 (ac h12 (ac h12 (ac h13 (ac h13 (ac h13 (ac h14 (ac h14 (ac h15 (ac h15 (ac h15 (ac h16 (ac h16 (ac h16 (ac h17 (ac h17 (ac h17 (ac h17 an)))))))))))))))))))))))))))))))))))))))) tq
       ·
        have h16p:=ne_of_beq_false h16
        intro e;injection e with e;subst e
        exact x4 z9 (k:=300) (r:=[]) (hs:=hz [(2,[.fres (.tu [Sa.av (s0.1),.i (s0.2)])]),(5,[.fc]),(2,[.fc]),(5,[.fc]),(1,[.fc]),(1,[.fc]),(1,[.fc,.fc]),(1,[.yes]),(1,[.fres (.tu [Sa.av (s1.1),.i (s1.2.1),.i (s1.2.2)])]),(6,[.fc]),(3,[.fc]),(1,[.fres (.tu [Sm.av (s2.1),.i (s2.2)])]),(5,[.fc]),(2,[.fc]),(1,[.fres (.tu [Sm.av (s3.1),.i (s3.2)])]),(5,[.fc]),(2,[.fc]),(1,[.fres (.tu [Sm.av (s4.1),.i (s4.2)])]),(5,[.fc]),(2,[.fc]),(1,[.fres (.tu [Sm.av (s5.1),.i (s5.2)])]),(5,[.fc]),(5,[.fc]),(1,[.fres (.tu [exs (s6.1),.i (s6.2)])]),(6,[.fc]),(1,[.fres (.tu [exs (s7.1),.i (s7.2)])]),(6,[.fc]),(2,[.fc,.fc]),(2,[.yes]),(1,[.fres (.b (s8))]),(1,[.yes]),(1,[.fc,.yes]),(1,[.yes]),(1,[.fc,.fc,.yes]),(1,[.yes]),(1,[.yes]),(1,[.fres (.b (s10)),.yes]),(4,[.yes]),(1,[.yes]),(1,[.yes]),(1,[.yes]),(1,[.yes]),(1,[.yes]),(1,[.yes]),(1,[.yes]),(1,[.yes]),(1,[.yes]),(1,[.yes]),(1,[.yes]),(1,[.yes]),(1,[.yes]),(1,[.no,.no,.no]),(16,[])]) (raw:=(AV.b Bool.false)) kq (ac (z1t ((8:Int)) _ h0) (ac (tq (p:=(((0:Nat)=(0:Nat))∧((24:Nat)=(24:Nat))))) (ac (z1s (s0.1) ([(Ch.mk 2 2 3 0 ([]:List UInt8) ([]:List Ex)),(Ch.mk 4 0 0 5 ([]:List UInt8) ([]:List Ex)),(Ch.mk 3 2 1 0 ([]:List UInt8) ([]:List Ex)),(Ch.mk 4 0 0 7 ([]:List UInt8) ([]:List Ex))]) _ h1) (ac (v8 (s1.1) ((0:Int)) ((5:Int)) _ h2) (ac (v8 (s1.1) ((5:Int)) ((7:Int)) _ h3) (ac (v8 (s1.1) ((7:Int)) ((7:Int)) _ h4) (ac (v8 (s1.1) ((0:Int)) ((6:Int)) _ h5) (ac (u9 ((8:Int)) (s0.1.map) (s2.1) ((9:Int)) _ h6) (ac (u9 ((7:Int)) (([]:List Ex)) (s2.1) ((9:Int)) _ h7) (ac (tq (p:=(((0:Nat)=(0:Nat))∧((5:Nat)=(5:Nat))))) (ac (z00 (s2.1) ((Sm.mk 8 0 5 [(Ex.mk 2 3 1 0 ([]:List UInt8))])) _ h8) (ac h9 (ac h9 (ac h9 (ac h9 (ac h9 (ac (tq (p:=(((0:Nat)=(0:Nat))∧((5:Nat)=(5:Nat))))) (ac (z00 (s3.1) ((Sm.mk 8 5 7 [(Ex.mk 2 1 0 0 ([]:List UInt8))])) _ h10) (ac h9 (ac h11 (ac h11 (ac h11 (ac h12 (ac h12 (ac h12 (ac h13 (ac h13 (ac h13 (ac h14 (ac h14 (ac h15 (ac h15 (ac h15 (ac h16 (ac h16 (ac h16 an)))))))))))))))))))))))))))))))))))) tq
      ·
       intro e;injection e with e;subst e
       exact x4 z9 (k:=300) (r:=[]) (hs:=hz [(2,[.fres (.tu [Sa.av (s0.1),.i (s0.2)])]),(5,[.fc]),(2,[.fc]),(5,[.fc]),(1,[.fc]),(1,[.fc]),(1,[.fc,.fc]),(1,[.yes]),(1,[.fres (.tu [Sa.av (s1.1),.i (s1.2.1),.i (s1.2.2)])]),(6,[.fc]),(3,[.fc]),(1,[.fres (.tu [Sm.av (s2.1),.i (s2.2)])]),(5,[.fc]),(2,[.fc]),(1,[.fres (.tu [Sm.av (s3.1),.i (s3.2)])]),(5,[.fc]),(2,[.fc]),(1,[.fres (.tu [Sm.av (s4.1),.i (s4.2)])]),(5,[.fc]),(2,[.fc]),(1,[.fres (.tu [Sm.av (s5.1),.i (s5.2)])]),(5,[.fc]),(5,[.fc]),(1,[.fres (.tu [exs (s6.1),.i (s6.2)])]),(6,[.fc]),(1,[.fres (.tu [exs (s7.1),.i (s7.2)])]),(6,[.fc]),(2,[.fc,.fc]),(2,[.yes]),(1,[.fres (.b (s8))]),(1,[.yes]),(1,[.fc,.yes]),(1,[.yes]),(1,[.fc,.fc,.yes]),(1,[.yes]),(1,[.yes]),(1,[.fres (.b (s10)),.yes]),(4,[.yes]),(1,[.yes]),(1,[.yes]),(1,[.yes]),(1,[.yes]),(1,[.yes]),(1,[.yes]),(1,[.yes]),(1,[.yes]),(1,[.yes]),(1,[.yes]),(1,[.no,.no,.no]),(20,[])]) (raw:=(AV.b Bool.false)) kq (ac (z1t ((8:Int)) _ h0) (ac (tq (p:=(((0:Nat)=(0:Nat))∧((24:Nat)=(24:Nat))))) (ac (z1s (s0.1) ([(Ch.mk 2 2 3 0 ([]:List UInt8) ([]:List Ex)),(Ch.mk 4 0 0 5 ([]:List UInt8) ([]:List Ex)),(Ch.mk 3 2 1 0 ([]:List UInt8) ([]:List Ex)),(Ch.mk 4 0 0 7 ([]:List UInt8) ([]:List Ex))]) _ h1) (ac (v8 (s1.1) ((0:Int)) ((5:Int)) _ h2) (ac (v8 (s1.1) ((5:Int)) ((7:Int)) _ h3) (ac (v8 (s1.1) ((7:Int)) ((7:Int)) _ h4) (ac (v8 (s1.1) ((0:Int)) ((6:Int)) _ h5) (ac (u9 ((8:Int)) (s0.1.map) (s2.1) ((9:Int)) _ h6) (ac (u9 ((7:Int)) (([]:List Ex)) (s2.1) ((9:Int)) _ h7) (ac (tq (p:=(((0:Nat)=(0:Nat))∧((5:Nat)=(5:Nat))))) (ac (z00 (s2.1) ((Sm.mk 8 0 5 [(Ex.mk 2 3 1 0 ([]:List UInt8))])) _ h8) (ac h9 (ac h9 (ac h9 (ac h9 (ac h9 (ac (tq (p:=(((0:Nat)=(0:Nat))∧((5:Nat)=(5:Nat))))) (ac (z00 (s3.1) ((Sm.mk 8 5 7 [(Ex.mk 2 1 0 0 ([]:List UInt8))])) _ h10) (ac h9 (ac h11 (ac h11 (ac h11 (ac h12 (ac h12 (ac h12 (ac h13 (ac h13 (ac h13 (ac h14 (ac h14 (ac h15 (ac h15 (ac h15 an))))))))))))))))))))))))))))))))) tq
     ·
      have h14p:=ne_of_beq_false h14
      intro e;injection e with e;subst e
      exact x4 z9 (k:=300) (r:=[]) (hs:=hz [(2,[.fres (.tu [Sa.av (s0.1),.i (s0.2)])]),(5,[.fc]),(2,[.fc]),(5,[.fc]),(1,[.fc]),(1,[.fc]),(1,[.fc,.fc]),(1,[.yes]),(1,[.fres (.tu [Sa.av (s1.1),.i (s1.2.1),.i (s1.2.2)])]),(6,[.fc]),(3,[.fc]),(1,[.fres (.tu [Sm.av (s2.1),.i (s2.2)])]),(5,[.fc]),(2,[.fc]),(1,[.fres (.tu [Sm.av (s3.1),.i (s3.2)])]),(5,[.fc]),(2,[.fc]),(1,[.fres (.tu [Sm.av (s4.1),.i (s4.2)])]),(5,[.fc]),(2,[.fc]),(1,[.fres (.tu [Sm.av (s5.1),.i (s5.2)])]),(5,[.fc]),(5,[.fc]),(1,[.fres (.tu [exs (s6.1),.i (s6.2)])]),(6,[.fc]),(1,[.fres (.tu [exs (s7.1),.i (s7.2)])]),(6,[.fc]),(2,[.fc,.fc]),(2,[.yes]),(1,[.fres (.b (s8))]),(1,[.yes]),(1,[.fc,.yes]),(1,[.yes]),(1,[.fc,.fc,.yes]),(1,[.yes]),(1,[.yes]),(1,[.fres (.b (s10)),.yes]),(4,[.yes]),(1,[.yes]),(1,[.yes]),(1,[.yes]),(1,[.yes]),(1,[.yes]),(1,[.yes]),(1,[.yes]),(1,[.yes]),(1,[.no,.no]),(24,[])]) (raw:=(AV.b Bool.false)) kq (ac (z1t ((8:Int)) _ h0) (ac (tq (p:=(((0:Nat)=(0:Nat))∧((24:Nat)=(24:Nat))))) (ac (z1s (s0.1) ([(Ch.mk 2 2 3 0 ([]:List UInt8) ([]:List Ex)),(Ch.mk 4 0 0 5 ([]:List UInt8) ([]:List Ex)),(Ch.mk 3 2 1 0 ([]:List UInt8) ([]:List Ex)),(Ch.mk 4 0 0 7 ([]:List UInt8) ([]:List Ex))]) _ h1) (ac (v8 (s1.1) ((0:Int)) ((5:Int)) _ h2) (ac (v8 (s1.1) ((5:Int)) ((7:Int)) _ h3) (ac (v8 (s1.1) ((7:Int)) ((7:Int)) _ h4) (ac (v8 (s1.1) ((0:Int)) ((6:Int)) _ h5) (ac (u9 ((8:Int)) (s0.1.map) (s2.1) ((9:Int)) _ h6) (ac (u9 ((7:Int)) (([]:List Ex)) (s2.1) ((9:Int)) _ h7) (ac (tq (p:=(((0:Nat)=(0:Nat))∧((5:Nat)=(5:Nat))))) (ac (z00 (s2.1) ((Sm.mk 8 0 5 [(Ex.mk 2 3 1 0 ([]:List UInt8))])) _ h8) (ac h9 (ac h9 (ac h9 (ac h9 (ac h9 (ac (tq (p:=(((0:Nat)=(0:Nat))∧((5:Nat)=(5:Nat))))) (ac (z00 (s3.1) ((Sm.mk 8 5 7 [(Ex.mk 2 1 0 0 ([]:List UInt8))])) _ h10) (ac h9 (ac h11 (ac h11 (ac h11 (ac h12 (ac h12 (ac h12 (ac h13 (ac h13 (ac h13 (ac h14 (ac h14 an)))))))))))))))))))))))))))))) tq
    ·
     have h13p:=ne_of_beq_false h13
     intro e;injection e with e;subst e
     exact x4 z9 (k:=300) (r:=[]) (hs:=hz [(2,[.fres (.tu [Sa.av (s0.1),.i (s0.2)])]),(5,[.fc]),(2,[.fc]),(5,[.fc]),(1,[.fc]),(1,[.fc]),(1,[.fc,.fc]),(1,[.yes]),(1,[.fres (.tu [Sa.av (s1.1),.i (s1.2.1),.i (s1.2.2)])]),(6,[.fc]),(3,[.fc]),(1,[.fres (.tu [Sm.av (s2.1),.i (s2.2)])]),(5,[.fc]),(2,[.fc]),(1,[.fres (.tu [Sm.av (s3.1),.i (s3.2)])]),(5,[.fc]),(2,[.fc]),(1,[.fres (.tu [Sm.av (s4.1),.i (s4.2)])]),(5,[.fc]),(2,[.fc]),(1,[.fres (.tu [Sm.av (s5.1),.i (s5.2)])]),(5,[.fc]),(5,[.fc]),(1,[.fres (.tu [exs (s6.1),.i (s6.2)])]),(6,[.fc]),(1,[.fres (.tu [exs (s7.1),.i (s7.2)])]),(6,[.fc]),(2,[.fc,.fc]),(2,[.yes]),(1,[.fres (.b (s8))]),(1,[.yes]),(1,[.fc,.yes]),(1,[.yes]),(1,[.fc,.fc,.yes]),(1,[.yes]),(1,[.yes]),(1,[.fres (.b (s10)),.yes]),(4,[.yes]),(1,[.yes]),(1,[.yes]),(1,[.yes]),(1,[.yes]),(1,[.yes]),(1,[.no,.no,.no]),(27,[])]) (raw:=(AV.b Bool.false)) kq (ac (z1t ((8:Int)) _ h0) (ac (tq (p:=(((0:Nat)=(0:Nat))∧((24:Nat)=(24:Nat))))) (ac (z1s (s0.1) ([(Ch.mk 2 2 3 0 ([]:List UInt8) ([]:List Ex)),(Ch.mk 4 0 0 5 ([]:List UInt8) ([]:List Ex)),(Ch.mk 3 2 1 0 ([]:List UInt8) ([]:List Ex)),(Ch.mk 4 0 0 7 ([]:List UInt8) ([]:List Ex))]) _ h1) (ac (v8 (s1.1) ((0:Int)) ((5:Int)) _ h2) (ac (v8 (s1.1) ((5:Int)) ((7:Int)) _ h3) (ac (v8 (s1.1) ((7:Int)) ((7:Int)) _ h4) (ac (v8 (s1.1) ((0:Int)) ((6:Int)) _ h5) (ac (u9 ((8:Int)) (s0.1.map) (s2.1) ((9:Int)) _ h6) (ac (u9 ((7:Int)) (([]:List Ex)) (s2.1) ((9:Int)) _ h7) (ac (tq (p:=(((0:Nat)=(0:Nat))∧((5:Nat)=(5:Nat))))) (ac (z00 (s2.1) ((Sm.mk 8 0 5 [(Ex.mk 2 3 1 0 ([]:List UInt8))])) _ h8) (ac h9 (ac h9 (ac h9 (ac h9 (ac h9 (ac (tq (p:=(((0:Nat)=(0:Nat))∧((5:Nat)=(5:Nat))))) (ac (z00 (s3.1) ((Sm.mk 8 5 7 [(Ex.mk 2 1 0 0 ([]:List UInt8))])) _ h10) (ac h9 (ac h11 (ac h11 (ac h11 (ac h12 (ac h12 (ac h12 (ac h13 (ac h13 (ac h13 an)))))))))))))))))))))))))))) tq
   ·
    have h12p:=ne_of_beq_false h12
    intro e;injection e with e;subst e
    exact x4 z9 (k:=300) (r:=[]) (hs:=hz [(2,[.fres (.tu [Sa.av (s0.1),.i (s0.2)])]),(5,[.fc]),(2,[.fc]),(5,[.fc]),(1,[.fc]),(1,[.fc]),(1,[.fc,.fc]),(1,[.yes]),(1,[.fres (.tu [Sa.av (s1.1),.i (s1.2.1),.i (s1.2.2)])]),(6,[.fc]),(3,[.fc]),(1,[.fres (.tu [Sm.av (s2.1),.i (s2.2)])]),(5,[.fc]),(2,[.fc]),(1,[.fres (.tu [Sm.av (s3.1),.i (s3.2)])]),(5,[.fc]),(2,[.fc]),(1,[.fres (.tu [Sm.av (s4.1),.i (s4.2)])]),(5,[.fc]),(2,[.fc]),(1,[.fres (.tu [Sm.av (s5.1),.i (s5.2)])]),(5,[.fc]),(5,[.fc]),(1,[.fres (.tu [exs (s6.1),.i (s6.2)])]),(6,[.fc]),(1,[.fres (.tu [exs (s7.1),.i (s7.2)])]),(6,[.fc]),(2,[.fc,.fc]),(2,[.yes]),(1,[.fres (.b (s8))]),(1,[.yes]),(1,[.fc,.yes]),(1,[.yes]),(1,[.fc,.fc,.yes]),(1,[.yes]),(1,[.yes]),(1,[.fres (.b (s10)),.yes]),(4,[.yes]),(1,[.yes]),(1,[.yes]),(1,[.no,.no,.no]),(31,[])]) (raw:=(AV.b Bool.false)) kq (ac (z1t ((8:Int)) _ h0) (ac (tq (p:=(((0:Nat)=(0:Nat))∧((24:Nat)=(24:Nat))))) (ac (z1s (s0.1) ([(Ch.mk 2 2 3 0 ([]:List UInt8) ([]:List Ex)),(Ch.mk 4 0 0 5 ([]:List UInt8) ([]:List Ex)),(Ch.mk 3 2 1 0 ([]:List UInt8) ([]:List Ex)),(Ch.mk 4 0 0 7 ([]:List UInt8) ([]:List Ex))]) _ h1) (ac (v8 (s1.1) ((0:Int)) ((5:Int)) _ h2) (ac (v8 (s1.1) ((5:Int)) ((7:Int)) _ h3) (ac (v8 (s1.1) ((7:Int)) ((7:Int)) _ h4) (ac (v8 (s1.1) ((0:Int)) ((6:Int)) _ h5) (ac (u9 ((8:Int)) (s0.1.map) (s2.1) ((9:Int)) _ h6) (ac (u9 ((7:Int)) (([]:List Ex)) (s2.1) ((9:Int)) _ h7) (ac (tq (p:=(((0:Nat)=(0:Nat))∧((5:Nat)=(5:Nat))))) (ac (z00 (s2.1) ((Sm.mk 8 0 5 [(Ex.mk 2 3 1 0 ([]:List UInt8))])) _ h8) (ac h9 (ac h9 (ac h9 (ac h9 (ac h9 (ac (tq (p:=(((0:Nat)=(0:Nat))∧((5:Nat)=(5:Nat))))) (ac (z00 (s3.1) ((Sm.mk 8 5 7 [(Ex.mk 2 1 0 0 ([]:List UInt8))])) _ h10) (ac h9 (ac h11 (ac h11 (ac h11 (ac h12 (ac h12 (ac h12 an))))))))))))))))))))))))) tq
  ·
   have h11p:=ne_of_beq_false h11
   intro e;injection e with e;subst e
   exact x4 z9 (k:=300) (r:=[]) (hs:=hz [(2,[.fres (.tu [Sa.av (s0.1),.i (s0.2)])]),(5,[.fc]),(2,[.fc]),(5,[.fc]),(1,[.fc]),(1,[.fc]),(1,[.fc,.fc]),(1,[.yes]),(1,[.fres (.tu [Sa.av (s1.1),.i (s1.2.1),.i (s1.2.2)])]),(6,[.fc]),(3,[.fc]),(1,[.fres (.tu [Sm.av (s2.1),.i (s2.2)])]),(5,[.fc]),(2,[.fc]),(1,[.fres (.tu [Sm.av (s3.1),.i (s3.2)])]),(5,[.fc]),(2,[.fc]),(1,[.fres (.tu [Sm.av (s4.1),.i (s4.2)])]),(5,[.fc]),(2,[.fc]),(1,[.fres (.tu [Sm.av (s5.1),.i (s5.2)])]),(5,[.fc]),(5,[.fc]),(1,[.fres (.tu [exs (s6.1),.i (s6.2)])]),(6,[.fc]),(1,[.fres (.tu [exs (s7.1),.i (s7.2)])]),(6,[.fc]),(2,[.fc,.fc]),(2,[.yes]),(1,[.fres (.b (s8))]),(1,[.yes]),(1,[.fc,.yes]),(1,[.yes]),(1,[.fc,.fc,.yes]),(1,[.yes]),(1,[.yes]),(1,[.fres (.b (s10)),.yes]),(4,[.no,.no,.no]),(35,[])]) (raw:=(AV.b Bool.false)) kq (ac (z1t ((8:Int)) _ h0) (ac (tq (p:=(((0:Nat)=(0:Nat))∧((24:Nat)=(24:Nat))))) (ac (z1s (s0.1) ([(Ch.mk 2 2 3 0 ([]:List UInt8) ([]:List Ex)),(Ch.mk 4 0 0 5 ([]:List UInt8) ([]:List Ex)),(Ch.mk 3 2 1 0 ([]:List UInt8) ([]:List Ex)),(Ch.mk 4 0 0 7 ([]:List UInt8) ([]:List Ex))]) _ h1) (ac (v8 (s1.1) ((0:Int)) ((5:Int)) _ h2) (ac (v8 (s1.1) ((5:Int)) ((7:Int)) _ h3) (ac (v8 (s1.1) ((7:Int)) ((7:Int)) _ h4) (ac (v8 (s1.1) ((0:Int)) ((6:Int)) _ h5) (ac (u9 ((8:Int)) (s0.1.map) (s2.1) ((9:Int)) _ h6) (ac (u9 ((7:Int)) (([]:List Ex)) (s2.1) ((9:Int)) _ h7) (ac (tq (p:=(((0:Nat)=(0:Nat))∧((5:Nat)=(5:Nat))))) (ac (z00 (s2.1) ((Sm.mk 8 0 5 [(Ex.mk 2 3 1 0 ([]:List UInt8))])) _ h8) (ac h9 (ac h9 (ac h9 (ac h9 (ac h9 (ac (tq (p:=(((0:Nat)=(0:Nat))∧((5:Nat)=(5:Nat))))) (ac (z00 (s3.1) ((Sm.mk 8 5 7 [(Ex.mk 2 1 0 0 ([]:List UInt8))])) _ h10) (ac h9 (ac h11 (ac h11 (ac h11 an)))))))))))))))))))))) tq
 ·
  refine t6 (fun h10=> ?_) (fun h10=> ?_)
  ·
   have h10p:=eq_of_beq h10
   refine t6 (fun h11=> ?_) (fun h11=> ?_)
   ·
    have h11p:=eq_of_beq h11
    refine t6 (fun h12=> ?_) (fun h12=> ?_)
    ·
     have h12p:=eq_of_beq h12
     refine t6 (fun h13=> ?_) (fun h13=> ?_)
     ·
      have h13p:=eq_of_beq h13
      intro e;injection e with e;subst e
      exact x4 z9 (k:=300) (r:=[]) (hs:=hz [(2,[.fres (.tu [Sa.av (s0.1),.i (s0.2)])]),(5,[.fc]),(2,[.fc]),(5,[.fc]),(1,[.fc]),(1,[.fc]),(1,[.fc,.fc]),(1,[.yes]),(1,[.fres (.tu [Sa.av (s1.1),.i (s1.2.1),.i (s1.2.2)])]),(6,[.fc]),(3,[.fc]),(1,[.fres (.tu [Sm.av (s2.1),.i (s2.2)])]),(5,[.fc]),(2,[.fc]),(1,[.fres (.tu [Sm.av (s3.1),.i (s3.2)])]),(5,[.fc]),(2,[.fc]),(1,[.fres (.tu [Sm.av (s4.1),.i (s4.2)])]),(5,[.fc]),(2,[.fc]),(1,[.fres (.tu [Sm.av (s5.1),.i (s5.2)])]),(5,[.fc]),(5,[.fc]),(1,[.fres (.tu [exs (s6.1),.i (s6.2)])]),(6,[.fc]),(1,[.fres (.tu [exs (s7.1),.i (s7.2)])]),(6,[.fc]),(2,[.fc,.fc]),(2,[.yes]),(1,[.fres (.b (s8))]),(1,[.no,.no,.no,.no,.no,.no]),(4,[.yes]),(1,[.yes]),(1,[.yes]),(1,[.yes]),(1,[.yes]),(1,[.yes]),(1,[.yes]),(1,[.yes]),(1,[.yes]),(1,[.yes]),(1,[.yes]),(24,[])]) (raw:=(AV.b Bool.false)) kq (ac (z1t ((8:Int)) _ h0) (ac (tq (p:=(((0:Nat)=(0:Nat))∧((24:Nat)=(24:Nat))))) (ac (z1s (s0.1) ([(Ch.mk 2 2 3 0 ([]:List UInt8) ([]:List Ex)),(Ch.mk 4 0 0 5 ([]:List UInt8) ([]:List Ex)),(Ch.mk 3 2 1 0 ([]:List UInt8) ([]:List Ex)),(Ch.mk 4 0 0 7 ([]:List UInt8) ([]:List Ex))]) _ h1) (ac (v8 (s1.1) ((0:Int)) ((5:Int)) _ h2) (ac (v8 (s1.1) ((5:Int)) ((7:Int)) _ h3) (ac (v8 (s1.1) ((7:Int)) ((7:Int)) _ h4) (ac (v8 (s1.1) ((0:Int)) ((6:Int)) _ h5) (ac (u9 ((8:Int)) (s0.1.map) (s2.1) ((9:Int)) _ h6) (ac (u9 ((7:Int)) (([]:List Ex)) (s2.1) ((9:Int)) _ h7) (ac (tq (p:=(((0:Nat)=(0:Nat))∧((5:Nat)=(5:Nat))))) (ac (z00 (s2.1) ((Sm.mk 8 0 5 [(Ex.mk 2 3 1 0 ([]:List UInt8))])) _ h8) (ac h9 (ac h9 (ac h9 (ac h9 (ac h9 (ac h9 (ac h10 (ac h10 (ac h10 (ac h11 (ac h11 (ac h11 (ac h12 (ac h12 (ac h12 (ac h13 (ac h13 an)))))))))))))))))))))))))))) tq
     ·
      have h13p:=ne_of_beq_false h13
      intro e;injection e with e;subst e
      exact x4 z9 (k:=300) (r:=[]) (hs:=hz [(2,[.fres (.tu [Sa.av (s0.1),.i (s0.2)])]),(5,[.fc]),(2,[.fc]),(5,[.fc]),(1,[.fc]),(1,[.fc]),(1,[.fc,.fc]),(1,[.yes]),(1,[.fres (.tu [Sa.av (s1.1),.i (s1.2.1),.i (s1.2.2)])]),(6,[.fc]),(3,[.fc]),(1,[.fres (.tu [Sm.av (s2.1),.i (s2.2)])]),(5,[.fc]),(2,[.fc]),(1,[.fres (.tu [Sm.av (s3.1),.i (s3.2)])]),(5,[.fc]),(2,[.fc]),(1,[.fres (.tu [Sm.av (s4.1),.i (s4.2)])]),(5,[.fc]),(2,[.fc]),(1,[.fres (.tu [Sm.av (s5.1),.i (s5.2)])]),(5,[.fc]),(5,[.fc]),(1,[.fres (.tu [exs (s6.1),.i (s6.2)])]),(6,[.fc]),(1,[.fres (.tu [exs (s7.1),.i (s7.2)])]),(6,[.fc]),(2,[.fc,.fc]),(2,[.yes]),(1,[.fres (.b (s8))]),(1,[.no,.no,.no,.no,.no,.no]),(4,[.yes]),(1,[.yes]),(1,[.yes]),(1,[.yes]),(1,[.yes]),(1,[.yes]),(1,[.yes]),(1,[.yes]),(1,[.yes]),(1,[.no,.no]),(24,[])]) (raw:=(AV.b Bool.false)) kq (ac (z1t ((8:Int)) _ h0) (ac (tq (p:=(((0:Nat)=(0:Nat))∧((24:Nat)=(24:Nat))))) (ac (z1s (s0.1) ([(Ch.mk 2 2 3 0 ([]:List UInt8) ([]:List Ex)),(Ch.mk 4 0 0 5 ([]:List UInt8) ([]:List Ex)),(Ch.mk 3 2 1 0 ([]:List UInt8) ([]:List Ex)),(Ch.mk 4 0 0 7 ([]:List UInt8) ([]:List Ex))]) _ h1) (ac (v8 (s1.1) ((0:Int)) ((5:Int)) _ h2) (ac (v8 (s1.1) ((5:Int)) ((7:Int)) _ h3) (ac (v8 (s1.1) ((7:Int)) ((7:Int)) _ h4) (ac (v8 (s1.1) ((0:Int)) ((6:Int)) _ h5) (ac (u9 ((8:Int)) (s0.1.map) (s2.1) ((9:Int)) _ h6) (ac (u9 ((7:Int)) (([]:List Ex)) (s2.1) ((9:Int)) _ h7) (ac (tq (p:=(((0:Nat)=(0:Nat))∧((5:Nat)=(5:Nat))))) (ac (z00 (s2.1) ((Sm.mk 8 0 5 [(Ex.mk 2 3 1 0 ([]:List UInt8))])) _ h8) (ac h9 (ac h9 (ac h9 (ac h9 (ac h9 (ac h9 (ac h10 (ac h10 (ac h10 (ac h11 (ac h11 (ac h11 (ac h12 (ac h12 (ac h12 (ac h13 (ac h13 an)))))))))))))))))))))))))))) tq
    ·
     have h12p:=ne_of_beq_false h12
     intro e;injection e with e;subst e
     exact x4 z9 (k:=300) (r:=[]) (hs:=hz [(2,[.fres (.tu [Sa.av (s0.1),.i (s0.2)])]),(5,[.fc]),(2,[.fc]),(5,[.fc]),(1,[.fc]),(1,[.fc]),(1,[.fc,.fc]),(1,[.yes]),(1,[.fres (.tu [Sa.av (s1.1),.i (s1.2.1),.i (s1.2.2)])]),(6,[.fc]),(3,[.fc]),(1,[.fres (.tu [Sm.av (s2.1),.i (s2.2)])]),(5,[.fc]),(2,[.fc]),(1,[.fres (.tu [Sm.av (s3.1),.i (s3.2)])]),(5,[.fc]),(2,[.fc]),(1,[.fres (.tu [Sm.av (s4.1),.i (s4.2)])]),(5,[.fc]),(2,[.fc]),(1,[.fres (.tu [Sm.av (s5.1),.i (s5.2)])]),(5,[.fc]),(5,[.fc]),(1,[.fres (.tu [exs (s6.1),.i (s6.2)])]),(6,[.fc]),(1,[.fres (.tu [exs (s7.1),.i (s7.2)])]),(6,[.fc]),(2,[.fc,.fc]),(2,[.yes]),(1,[.fres (.b (s8))]),(1,[.no,.no,.no,.no,.no,.no]),(4,[.yes]),(1,[.yes]),(1,[.yes]),(1,[.yes]),(1,[.yes]),(1,[.yes]),(1,[.no,.no,.no]),(27,[])]) (raw:=(AV.b Bool.false)) kq (ac (z1t ((8:Int)) _ h0) (ac (tq (p:=(((0:Nat)=(0:Nat))∧((24:Nat)=(24:Nat))))) (ac (z1s (s0.1) ([(Ch.mk 2 2 3 0 ([]:List UInt8) ([]:List Ex)),(Ch.mk 4 0 0 5 ([]:List UInt8) ([]:List Ex)),(Ch.mk 3 2 1 0 ([]:List UInt8) ([]:List Ex)),(Ch.mk 4 0 0 7 ([]:List UInt8) ([]:List Ex))]) _ h1) (ac (v8 (s1.1) ((0:Int)) ((5:Int)) _ h2) (ac (v8 (s1.1) ((5:Int)) ((7:Int)) _ h3) (ac (v8 (s1.1) ((7:Int)) ((7:Int)) _ h4) (ac (v8 (s1.1) ((0:Int)) ((6:Int)) _ h5) (ac (u9 ((8:Int)) (s0.1.map) (s2.1) ((9:Int)) _ h6) (ac (u9 ((7:Int)) (([]:List Ex)) (s2.1) ((9:Int)) _ h7) (ac (tq (p:=(((0:Nat)=(0:Nat))∧((5:Nat)=(5:Nat))))) (ac (z00 (s2.1) ((Sm.mk 8 0 5 [(Ex.mk 2 3 1 0 ([]:List UInt8))])) _ h8) (ac h9 (ac h9 (ac h9 (ac h9 (ac h9 (ac h9 (ac h10 (ac h10 (ac h10 (ac h11 (ac h11 (ac h11 (ac h12 (ac h12 (ac h12 an)))))))))))))))))))))))))) tq
   ·
    have h11p:=ne_of_beq_false h11
    intro e;injection e with e;subst e
    exact x4 z9 (k:=300) (r:=[]) (hs:=hz [(2,[.fres (.tu [Sa.av (s0.1),.i (s0.2)])]),(5,[.fc]),(2,[.fc]),(5,[.fc]),(1,[.fc]),(1,[.fc]),(1,[.fc,.fc]),(1,[.yes]),(1,[.fres (.tu [Sa.av (s1.1),.i (s1.2.1),.i (s1.2.2)])]),(6,[.fc]),(3,[.fc]),(1,[.fres (.tu [Sm.av (s2.1),.i (s2.2)])]),(5,[.fc]),(2,[.fc]),(1,[.fres (.tu [Sm.av (s3.1),.i (s3.2)])]),(5,[.fc]),(2,[.fc]),(1,[.fres (.tu [Sm.av (s4.1),.i (s4.2)])]),(5,[.fc]),(2,[.fc]),(1,[.fres (.tu [Sm.av (s5.1),.i (s5.2)])]),(5,[.fc]),(5,[.fc]),(1,[.fres (.tu [exs (s6.1),.i (s6.2)])]),(6,[.fc]),(1,[.fres (.tu [exs (s7.1),.i (s7.2)])]),(6,[.fc]),(2,[.fc,.fc]),(2,[.yes]),(1,[.fres (.b (s8))]),(1,[.no,.no,.no,.no,.no,.no]),(4,[.yes]),(1,[.yes]),(1,[.yes]),(1,[.no,.no,.no]),(31,[])]) (raw:=(AV.b Bool.false)) kq (ac (z1t ((8:Int)) _ h0) (ac (tq (p:=(((0:Nat)=(0:Nat))∧((24:Nat)=(24:Nat))))) (ac (z1s (s0.1) ([(Ch.mk 2 2 3 0 ([]:List UInt8) ([]:List Ex)),(Ch.mk 4 0 0 5 ([]:List UInt8) ([]:List Ex)),(Ch.mk 3 2 1 0 ([]:List UInt8) ([]:List Ex)),(Ch.mk 4 0 0 7 ([]:List UInt8) ([]:List Ex))]) _ h1) (ac (v8 (s1.1) ((0:Int)) ((5:Int)) _ h2) (ac (v8 (s1.1) ((5:Int)) ((7:Int)) _ h3) (ac (v8 (s1.1) ((7:Int)) ((7:Int)) _ h4) (ac (v8 (s1.1) ((0:Int)) ((6:Int)) _ h5) (ac (u9 ((8:Int)) (s0.1.map) (s2.1) ((9:Int)) _ h6) (ac (u9 ((7:Int)) (([]:List Ex)) (s2.1) ((9:Int)) _ h7) (ac (tq (p:=(((0:Nat)=(0:Nat))∧((5:Nat)=(5:Nat))))) (ac (z00 (s2.1) ((Sm.mk 8 0 5 [(Ex.mk 2 3 1 0 ([]:List UInt8))])) _ h8) (ac h9 (ac h9 (ac h9 (ac h9 (ac h9 (ac h9 (ac h10 (ac h10 (ac h10 (ac h11 (ac h11 (ac h11 an))))))))))))))))))))))) tq
  ·
   have h10p:=ne_of_beq_false h10
   intro e;injection e with e;subst e
   exact x4 z9 (k:=300) (r:=[]) (hs:=hz [(2,[.fres (.tu [Sa.av (s0.1),.i (s0.2)])]),(5,[.fc]),(2,[.fc]),(5,[.fc]),(1,[.fc]),(1,[.fc]),(1,[.fc,.fc]),(1,[.yes]),(1,[.fres (.tu [Sa.av (s1.1),.i (s1.2.1),.i (s1.2.2)])]),(6,[.fc]),(3,[.fc]),(1,[.fres (.tu [Sm.av (s2.1),.i (s2.2)])]),(5,[.fc]),(2,[.fc]),(1,[.fres (.tu [Sm.av (s3.1),.i (s3.2)])]),(5,[.fc]),(2,[.fc]),(1,[.fres (.tu [Sm.av (s4.1),.i (s4.2)])]),(5,[.fc]),(2,[.fc]),(1,[.fres (.tu [Sm.av (s5.1),.i (s5.2)])]),(5,[.fc]),(5,[.fc]),(1,[.fres (.tu [exs (s6.1),.i (s6.2)])]),(6,[.fc]),(1,[.fres (.tu [exs (s7.1),.i (s7.2)])]),(6,[.fc]),(2,[.fc,.fc]),(2,[.yes]),(1,[.fres (.b (s8))]),(1,[.no,.no,.no,.no,.no,.no]),(4,[.no,.no,.no]),(35,[])]) (raw:=(AV.b Bool.false)) kq (ac (z1t ((8:Int)) _ h0) (ac (tq (p:=(((0:Nat)=(0:Nat))∧((24:Nat)=(24:Nat))))) (ac (z1s (s0.1) ([(Ch.mk 2 2 3 0 ([]:List UInt8) ([]:List Ex)),(Ch.mk 4 0 0 5 ([]:List UInt8) ([]:List Ex)),(Ch.mk 3 2 1 0 ([]:List UInt8) ([]:List Ex)),(Ch.mk 4 0 0 7 ([]:List UInt8) ([]:List Ex))]) _ h1) (ac (v8 (s1.1) ((0:Int)) ((5:Int)) _ h2) (ac (v8 (s1.1) ((5:Int)) ((7:Int)) _ h3) (ac (v8 (s1.1) ((7:Int)) ((7:Int)) _ h4) (ac (v8 (s1.1) ((0:Int)) ((6:Int)) _ h5) (ac (u9 ((8:Int)) (s0.1.map) (s2.1) ((9:Int)) _ h6) (ac (u9 ((7:Int)) (([]:List Ex)) (s2.1) ((9:Int)) _ h7) (ac (tq (p:=(((0:Nat)=(0:Nat))∧((5:Nat)=(5:Nat))))) (ac (z00 (s2.1) ((Sm.mk 8 0 5 [(Ex.mk 2 3 1 0 ([]:List UInt8))])) _ h8) (ac h9 (ac h9 (ac h9 (ac h9 (ac h9 (ac h9 (ac h10 (ac h10 (ac h10 an)))))))))))))))))))) tq
end Ab
end Go.Proofs.Ytpflcogplhigcaa
namespace Go.Proofs.Ytpflcogplhigcaa
open Go Go.Proofs.Ytpflcogplhigcaa.Ab
set_option linter.unusedVariables false
set_option linter.unusedSimpArgs false
set_option maxRecDepth 1000000
set_option maxHeartbeats 0
namespace Ab
noncomputable abbrev z5f (blocks:UInt8) (ahead:List Ch) (l:List Ch) (s0:Bool) (s1:Sa×Int):St:=(St.mk [(0,(AV.y blocks)),(1,(AV.sl ahead.length (ahead.flatMap Ch.cells))),(2,(AV.sl l.length (l.flatMap Ch.cells))),(6,(AV.b false)),(27,(AV.b s0)),(7,(AV.b s0)),(28,(AV.y blocks)),(29,(AV.i (wr (↑(UInt8.toNat blocks):Int)))),(30,(AV.i (Int.tmod (wr (↑(UInt8.toNat blocks):Int)) (64:Int)))),(31,(AV.i (wr ((1:Int)+(Int.tmod (wr (↑(UInt8.toNat blocks):Int)) (64:Int)))))),(8,(AV.i (wr ((1:Int)+(Int.tmod (wr (↑(UInt8.toNat blocks):Int)) (64:Int)))))),(33,(AV.i (wr ((1:Int)+(Int.tmod (wr (↑(UInt8.toNat blocks):Int)) (64:Int)))))),(34,(AV.tu [(AV.ag [(AV.i s1.1.blocks),(AV.i s1.1.gen),(exs s1.1.map),(AV.sl s1.1.points.length (s1.1.points.flatMap Po.cells)),(AV.i s1.1.last),(bys s1.1.staged)]),(AV.i s1.2)])),(32,(AV.tu [(AV.ag [(AV.i s1.1.blocks),(AV.i s1.1.gen),(exs s1.1.map),(AV.sl s1.1.points.length (s1.1.points.flatMap Po.cells)),(AV.i s1.1.last),(bys s1.1.staged)]),(AV.i s1.2)])),(35,(AV.ag [(AV.i s1.1.blocks),(AV.i s1.1.gen),(exs s1.1.map),(AV.sl s1.1.points.length (s1.1.points.flatMap Po.cells)),(AV.i s1.1.last),(bys s1.1.staged)])),(36,(AV.i s1.2)),(9,(AV.pt 0 0)),(10,(AV.i s1.2)),(37,(AV.sl ahead.length (ahead.flatMap Ch.cells))),(38,(AV.i (ahead.length:Int))),(39,(AV.b (decide ((ahead.length:Int) > (30:Int))))),(40,(AV.b (decide ((ahead.length:Int) > (30:Int))))),(41,(AV.sl l.length (l.flatMap Ch.cells))),(42,(AV.i (l.length:Int))),(43,(AV.b (decide ((l.length:Int) > (30:Int))))),(44,(AV.b (decide ((l.length:Int) > (30:Int))))),(11,(AV.i 0))] 203 (AH.mk 1 [(0,(AObj.cells [(AV.i s1.1.blocks),(AV.i s1.1.gen),(exs s1.1.map),(AV.sl s1.1.points.length (s1.1.points.flatMap Po.cells)),(AV.i s1.1.last),(bys s1.1.staged)]))]) false)
noncomputable abbrev z0p (ahead:List Ch) (l:List Ch) (s0:Bool) (s4:Int×Int×Int×List Ex×List Po×Int×List UInt8):St:=(St.mk [(1,(AV.sl ahead.length (ahead.flatMap Ch.cells))),(2,(AV.sl l.length (l.flatMap Ch.cells))),(7,(AV.b s0)),(9,(AV.pt 0 0)),(11,(AV.i s4.1))] 203 (AH.mk 1 [(0,(AObj.cells [(AV.i s4.2.1),(AV.i s4.2.2.1),(exs s4.2.2.2.1),(pos s4.2.2.2.2.1),(AV.i s4.2.2.2.2.2.1),(bys s4.2.2.2.2.2.2)]))]) false)
noncomputable def z0u (ahead:List Ch) (l:List Ch) (s0:Bool) (s4:Int×Int×Int×List Ex×List Po×Int×List UInt8):Option (Int×Int×Int×List Ex×List Po×Int×List UInt8):=
 (tb ((decide (s4.1 < (ahead.length:Int)))) (tp ((((0:Int)≤s4.1)∧(s4.1 < (ahead.length:Int)))) (tc (sDo ((Sa.mk s4.2.1 s4.2.2.1 s4.2.2.2.1 s4.2.2.2.2.1 s4.2.2.2.2.2.1 s4.2.2.2.2.2.2)) ((d7 ahead s4.1.toNat))) fun s7=> (some (((wr (s4.1+(1:Int))),(s7.1.blocks,(s7.1.gen,(s7.1.map,(s7.1.points,(s7.1.last,s7.1.staged)))))))))) none)
theorem z4d (ahead:List Ch) (l:List Ch) (s0:Bool) (s4 zz:Int×Int×Int×List Ex×List Po×Int×List UInt8):z0u ahead l s0 s4=some zz→u7 Try.prog cf 1 (lp Try.prog 6 0) (z0p ahead l s0 s4) (z0p ahead l s0 zz):=by
 unfold z0u
 exact tbD (fun h5 h5p=> x8 fun h6=> w6 fun s7 h7=> by intro e;injection e with e;subst e;exact z1f z9 (k:=300) (r:=[]) (hs:=hz [(4,[.yes]),(1,[.fc]),(2,[.yes,.yes,.cells ((Ch.cells (d7 ahead s4.1.toNat)))]),(1,[.fres (.tu [Sa.av (s7.1),.i (s7.2)])]),(5,[.fc]),(1,[.yes]),(1,[.fc]),(1,[.fc]),(3,[])]) (ks:=[1,2,7,9,11]) (bs:=[0]) kq (ac h5 (ac h6 (ac (fq (p:=((6:Nat)≤(List.length (List.drop (s4.1.toNat*6) (ahead.flatMap Ch.cells)))))) (ac (show (List.take 6 (List.drop (s4.1.toNat*6) (ahead.flatMap Ch.cells)))=(Ch.cells (d7 ahead s4.1.toNat)) from (z8h bq bq)) (ac (z5z ((Sa.mk s4.2.1 s4.2.2.1 s4.2.2.2.1 s4.2.2.2.2.1 s4.2.2.2.2.2.1 s4.2.2.2.2.2.2)) ((d7 ahead s4.1.toNat)) _ h7) (ac (show z8 (rg Try.prog 6 0)=true∧x7 (Region.before (rg Try.prog 6 0)) [] 0 [(some [0],some []),(some [],some []),(some [],some []),(some [],some []),(some [],some []),(some [],some []),(some [],some []),(some [],some []),(some [],some []),(some [],some [1]),(some [1],some [1]),(some [],some [])]=true from (x0 zxo zxt kq)) an)))))) kq) fun h5 h5p=> u6
noncomputable abbrev z3i (l:List Ch) (s0:Bool) (s4:Int×Int×Int×List Ex×List Po×Int×List UInt8) (s6:Sa×Int) (s7:List Bool×Int×Int×Int×List Ex×List Po×Int×List UInt8) (s11:Sa×Int):St:=(St.mk [(2,(AV.sl l.length (l.flatMap Ch.cells))),(7,(AV.b s0)),(9,(AV.pt 0 0)),(14,(AV.i (wr (s4.2.2.2.2.2.1+(1:Int))))),(15,(AV.i s6.2)),(16,(AV.pt 1 0)),(17,(AV.i s7.2.1)),(73,(AV.i s7.2.1)),(74,(AV.sl l.length (l.flatMap Ch.cells))),(75,(AV.i (l.length:Int))),(76,(AV.b (decide (s7.2.1 < (l.length:Int))))),(79,(AV.sl l.length (l.flatMap Ch.cells))),(80,(AV.i s7.2.1)),(81,(AV.ip (List.drop (s7.2.1.toNat*6) (l.flatMap Ch.cells)))),(82,(AV.ip (List.drop (s7.2.1.toNat*6) (l.flatMap Ch.cells)))),(83,(AV.i (d7 l s7.2.1.toNat).kind)),(84,(AV.b (decide ((d7 l s7.2.1.toNat).kind > (3:Int))))),(86,(AV.ag [(AV.i s7.2.2.1),(AV.i s7.2.2.2.1),(exs s7.2.2.2.2.1),(AV.sl s7.2.2.2.2.2.1.length (s7.2.2.2.2.2.1.flatMap Po.cells)),(AV.i s7.2.2.2.2.2.2.1),(bys s7.2.2.2.2.2.2.2)])),(87,(AV.sl l.length (l.flatMap Ch.cells))),(88,(AV.i s7.2.1)),(89,(AV.ip (List.drop (s7.2.1.toNat*6) (l.flatMap Ch.cells)))),(90,(AV.ag [(AV.i (d7 l s7.2.1.toNat).kind),(AV.i (d7 l s7.2.1.toNat).lba),(AV.i (d7 l s7.2.1.toNat).n),(AV.i (d7 l s7.2.1.toNat).id),(bys (d7 l s7.2.1.toNat).d),(exs (d7 l s7.2.1.toNat).list)])),(91,(AV.tu [(AV.ag [(AV.i s11.1.blocks),(AV.i s11.1.gen),(exs s11.1.map),(AV.sl s11.1.points.length (s11.1.points.flatMap Po.cells)),(AV.i s11.1.last),(bys s11.1.staged)]),(AV.i s11.2)])),(85,(AV.tu [(AV.ag [(AV.i s11.1.blocks),(AV.i s11.1.gen),(exs s11.1.map),(AV.sl s11.1.points.length (s11.1.points.flatMap Po.cells)),(AV.i s11.1.last),(bys s11.1.staged)]),(AV.i s11.2)])),(92,(AV.ag [(AV.i s11.1.blocks),(AV.i s11.1.gen),(exs s11.1.map),(AV.sl s11.1.points.length (s11.1.points.flatMap Po.cells)),(AV.i s11.1.last),(bys s11.1.staged)])),(93,(AV.i s11.2)),(18,(AV.pt 2 0)),(19,(AV.i s11.2)),(94,(AV.sl l.length (l.flatMap Ch.cells))),(95,(AV.i s7.2.1)),(96,(AV.ip (List.drop (s7.2.1.toNat*6) (l.flatMap Ch.cells)))),(97,(AV.ip (List.drop 1 (List.drop (s7.2.1.toNat*6) (l.flatMap Ch.cells))))),(98,(AV.i (d7 l s7.2.1.toNat).lba)),(20,(AV.i (d7 l s7.2.1.toNat).lba))] 203 (AH.mk 3 [(2,(AObj.cells [(AV.i s11.1.blocks),(AV.i s11.1.gen),(exs s11.1.map),(AV.sl s11.1.points.length (s11.1.points.flatMap Po.cells)),(AV.i s11.1.last),(bys s11.1.staged)])),(1,(AObj.cells (List.map AV.b s7.1))),(0,(AObj.cells [(AV.i s7.2.2.1),(AV.i s7.2.2.2.1),(exs s7.2.2.2.2.1),(AV.sl s7.2.2.2.2.2.1.length (s7.2.2.2.2.2.1.flatMap Po.cells)),(AV.i s7.2.2.2.2.2.2.1),(bys s7.2.2.2.2.2.2.2)]))]) false)
noncomputable abbrev z09 (l:List Ch) (s0:Bool) (s4:Int×Int×Int×List Ex×List Po×Int×List UInt8) (s6:Sa×Int) (s7:List Bool×Int×Int×Int×List Ex×List Po×Int×List UInt8) (s11:Sa×Int) (s12:Int×List Bool):St:=(St.mk [(2,(AV.sl l.length (l.flatMap Ch.cells))),(7,(AV.b s0)),(9,(AV.pt 0 0)),(14,(AV.i (wr (s4.2.2.2.2.2.1+(1:Int))))),(15,(AV.i s6.2)),(16,(AV.pt 1 0)),(17,(AV.i s7.2.1)),(18,(AV.pt 2 0)),(19,(AV.i s11.2)),(20,(AV.i s12.1))] 203 (AH.mk 3 [(2,(AObj.cells [(AV.i s11.1.blocks),(AV.i s11.1.gen),(exs s11.1.map),(AV.sl s11.1.points.length (s11.1.points.flatMap Po.cells)),(AV.i s11.1.last),(bys s11.1.staged)])),(1,(AObj.cells (List.map AV.b s12.2))),(0,(AObj.cells [(AV.i s7.2.2.1),(AV.i s7.2.2.2.1),(exs s7.2.2.2.2.1),(AV.sl s7.2.2.2.2.2.1.length (s7.2.2.2.2.2.1.flatMap Po.cells)),(AV.i s7.2.2.2.2.2.2.1),(bys s7.2.2.2.2.2.2.2)]))]) false)
noncomputable def z0f (l:List Ch) (s0:Bool) (s4:Int×Int×Int×List Ex×List Po×Int×List UInt8) (s6:Sa×Int) (s7:List Bool×Int×Int×Int×List Ex×List Po×Int×List UInt8) (s11:Sa×Int) (s12:Int×List Bool):Option (Int×List Bool):=
 (tb ((s11.2==(0:Int))) (tb ((decide (s12.1≥(0:Int)))) (tb ((decide (s12.1 < (64:Int)))) (tp ((((0:Int)≤s7.2.1)∧(s7.2.1 < (l.length:Int)))) (tb ((decide (s12.1 < (wr ((d7 l s7.2.1.toNat).lba+(d7 l s7.2.1.toNat).n))))) (tp ((((1:Nat)=(1:Nat))∧((((0:Nat)+(s12.1.toNat*1))+(1:Nat))≤(List.length (List.map AV.b s12.2))))) (some (((wr (s12.1+(1:Int))),(List.set s12.2 ((0:Nat)+(s12.1.toNat*1)) true))))) none)) none) none) none)
theorem z36 (l:List Ch) (s0:Bool) (s4:Int×Int×Int×List Ex×List Po×Int×List UInt8) (s6:Sa×Int) (s7:List Bool×Int×Int×Int×List Ex×List Po×Int×List UInt8) (s11:Sa×Int) (s12 zz:Int×List Bool):z0f l s0 s4 s6 s7 s11 s12=some zz→u7 Try.prog cf 3 (lp Try.prog 6 2) (z09 l s0 s4 s6 s7 s11 s12) (z09 l s0 s4 s6 s7 s11 zz):=by
 unfold z0f
 exact tbE (fun h13 h13p=> tbD (fun h14 h14p=> tbD (fun h15 h15p=> x8 fun h16=> tbD (fun h17 h17p=> x8 fun h18=> by intro e;injection e with e;subst e;exact j0 z9 (k:=300) (r:=[]) (hs:=hz [(3,[.yes]),(1,[.yes]),(1,[.yes]),(1,[.yes]),(1,[.yes]),(1,[.yes]),(1,[.yes]),(1,[.yes]),(1,[.yes]),(1,[.yes,.yes,.yes]),(1,[.yes,.yes,.val ((AV.i (d7 l s7.2.1.toNat).lba)),.yes]),(1,[.yes]),(1,[.yes,.yes,.yes]),(1,[.yes,.yes,.val ((AV.i (d7 l s7.2.1.toNat).n)),.yes]),(1,[.yes]),(1,[.yes,.yes,.yes]),(1,[.yes,.yes,.cells ((List.map AV.b (List.set s12.2 ((0:Nat)+(s12.1.toNat*1)) true)))]),(3,[])]) (ks:=[2,7,9,14,15,16,17,18,19,20]) (st1:=(St.mk [(2,(AV.sl l.length (l.flatMap Ch.cells))),(7,(AV.b s0)),(9,(AV.pt 0 0)),(14,(AV.i (wr (s4.2.2.2.2.2.1+(1:Int))))),(15,(AV.i s6.2)),(16,(AV.pt 1 0)),(17,(AV.i s7.2.1)),(18,(AV.pt 2 0)),(19,(AV.i s11.2)),(20,(AV.i (wr (s12.1+(1:Int)))))] 203 (AH.mk 3 [(2,(AObj.cells [(AV.i s11.1.blocks),(AV.i s11.1.gen),(exs s11.1.map),(AV.sl s11.1.points.length (s11.1.points.flatMap Po.cells)),(AV.i s11.1.last),(bys s11.1.staged)])),(1,(AObj.cells (List.map AV.b (List.set s12.2 ((0:Nat)+(s12.1.toNat*1)) true)))),(0,(AObj.cells [(AV.i s7.2.2.1),(AV.i s7.2.2.2.1),(exs s7.2.2.2.2.1),(AV.sl s7.2.2.2.2.2.1.length (s7.2.2.2.2.2.1.flatMap Po.cells)),(AV.i s7.2.2.2.2.2.2.1),(bys s7.2.2.2.2.2.2.2)]))]) false)) kq (ac h13 (ac h13 (ac h13 (ac h14 (ac h14 (ac h14 (ac h15 (ac h15 (ac h15 (ac h15 (ac h16 (ac h15 (ac h15 (ac (fq (p:=((1:Nat)≤(List.length (List.drop 1 (List.drop (s7.2.1.toNat*6) (l.flatMap Ch.cells))))))) (ac (show (List.take 1 (List.drop 1 (List.drop (s7.2.1.toNat*6) (l.flatMap Ch.cells))))=[(AV.i (d7 l s7.2.1.toNat).lba)] from (by first | exact z1d _ _ _ _ bq rfl | exact z1r _ _ _ _ bq rfl | (simpa using z1d (l) (s7.2.1.toNat) 1 _ bq rfl) | ((try simp only [List.drop_drop]);rw [show ((1:Nat)+(s7.2.1.toNat*6))=(s7.2.1.toNat)*6+1 by omega];exact z1r (l) (s7.2.1.toNat) 1 _ bq rfl))) (ac h15 (ac h15 (ac h15 (ac h16 (ac h15 (ac h15 (ac (fq (p:=((1:Nat)≤(List.length (List.drop 2 (List.drop (s7.2.1.toNat*6) (l.flatMap Ch.cells))))))) (ac (show (List.take 1 (List.drop 2 (List.drop (s7.2.1.toNat*6) (l.flatMap Ch.cells))))=[(AV.i (d7 l s7.2.1.toNat).n)] from (by first | exact z1d _ _ _ _ bq rfl | exact z1r _ _ _ _ bq rfl | (simpa using z1d (l) (s7.2.1.toNat) 2 _ bq rfl) | ((try simp only [List.drop_drop]);rw [show ((2:Nat)+(s7.2.1.toNat*6))=(s7.2.1.toNat)*6+2 by omega];exact z1r (l) (s7.2.1.toNat) 2 _ bq rfl))) (ac h15 (ac h15 (ac h15 (ac (show z8 (rg Try.prog 6 2)=true∧x7 (Region.before (rg Try.prog 6 2)) [] 0 [(some [],some []),(some [],some []),(some [],some []),(some [],some []),(some [],some []),(some [],some []),(some [],some []),(some [],some []),(some [],some []),(some [],some []),(some [],some []),(some [],some []),(some [],some []),(some [],some []),(some [],some []),(some [],some []),(some [],some []),(some [],some []),(some [],some []),(some [],some []),(some [],some []),(some [],some []),(some [],some []),(some [],some []),(some [],some [])]=true from (x0 zbh zbc kq)) (ac h17 (ac (fq (p:=(((0:Int)≤s12.1)∧(s12.1 < (64:Int))))) (ac h18 (ac (show (((List.take ((0:Nat)+(s12.1.toNat*1)) (List.map AV.b s12.2))++[(AV.b true)])++(List.drop (((0:Nat)+(s12.1.toNat*1))+(List.length [(AV.b true)])) (List.map AV.b s12.2)))=(List.map AV.b (List.set s12.2 ((0:Nat)+(s12.1.toNat*1)) true)) from (zd0 (l:=s12.2) tq bq)) an))))))))))))))))))))))))))))))) (Nat.le_of_ble_eq_true rfl) (Nat.le_of_ble_eq_true rfl) (y9 [] [] kq (.consn kq (.eqv tq rfl) (.consn kq (.eqv tq rfl) (.consn kq (.pt rfl) (.consn kq (.eqv tq rfl) (.consn kq (.eqv tq rfl) (.consn kq (.pt rfl) (.consn kq (.eqv tq rfl) (.consn kq (.pt rfl) (.consn kq (.eqv tq rfl) (.consn kq (.eqv tq rfl) .nil)))))))))) (.cons (.old rfl rfl (.cells (.pl rfl pq))) (.cons (.old rfl rfl (.cells (.pl tq pq))) (.cons (.old rfl rfl (.cells (.pl rfl pq))) .nil))))) fun h17 h17p=> u6) fun h15 h15p=> u6) fun h14 h14p=> u6) fun h13 h13p=> u6
noncomputable abbrev z5c (ahead:List Ch) (l:List Ch) (s0:Bool) (s4:Int×Int×Int×List Ex×List Po×Int×List UInt8) (s6:Sa×Int):St:=(St.mk [(1,(AV.sl ahead.length (ahead.flatMap Ch.cells))),(2,(AV.sl l.length (l.flatMap Ch.cells))),(7,(AV.b s0)),(9,(AV.pt 0 0)),(11,(AV.i s4.1)),(46,(AV.i s4.1)),(47,(AV.sl ahead.length (ahead.flatMap Ch.cells))),(48,(AV.i (ahead.length:Int))),(49,(AV.b (decide (s4.1 < (ahead.length:Int))))),(62,(AV.pt 0 4)),(63,(AV.i s4.2.2.2.2.2.1)),(64,(AV.i (wr (s4.2.2.2.2.2.1+(1:Int))))),(14,(AV.i (wr (s4.2.2.2.2.2.1+(1:Int))))),(66,(AV.ag [(AV.i s4.2.1),(AV.i s4.2.2.1),(exs s4.2.2.2.1),(AV.sl s4.2.2.2.2.1.length (s4.2.2.2.2.1.flatMap Po.cells)),(AV.i s4.2.2.2.2.2.1),(bys s4.2.2.2.2.2.2)])),(67,(AV.i (wr (s4.2.2.2.2.2.1+(1:Int))))),(68,(AV.ag [(AV.i 4),(AV.i 0),(AV.i 0),(AV.i (wr (s4.2.2.2.2.2.1+(1:Int)))),AV.nl,AV.nl])),(69,(AV.tu [(AV.ag [(AV.i s6.1.blocks),(AV.i s6.1.gen),(exs s6.1.map),(AV.sl s6.1.points.length (s6.1.points.flatMap Po.cells)),(AV.i s6.1.last),(bys s6.1.staged)]),(AV.i s6.2)])),(65,(AV.tu [(AV.ag [(AV.i s6.1.blocks),(AV.i s6.1.gen),(exs s6.1.map),(AV.sl s6.1.points.length (s6.1.points.flatMap Po.cells)),(AV.i s6.1.last),(bys s6.1.staged)]),(AV.i s6.2)])),(70,(AV.ag [(AV.i s6.1.blocks),(AV.i s6.1.gen),(exs s6.1.map),(AV.sl s6.1.points.length (s6.1.points.flatMap Po.cells)),(AV.i s6.1.last),(bys s6.1.staged)])),(71,(AV.i s6.2)),(15,(AV.i s6.2)),(72,(AV.ag (List.replicate (64:Nat) (AV.b false)))),(16,(AV.pt 1 0)),(17,(AV.i 0))] 203 (AH.mk 2 [(1,(AObj.cells (List.replicate (64:Nat) (AV.b false)))),(0,(AObj.cells [(AV.i s6.1.blocks),(AV.i s6.1.gen),(exs s6.1.map),(AV.sl s6.1.points.length (s6.1.points.flatMap Po.cells)),(AV.i s6.1.last),(bys s6.1.staged)]))]) false)
noncomputable abbrev z0n (l:List Ch) (s0:Bool) (s4:Int×Int×Int×List Ex×List Po×Int×List UInt8) (s6:Sa×Int) (s7:List Bool×Int×Int×Int×List Ex×List Po×Int×List UInt8):St:=(St.mk [(2,(AV.sl l.length (l.flatMap Ch.cells))),(7,(AV.b s0)),(9,(AV.pt 0 0)),(14,(AV.i (wr (s4.2.2.2.2.2.1+(1:Int))))),(15,(AV.i s6.2)),(16,(AV.pt 1 0)),(17,(AV.i s7.2.1))] 203 (AH.mk 2 [(1,(AObj.cells (List.map AV.b s7.1))),(0,(AObj.cells [(AV.i s7.2.2.1),(AV.i s7.2.2.2.1),(exs s7.2.2.2.2.1),(pos s7.2.2.2.2.2.1),(AV.i s7.2.2.2.2.2.2.1),(bys s7.2.2.2.2.2.2.2)]))]) false)
noncomputable def z0g (l:List Ch) (s0:Bool) (s4:Int×Int×Int×List Ex×List Po×Int×List UInt8) (s6:Sa×Int) (s7:List Bool×Int×Int×Int×List Ex×List Po×Int×List UInt8):Option (List Bool×Int×Int×Int×List Ex×List Po×Int×List UInt8):=
 (tb ((decide (s7.2.1 < (l.length:Int)))) (tp ((((0:Int)≤s7.2.1)∧(s7.2.1 < (l.length:Int)))) (tb ((decide ((d7 l s7.2.1.toNat).kind > (3:Int)))) (some ((s7.1,((wr (s7.2.1+(1:Int))),(s7.2.2.1,(s7.2.2.2.1,(s7.2.2.2.2.1,(s7.2.2.2.2.2.1,(s7.2.2.2.2.2.2.1,s7.2.2.2.2.2.2.2))))))))) (tc (sDo ((Sa.mk s7.2.2.1 s7.2.2.2.1 s7.2.2.2.2.1 s7.2.2.2.2.2.1 s7.2.2.2.2.2.2.1 s7.2.2.2.2.2.2.2)) ((d7 l s7.2.1.toNat))) fun s11=> (th (z0f l s0 s4 s6 s7 s11) (((d7 l s7.2.1.toNat).lba,s7.1)) fun s12=> (tb ((s11.2==(0:Int))) (tb ((decide (s12.1≥(0:Int)))) (tb ((decide (s12.1 < (64:Int)))) (tb ((decide (s12.1 < (wr ((d7 l s7.2.1.toNat).lba+(d7 l s7.2.1.toNat).n))))) none (some ((s12.2,((wr (s7.2.1+(1:Int))),(s11.1.blocks,(s11.1.gen,(s11.1.map,(s11.1.points,(s11.1.last,s11.1.staged)))))))))) (some ((s12.2,((wr (s7.2.1+(1:Int))),(s11.1.blocks,(s11.1.gen,(s11.1.map,(s11.1.points,(s11.1.last,s11.1.staged)))))))))) (some ((s12.2,((wr (s7.2.1+(1:Int))),(s11.1.blocks,(s11.1.gen,(s11.1.map,(s11.1.points,(s11.1.last,s11.1.staged)))))))))) (some ((s12.2,((wr (s7.2.1+(1:Int))),(s11.1.blocks,(s11.1.gen,(s11.1.map,(s11.1.points,(s11.1.last,s11.1.staged)))))))))))))) none)
theorem z4c (l:List Ch) (s0:Bool) (s4:Int×Int×Int×List Ex×List Po×Int×List UInt8) (s6:Sa×Int) (s7 zz:List Bool×Int×Int×Int×List Ex×List Po×Int×List UInt8):z0g l s0 s4 s6 s7=some zz→u7 Try.prog cf 2 (lp Try.prog 6 1) (z0n l s0 s4 s6 s7) (z0n l s0 s4 s6 zz):=by
 unfold z0g
 exact tbD (fun h8 h8p=> x8 fun h9=> tbD (fun h10 h10p=> by intro e;injection e with e;subst e;exact j0 z9 (k:=300) (r:=[]) (hs:=hz [(4,[.yes]),(2,[.yes]),(1,[.yes,.val ((AV.i (d7 l s7.2.1.toNat).kind))]),(1,[.yes]),(3,[])]) (ks:=[2,7,9,14,15,16,17]) (st1:=(St.mk [(2,(AV.sl l.length (l.flatMap Ch.cells))),(7,(AV.b s0)),(9,(AV.pt 0 0)),(14,(AV.i (wr (s4.2.2.2.2.2.1+(1:Int))))),(15,(AV.i s6.2)),(16,(AV.pt 1 0)),(17,(AV.i (wr (s7.2.1+(1:Int)))))] 203 (AH.mk 2 [(1,(AObj.cells (List.map AV.b s7.1))),(0,(AObj.cells [(AV.i s7.2.2.1),(AV.i s7.2.2.2.1),(exs s7.2.2.2.2.1),(AV.sl s7.2.2.2.2.2.1.length (s7.2.2.2.2.2.1.flatMap Po.cells)),(AV.i s7.2.2.2.2.2.2.1),(bys s7.2.2.2.2.2.2.2)]))]) false)) kq (ac h8 (ac h9 (ac (fq (p:=((1:Nat)≤(List.length (List.drop (s7.2.1.toNat*6) (l.flatMap Ch.cells)))))) (ac (show (List.take 1 (List.drop (s7.2.1.toNat*6) (l.flatMap Ch.cells)))=[(AV.i (d7 l s7.2.1.toNat).kind)] from (by first | exact zb3 _ _ _ bq rfl | (simpa using z1d (l) (s7.2.1.toNat) 0 _ bq rfl))) (ac h10 an))))) (Nat.le_of_ble_eq_true rfl) (Nat.le_of_ble_eq_true rfl) (y9 [] [] kq (.consn kq (.eqv tq rfl) (.consn kq (.eqv tq rfl) (.consn kq (.pt rfl) (.consn kq (.eqv tq rfl) (.consn kq (.eqv tq rfl) (.consn kq (.pt rfl) (.consn kq (.eqv tq rfl) .nil))))))) (.cons (.old rfl rfl (.cells (.pl tq pq))) (.cons (.old rfl rfl (.cells (.cons (.eqv tq rfl) (.cons (.eqv tq rfl) (.cons (.eqv tq rfl) (.cons (.eqv tq rfl) (.cons (.eqv tq rfl) (.cons (.eqv tq rfl) .nil)))))))) .nil)))) fun h10 h10p=> w6 fun s11 h11=> z13 fun s12 h12=> tbE (fun h13 h13p=> tbD (fun h14 h14p=> tbD (fun h15 h15p=> tbD (fun h16 h16p=> u6) fun h16 h16p=> by intro e;injection e with e;subst e;exact j0 z9 (k:=300) (r:=[]) (hs:=hz [(4,[.yes]),(2,[.yes]),(1,[.yes,.val ((AV.i (d7 l s7.2.1.toNat).kind))]),(1,[.no]),(1,[.fc]),(2,[.yes,.yes,.cells ((Ch.cells (d7 l s7.2.1.toNat)))]),(1,[.fres (.tu [Sa.av (s11.1),.i (s11.2)])]),(5,[.fc]),(1,[.yes]),(2,[.yes]),(1,[.yes,.val ((AV.i (d7 l s7.2.1.toNat).lba))]),(1,[.head (z09 l s0 s4 s6 s7 s11 s12)]),(3,[.yes]),(1,[.yes]),(1,[.yes]),(1,[.yes]),(1,[.yes]),(1,[.yes]),(1,[.yes]),(1,[.yes]),(1,[.yes]),(1,[.yes,.yes,.yes]),(1,[.yes,.yes,.val ((AV.i (d7 l s7.2.1.toNat).lba)),.yes]),(1,[.yes]),(1,[.yes,.yes,.yes]),(1,[.yes,.yes,.val ((AV.i (d7 l s7.2.1.toNat).n)),.yes]),(1,[.yes]),(1,[.yes,.yes,.no]),(1,[.fc]),(1,[.fc]),(3,[])]) (ks:=[2,7,9,14,15,16,17]) (st1:=(St.mk [(2,(AV.sl l.length (l.flatMap Ch.cells))),(7,(AV.b s0)),(9,(AV.pt 0 0)),(14,(AV.i (wr (s4.2.2.2.2.2.1+(1:Int))))),(15,(AV.i s6.2)),(16,(AV.pt 1 0)),(17,(AV.i (wr (s7.2.1+(1:Int)))))] 203 (AH.mk 3 [(2,(AObj.cells [(AV.i s11.1.blocks),(AV.i s11.1.gen),(exs s11.1.map),(AV.sl s11.1.points.length (s11.1.points.flatMap Po.cells)),(AV.i s11.1.last),(bys s11.1.staged)])),(1,(AObj.cells (List.map AV.b s12.2))),(0,(AObj.cells [(AV.i s11.1.blocks),(AV.i s11.1.gen),(exs s11.1.map),(AV.sl s11.1.points.length (s11.1.points.flatMap Po.cells)),(AV.i s11.1.last),(bys s11.1.staged)]))]) false)) kq (ac h8 (ac h9 (ac (fq (p:=((1:Nat)≤(List.length (List.drop (s7.2.1.toNat*6) (l.flatMap Ch.cells)))))) (ac (show (List.take 1 (List.drop (s7.2.1.toNat*6) (l.flatMap Ch.cells)))=[(AV.i (d7 l s7.2.1.toNat).kind)] from (by first | exact zb3 _ _ _ bq rfl | (simpa using z1d (l) (s7.2.1.toNat) 0 _ bq rfl))) (ac h10 (ac h9 (ac (fq (p:=((6:Nat)≤(List.length (List.drop (s7.2.1.toNat*6) (l.flatMap Ch.cells)))))) (ac (show (List.take 6 (List.drop (s7.2.1.toNat*6) (l.flatMap Ch.cells)))=(Ch.cells (d7 l s7.2.1.toNat)) from (z8h bq bq)) (ac (z5z ((Sa.mk s7.2.2.1 s7.2.2.2.1 s7.2.2.2.2.1 s7.2.2.2.2.2.1 s7.2.2.2.2.2.2.1 s7.2.2.2.2.2.2.2)) ((d7 l s7.2.1.toNat)) _ h11) (ac (show z8 (rg Try.prog 6 1)=true∧x7 (Region.before (rg Try.prog 6 1)) [] 0 [(some [0],some []),(some [],some []),(some [],some []),(some [],some []),(some [],some []),(some [],some []),(some [],some []),(some [],some []),(some [],some []),(some [],some [2]),(some [2],some [2]),(some [],some [])]=true from (x0 zea ze0 kq)) (ac h9 (ac (fq (p:=((1:Nat)≤(List.length (List.drop 1 (List.drop (s7.2.1.toNat*6) (l.flatMap Ch.cells))))))) (ac (show (List.take 1 (List.drop 1 (List.drop (s7.2.1.toNat*6) (l.flatMap Ch.cells))))=[(AV.i (d7 l s7.2.1.toNat).lba)] from (by first | exact z1d _ _ _ _ bq rfl | exact z1r _ _ _ _ bq rfl | (simpa using z1d (l) (s7.2.1.toNat) 1 _ bq rfl) | ((try simp only [List.drop_drop]);rw [show ((1:Nat)+(s7.2.1.toNat*6))=(s7.2.1.toNat)*6+1 by omega];exact z1r (l) (s7.2.1.toNat) 1 _ bq rfl))) (ac (show x5 Try.prog cf (lp Try.prog 6 2) (z3i l s0 s4 s6 s7 s11) (z09 l s0 s4 s6 s7 s11 s12) from (x5.of (z36 l s0 s4 s6 s7 s11) (y9 [] [] kq (.consn kq (.eqv tq rfl) (.consn kq (.eqv tq rfl) (.consn kq (.pt rfl) (.consn kq (.eqv tq rfl) (.consn kq (.eqv tq rfl) (.consn kq (.pt rfl) (.consn kq (.eqv tq rfl) (.consn kq (.pt rfl) (.consn kq (.eqv tq rfl) (.consn kq (.eqv tq rfl) .nil)))))))))) (.cons (.old rfl rfl (.cells (.pl rfl pq))) (.cons (.old rfl rfl (.cells (.pl tq pq))) (.cons (.old rfl rfl (.cells (.pl rfl pq))) .nil)))) h12)) (ac h13 (ac h13 (ac h13 (ac h14 (ac h14 (ac h14 (ac h15 (ac h15 (ac h15 (ac h15 (ac h9 (ac h15 (ac h15 (ac (fq (p:=((1:Nat)≤(List.length (List.drop 1 (List.drop (s7.2.1.toNat*6) (l.flatMap Ch.cells))))))) (ac (show (List.take 1 (List.drop 1 (List.drop (s7.2.1.toNat*6) (l.flatMap Ch.cells))))=[(AV.i (d7 l s7.2.1.toNat).lba)] from (by first | exact z1d _ _ _ _ bq rfl | exact z1r _ _ _ _ bq rfl | (simpa using z1d (l) (s7.2.1.toNat) 1 _ bq rfl) | ((try simp only [List.drop_drop]);rw [show ((1:Nat)+(s7.2.1.toNat*6))=(s7.2.1.toNat)*6+1 by omega];exact z1r (l) (s7.2.1.toNat) 1 _ bq rfl))) (ac h15 (ac h15 (ac h15 (ac h9 (ac h15 (ac h15 (ac (fq (p:=((1:Nat)≤(List.length (List.drop 2 (List.drop (s7.2.1.toNat*6) (l.flatMap Ch.cells))))))) (ac (show (List.take 1 (List.drop 2 (List.drop (s7.2.1.toNat*6) (l.flatMap Ch.cells))))=[(AV.i (d7 l s7.2.1.toNat).n)] from (by first | exact z1d _ _ _ _ bq rfl | exact z1r _ _ _ _ bq rfl | (simpa using z1d (l) (s7.2.1.toNat) 2 _ bq rfl) | ((try simp only [List.drop_drop]);rw [show ((2:Nat)+(s7.2.1.toNat*6))=(s7.2.1.toNat)*6+2 by omega];exact z1r (l) (s7.2.1.toNat) 2 _ bq rfl))) (ac h15 (ac h15 (ac h15 (ac (show z8 (rg Try.prog 6 2)=true∧x7 (Region.before (rg Try.prog 6 2)) [] 0 [(some [],some []),(some [],some []),(some [],some []),(some [],some []),(some [],some []),(some [],some []),(some [],some []),(some [],some []),(some [],some []),(some [],some []),(some [],some []),(some [],some []),(some [],some []),(some [],some []),(some [],some []),(some [],some []),(some [],some []),(some [],some []),(some [],some []),(some [],some []),(some [],some []),(some [],some []),(some [],some []),(some [],some []),(some [],some [])]=true from (x0 zbh zbc kq)) (ac h16 an)))))))))))))))))))))))))))))))))))))))))) (Nat.le_of_ble_eq_true rfl) (Nat.le_of_ble_eq_true rfl) (y9 [] [] kq (.consn kq (.eqv tq rfl) (.consn kq (.eqv tq rfl) (.consn kq (.pt rfl) (.consn kq (.eqv tq rfl) (.consn kq (.eqv tq rfl) (.consn kq (.pt rfl) (.consn kq (.eqv tq rfl) .nil))))))) (.cons (.old rfl rfl (.cells (.pl tq pq))) (.cons (.old rfl rfl (.cells (.cons (.eqv tq rfl) (.cons (.eqv tq rfl) (.cons (.eqv tq rfl) (.cons (.eqv tq rfl) (.cons (.eqv tq rfl) (.cons (.eqv tq rfl) .nil)))))))) .nil)))) fun h15 h15p=> by intro e;injection e with e;subst e;exact j0 z9 (k:=300) (r:=[]) (hs:=hz [(4,[.yes]),(2,[.yes]),(1,[.yes,.val ((AV.i (d7 l s7.2.1.toNat).kind))]),(1,[.no]),(1,[.fc]),(2,[.yes,.yes,.cells ((Ch.cells (d7 l s7.2.1.toNat)))]),(1,[.fres (.tu [Sa.av (s11.1),.i (s11.2)])]),(5,[.fc]),(1,[.yes]),(2,[.yes]),(1,[.yes,.val ((AV.i (d7 l s7.2.1.toNat).lba))]),(1,[.head (z09 l s0 s4 s6 s7 s11 s12)]),(3,[.yes]),(1,[.yes]),(1,[.yes]),(1,[.yes]),(1,[.yes]),(1,[.yes]),(1,[.no,.no,.no,.no,.no,.no,.no,.no,.no,.no,.no,.no,.no,.no,.yes]),(2,[.fc]),(1,[.fc]),(3,[])]) (ks:=[2,7,9,14,15,16,17]) (st1:=(St.mk [(2,(AV.sl l.length (l.flatMap Ch.cells))),(7,(AV.b s0)),(9,(AV.pt 0 0)),(14,(AV.i (wr (s4.2.2.2.2.2.1+(1:Int))))),(15,(AV.i s6.2)),(16,(AV.pt 1 0)),(17,(AV.i (wr (s7.2.1+(1:Int)))))] 203 (AH.mk 3 [(2,(AObj.cells [(AV.i s11.1.blocks),(AV.i s11.1.gen),(exs s11.1.map),(AV.sl s11.1.points.length (s11.1.points.flatMap Po.cells)),(AV.i s11.1.last),(bys s11.1.staged)])),(1,(AObj.cells (List.map AV.b s12.2))),(0,(AObj.cells [(AV.i s11.1.blocks),(AV.i s11.1.gen),(exs s11.1.map),(AV.sl s11.1.points.length (s11.1.points.flatMap Po.cells)),(AV.i s11.1.last),(bys s11.1.staged)]))]) false)) kq (ac h8 (ac h9 (ac (fq (p:=((1:Nat)≤(List.length (List.drop (s7.2.1.toNat*6) (l.flatMap Ch.cells)))))) (ac (show (List.take 1 (List.drop (s7.2.1.toNat*6) (l.flatMap Ch.cells)))=[(AV.i (d7 l s7.2.1.toNat).kind)] from (by first | exact zb3 _ _ _ bq rfl | (simpa using z1d (l) (s7.2.1.toNat) 0 _ bq rfl))) (ac h10 (ac h9 (ac (fq (p:=((6:Nat)≤(List.length (List.drop (s7.2.1.toNat*6) (l.flatMap Ch.cells)))))) (ac (show (List.take 6 (List.drop (s7.2.1.toNat*6) (l.flatMap Ch.cells)))=(Ch.cells (d7 l s7.2.1.toNat)) from (z8h bq bq)) (ac (z5z ((Sa.mk s7.2.2.1 s7.2.2.2.1 s7.2.2.2.2.1 s7.2.2.2.2.2.1 s7.2.2.2.2.2.2.1 s7.2.2.2.2.2.2.2)) ((d7 l s7.2.1.toNat)) _ h11) (ac (show z8 (rg Try.prog 6 1)=true∧x7 (Region.before (rg Try.prog 6 1)) [] 0 [(some [0],some []),(some [],some []),(some [],some []),(some [],some []),(some [],some []),(some [],some []),(some [],some []),(some [],some []),(some [],some []),(some [],some [2]),(some [2],some [2]),(some [],some [])]=true from (x0 zea ze0 kq)) (ac h9 (ac (fq (p:=((1:Nat)≤(List.length (List.drop 1 (List.drop (s7.2.1.toNat*6) (l.flatMap Ch.cells))))))) (ac (show (List.take 1 (List.drop 1 (List.drop (s7.2.1.toNat*6) (l.flatMap Ch.cells))))=[(AV.i (d7 l s7.2.1.toNat).lba)] from (by first | exact z1d _ _ _ _ bq rfl | exact z1r _ _ _ _ bq rfl | (simpa using z1d (l) (s7.2.1.toNat) 1 _ bq rfl) | ((try simp only [List.drop_drop]);rw [show ((1:Nat)+(s7.2.1.toNat*6))=(s7.2.1.toNat)*6+1 by omega];exact z1r (l) (s7.2.1.toNat) 1 _ bq rfl))) (ac (show x5 Try.prog cf (lp Try.prog 6 2) (z3i l s0 s4 s6 s7 s11) (z09 l s0 s4 s6 s7 s11 s12) from (x5.of (z36 l s0 s4 s6 s7 s11) (y9 [] [] kq (.consn kq (.eqv tq rfl) (.consn kq (.eqv tq rfl) (.consn kq (.pt rfl) (.consn kq (.eqv tq rfl) (.consn kq (.eqv tq rfl) (.consn kq (.pt rfl) (.consn kq (.eqv tq rfl) (.consn kq (.pt rfl) (.consn kq (.eqv tq rfl) (.consn kq (.eqv tq rfl) .nil)))))))))) (.cons (.old rfl rfl (.cells (.pl rfl pq))) (.cons (.old rfl rfl (.cells (.pl tq pq))) (.cons (.old rfl rfl (.cells (.pl rfl pq))) .nil)))) h12)) (ac h13 (ac h13 (ac h13 (ac h14 (ac h14 (ac h14 (ac h15 (ac h15 (ac h15 (ac h15 (ac h15 (ac h15 (ac h15 (ac h15 (ac h15 (ac h15 (ac h15 (ac h15 (ac h15 (ac h15 (ac (show z8 (rg Try.prog 6 2)=true∧x7 (Region.before (rg Try.prog 6 2)) [] 0 [(some [],some []),(some [],some []),(some [],some []),(some [],some []),(some [],some []),(some [],some []),(some [],some []),(some [],some []),(some [],some []),(some [],some []),(some [],some []),(some [],some []),(some [],some []),(some [],some []),(some [],some []),(some [],some []),(some [],some []),(some [],some []),(some [],some []),(some [],some []),(some [],some []),(some [],some []),(some [],some []),(some [],some []),(some [],some [])]=true from (x0 zbh zbc kq)) an))))))))))))))))))))))))))))))))))) (Nat.le_of_ble_eq_true rfl) (Nat.le_of_ble_eq_true rfl) (y9 [] [] kq (.consn kq (.eqv tq rfl) (.consn kq (.eqv tq rfl) (.consn kq (.pt rfl) (.consn kq (.eqv tq rfl) (.consn kq (.eqv tq rfl) (.consn kq (.pt rfl) (.consn kq (.eqv tq rfl) .nil))))))) (.cons (.old rfl rfl (.cells (.pl tq pq))) (.cons (.old rfl rfl (.cells (.cons (.eqv tq rfl) (.cons (.eqv tq rfl) (.cons (.eqv tq rfl) (.cons (.eqv tq rfl) (.cons (.eqv tq rfl) (.cons (.eqv tq rfl) .nil)))))))) .nil)))) fun h14 h14p=> by intro e;injection e with e;subst e;exact j0 z9 (k:=300) (r:=[]) (hs:=hz [(4,[.yes]),(2,[.yes]),(1,[.yes,.val ((AV.i (d7 l s7.2.1.toNat).kind))]),(1,[.no]),(1,[.fc]),(2,[.yes,.yes,.cells ((Ch.cells (d7 l s7.2.1.toNat)))]),(1,[.fres (.tu [Sa.av (s11.1),.i (s11.2)])]),(5,[.fc]),(1,[.yes]),(2,[.yes]),(1,[.yes,.val ((AV.i (d7 l s7.2.1.toNat).lba))]),(1,[.head (z09 l s0 s4 s6 s7 s11 s12)]),(3,[.yes]),(1,[.yes]),(1,[.yes]),(1,[.no,.no,.no]),(15,[.yes]),(2,[.fc]),(1,[.fc]),(3,[])]) (ks:=[2,7,9,14,15,16,17]) (st1:=(St.mk [(2,(AV.sl l.length (l.flatMap Ch.cells))),(7,(AV.b s0)),(9,(AV.pt 0 0)),(14,(AV.i (wr (s4.2.2.2.2.2.1+(1:Int))))),(15,(AV.i s6.2)),(16,(AV.pt 1 0)),(17,(AV.i (wr (s7.2.1+(1:Int)))))] 203 (AH.mk 3 [(2,(AObj.cells [(AV.i s11.1.blocks),(AV.i s11.1.gen),(exs s11.1.map),(AV.sl s11.1.points.length (s11.1.points.flatMap Po.cells)),(AV.i s11.1.last),(bys s11.1.staged)])),(1,(AObj.cells (List.map AV.b s12.2))),(0,(AObj.cells [(AV.i s11.1.blocks),(AV.i s11.1.gen),(exs s11.1.map),(AV.sl s11.1.points.length (s11.1.points.flatMap Po.cells)),(AV.i s11.1.last),(bys s11.1.staged)]))]) false)) kq (ac h8 (ac h9 (ac (fq (p:=((1:Nat)≤(List.length (List.drop (s7.2.1.toNat*6) (l.flatMap Ch.cells)))))) (ac (show (List.take 1 (List.drop (s7.2.1.toNat*6) (l.flatMap Ch.cells)))=[(AV.i (d7 l s7.2.1.toNat).kind)] from (by first | exact zb3 _ _ _ bq rfl | (simpa using z1d (l) (s7.2.1.toNat) 0 _ bq rfl))) (ac h10 (ac h9 (ac (fq (p:=((6:Nat)≤(List.length (List.drop (s7.2.1.toNat*6) (l.flatMap Ch.cells)))))) (ac (show (List.take 6 (List.drop (s7.2.1.toNat*6) (l.flatMap Ch.cells)))=(Ch.cells (d7 l s7.2.1.toNat)) from (z8h bq bq)) (ac (z5z ((Sa.mk s7.2.2.1 s7.2.2.2.1 s7.2.2.2.2.1 s7.2.2.2.2.2.1 s7.2.2.2.2.2.2.1 s7.2.2.2.2.2.2.2)) ((d7 l s7.2.1.toNat)) _ h11) (ac (show z8 (rg Try.prog 6 1)=true∧x7 (Region.before (rg Try.prog 6 1)) [] 0 [(some [0],some []),(some [],some []),(some [],some []),(some [],some []),(some [],some []),(some [],some []),(some [],some []),(some [],some []),(some [],some []),(some [],some [2]),(some [2],some [2]),(some [],some [])]=true from (x0 zea ze0 kq)) (ac h9 (ac (fq (p:=((1:Nat)≤(List.length (List.drop 1 (List.drop (s7.2.1.toNat*6) (l.flatMap Ch.cells))))))) (ac (show (List.take 1 (List.drop 1 (List.drop (s7.2.1.toNat*6) (l.flatMap Ch.cells))))=[(AV.i (d7 l s7.2.1.toNat).lba)] from (by first | exact z1d _ _ _ _ bq rfl | exact z1r _ _ _ _ bq rfl | (simpa using z1d (l) (s7.2.1.toNat) 1 _ bq rfl) | ((try simp only [List.drop_drop]);rw [show ((1:Nat)+(s7.2.1.toNat*6))=(s7.2.1.toNat)*6+1 by omega];exact z1r (l) (s7.2.1.toNat) 1 _ bq rfl))) (ac (show x5 Try.prog cf (lp Try.prog 6 2) (z3i l s0 s4 s6 s7 s11) (z09 l s0 s4 s6 s7 s11 s12) from (x5.of (z36 l s0 s4 s6 s7 s11) (y9 [] [] kq (.consn kq (.eqv tq rfl) (.consn kq (.eqv tq rfl) (.consn kq (.pt rfl) (.consn kq (.eqv tq rfl) (.consn kq (.eqv tq rfl) (.consn kq (.pt rfl) (.consn kq (.eqv tq rfl) (.consn kq (.pt rfl) (.consn kq (.eqv tq rfl) (.consn kq (.eqv tq rfl) .nil)))))))))) (.cons (.old rfl rfl (.cells (.pl rfl pq))) (.cons (.old rfl rfl (.cells (.pl tq pq))) (.cons (.old rfl rfl (.cells (.pl rfl pq))) .nil)))) h12)) (ac h13 (ac h13 (ac h13 (ac h14 (ac h14 (ac h14 (ac (show z8 (rg Try.prog 6 2)=true∧x7 (Region.before (rg Try.prog 6 2)) [] 0 [(some [],some []),(some [],some []),(some [],some []),(some [],some []),(some [],some []),(some [],some []),(some [],some []),(some [],some []),(some [],some []),(some [],some []),(some [],some []),(some [],some []),(some [],some []),(some [],some []),(some [],some []),(some [],some []),(some [],some []),(some [],some []),(some [],some []),(some [],some []),(some [],some []),(some [],some []),(some [],some []),(some [],some []),(some [],some [])]=true from (x0 zbh zbc kq)) an))))))))))))))))))))) (Nat.le_of_ble_eq_true rfl) (Nat.le_of_ble_eq_true rfl) (y9 [] [] kq (.consn kq (.eqv tq rfl) (.consn kq (.eqv tq rfl) (.consn kq (.pt rfl) (.consn kq (.eqv tq rfl) (.consn kq (.eqv tq rfl) (.consn kq (.pt rfl) (.consn kq (.eqv tq rfl) .nil))))))) (.cons (.old rfl rfl (.cells (.pl tq pq))) (.cons (.old rfl rfl (.cells (.cons (.eqv tq rfl) (.cons (.eqv tq rfl) (.cons (.eqv tq rfl) (.cons (.eqv tq rfl) (.cons (.eqv tq rfl) (.cons (.eqv tq rfl) .nil)))))))) .nil)))) fun h13 h13p=> by intro e;injection e with e;subst e;exact j0 z9 (k:=300) (r:=[]) (hs:=hz [(4,[.yes]),(2,[.yes]),(1,[.yes,.val ((AV.i (d7 l s7.2.1.toNat).kind))]),(1,[.no]),(1,[.fc]),(2,[.yes,.yes,.cells ((Ch.cells (d7 l s7.2.1.toNat)))]),(1,[.fres (.tu [Sa.av (s11.1),.i (s11.2)])]),(5,[.fc]),(1,[.yes]),(2,[.yes]),(1,[.yes,.val ((AV.i (d7 l s7.2.1.toNat).lba))]),(1,[.head (z09 l s0 s4 s6 s7 s11 s12)]),(3,[.no,.no,.no]),(19,[.yes]),(2,[.fc]),(1,[.fc]),(3,[])]) (ks:=[2,7,9,14,15,16,17]) (st1:=(St.mk [(2,(AV.sl l.length (l.flatMap Ch.cells))),(7,(AV.b s0)),(9,(AV.pt 0 0)),(14,(AV.i (wr (s4.2.2.2.2.2.1+(1:Int))))),(15,(AV.i s6.2)),(16,(AV.pt 1 0)),(17,(AV.i (wr (s7.2.1+(1:Int)))))] 203 (AH.mk 3 [(2,(AObj.cells [(AV.i s11.1.blocks),(AV.i s11.1.gen),(exs s11.1.map),(AV.sl s11.1.points.length (s11.1.points.flatMap Po.cells)),(AV.i s11.1.last),(bys s11.1.staged)])),(1,(AObj.cells (List.map AV.b s12.2))),(0,(AObj.cells [(AV.i s11.1.blocks),(AV.i s11.1.gen),(exs s11.1.map),(AV.sl s11.1.points.length (s11.1.points.flatMap Po.cells)),(AV.i s11.1.last),(bys s11.1.staged)]))]) false)) kq (ac h8 (ac h9 (ac (fq (p:=((1:Nat)≤(List.length (List.drop (s7.2.1.toNat*6) (l.flatMap Ch.cells)))))) (ac (show (List.take 1 (List.drop (s7.2.1.toNat*6) (l.flatMap Ch.cells)))=[(AV.i (d7 l s7.2.1.toNat).kind)] from (by first | exact zb3 _ _ _ bq rfl | (simpa using z1d (l) (s7.2.1.toNat) 0 _ bq rfl))) (ac h10 (ac h9 (ac (fq (p:=((6:Nat)≤(List.length (List.drop (s7.2.1.toNat*6) (l.flatMap Ch.cells)))))) (ac (show (List.take 6 (List.drop (s7.2.1.toNat*6) (l.flatMap Ch.cells)))=(Ch.cells (d7 l s7.2.1.toNat)) from (z8h bq bq)) (ac (z5z ((Sa.mk s7.2.2.1 s7.2.2.2.1 s7.2.2.2.2.1 s7.2.2.2.2.2.1 s7.2.2.2.2.2.2.1 s7.2.2.2.2.2.2.2)) ((d7 l s7.2.1.toNat)) _ h11) (ac (show z8 (rg Try.prog 6 1)=true∧x7 (Region.before (rg Try.prog 6 1)) [] 0 [(some [0],some []),(some [],some []),(some [],some []),(some [],some []),(some [],some []),(some [],some []),(some [],some []),(some [],some []),(some [],some []),(some [],some [2]),(some [2],some [2]),(some [],some [])]=true from (x0 zea ze0 kq)) (ac h9 (ac (fq (p:=((1:Nat)≤(List.length (List.drop 1 (List.drop (s7.2.1.toNat*6) (l.flatMap Ch.cells))))))) (ac (show (List.take 1 (List.drop 1 (List.drop (s7.2.1.toNat*6) (l.flatMap Ch.cells))))=[(AV.i (d7 l s7.2.1.toNat).lba)] from (by first | exact z1d _ _ _ _ bq rfl | exact z1r _ _ _ _ bq rfl | (simpa using z1d (l) (s7.2.1.toNat) 1 _ bq rfl) | ((try simp only [List.drop_drop]);rw [show ((1:Nat)+(s7.2.1.toNat*6))=(s7.2.1.toNat)*6+1 by omega];exact z1r (l) (s7.2.1.toNat) 1 _ bq rfl))) (ac (show x5 Try.prog cf (lp Try.prog 6 2) (z3i l s0 s4 s6 s7 s11) (z09 l s0 s4 s6 s7 s11 s12) from (x5.of (z36 l s0 s4 s6 s7 s11) (y9 [] [] kq (.consn kq (.eqv tq rfl) (.consn kq (.eqv tq rfl) (.consn kq (.pt rfl) (.consn kq (.eqv tq rfl) (.consn kq (.eqv tq rfl) (.consn kq (.pt rfl) (.consn kq (.eqv tq rfl) (.consn kq (.pt rfl) (.consn kq (.eqv tq rfl) (.consn kq (.eqv tq rfl) .nil)))))))))) (.cons (.old rfl rfl (.cells (.pl rfl pq))) (.cons (.old rfl rfl (.cells (.pl tq pq))) (.cons (.old rfl rfl (.cells (.pl rfl pq))) .nil)))) h12)) (ac h13 (ac h13 (ac h13 (ac (show z8 (rg Try.prog 6 2)=true∧x7 (Region.before (rg Try.prog 6 2)) [] 0 [(some [],some []),(some [],some []),(some [],some []),(some [],some []),(some [],some []),(some [],some []),(some [],some []),(some [],some []),(some [],some []),(some [],some []),(some [],some []),(some [],some []),(some [],some []),(some [],some []),(some [],some []),(some [],some []),(some [],some []),(some [],some []),(some [],some []),(some [],some []),(some [],some []),(some [],some []),(some [],some []),(some [],some []),(some [],some [])]=true from (x0 zbh zbc kq)) an)))))))))))))))))) (Nat.le_of_ble_eq_true rfl) (Nat.le_of_ble_eq_true rfl) (y9 [] [] kq (.consn kq (.eqv tq rfl) (.consn kq (.eqv tq rfl) (.consn kq (.pt rfl) (.consn kq (.eqv tq rfl) (.consn kq (.eqv tq rfl) (.consn kq (.pt rfl) (.consn kq (.eqv tq rfl) .nil))))))) (.cons (.old rfl rfl (.cells (.pl tq pq))) (.cons (.old rfl rfl (.cells (.cons (.eqv tq rfl) (.cons (.eqv tq rfl) (.cons (.eqv tq rfl) (.cons (.eqv tq rfl) (.cons (.eqv tq rfl) (.cons (.eqv tq rfl) .nil)))))))) .nil)))) fun h8 h8p=> u6
noncomputable abbrev z5g (s0:Bool) (s12:Sm×Int) (s7:List Bool×Int×Int×Int×List Ex×List Po×Int×List UInt8) (s13:List Bool×Int):St:=(St.mk [(7,(AV.b s0)),(16,(AV.pt 1 0)),(22,(AV.pt 2 0)),(23,(AV.i s12.2)),(24,(AV.pt 3 0)),(25,(AV.i s13.2)),(153,(AV.i s13.2)),(154,(AV.pt 2 3)),(155,(exs s12.1.list)),(156,(AV.i (s12.1.list.length:Int))),(157,(AV.b (decide (s13.2 < (s12.1.list.length:Int))))),(160,(AV.pt 2 3)),(161,(exs s12.1.list)),(162,(AV.i s13.2)),(163,(AV.ip (List.drop (s13.2.toNat*5) (s12.1.list.flatMap Ex.cells)))),(164,(AV.ip (List.drop (s13.2.toNat*5) (s12.1.list.flatMap Ex.cells)))),(165,(AV.i (z0 s12.1.list s13.2.toNat).lba)),(26,(AV.i (z0 s12.1.list s13.2.toNat).lba))] 203 (AH.mk 4 [(3,(AObj.cells (List.map AV.b s13.1))),(2,(AObj.cells [(AV.i s12.1.blocks),(AV.i s12.1.parent),(AV.i s12.1.target),(exs s12.1.list)])),(1,(AObj.cells (List.map AV.b s7.1)))]) false)
noncomputable abbrev z0o (s0:Bool) (s12:Sm×Int) (s13:List Bool×Int) (s7:List Bool×Int×Int×Int×List Ex×List Po×Int×List UInt8) (s16:Int×List Bool):St:=(St.mk [(7,(AV.b s0)),(16,(AV.pt 1 0)),(22,(AV.pt 2 0)),(23,(AV.i s12.2)),(24,(AV.pt 3 0)),(25,(AV.i s13.2)),(26,(AV.i s16.1))] 203 (AH.mk 4 [(3,(AObj.cells (List.map AV.b s16.2))),(2,(AObj.cells [(AV.i s12.1.blocks),(AV.i s12.1.parent),(AV.i s12.1.target),(exs s12.1.list)])),(1,(AObj.cells (List.map AV.b s7.1)))]) false)
noncomputable def z1e (s0:Bool) (s12:Sm×Int) (s13:List Bool×Int) (s7:List Bool×Int×Int×Int×List Ex×List Po×Int×List UInt8) (s16:Int×List Bool):Option (Int×List Bool):=
 (tb ((decide (s16.1≥(0:Int)))) (tb ((decide (s16.1 < (64:Int)))) (tp ((((0:Int)≤s13.2)∧(s13.2 < (s12.1.list.length:Int)))) (tb ((decide (s16.1 < (wr ((z0 s12.1.list s13.2.toNat).lba+(z0 s12.1.list s13.2.toNat).len))))) (tp ((((1:Nat)=(1:Nat))∧((((0:Nat)+(s16.1.toNat*1))+(1:Nat))≤(List.length (List.map AV.b s16.2))))) (some (((wr (s16.1+(1:Int))),(List.set s16.2 ((0:Nat)+(s16.1.toNat*1)) true))))) none)) none) none)
theorem z4q (s0:Bool) (s12:Sm×Int) (s13:List Bool×Int) (s7:List Bool×Int×Int×Int×List Ex×List Po×Int×List UInt8) (s16 zz:Int×List Bool):z1e s0 s12 s13 s7 s16=some zz→u7 Try.prog cf 4 (lp Try.prog 6 4) (z0o s0 s12 s13 s7 s16) (z0o s0 s12 s13 s7 zz):=by
 unfold z1e
 exact tbD (fun h17 h17p=> tbD (fun h18 h18p=> x8 fun h19=> tbD (fun h20 h20p=> x8 fun h21=> by intro e;injection e with e;subst e;exact j0 z9 (k:=300) (r:=[]) (hs:=hz [(3,[.yes]),(1,[.yes]),(1,[.yes]),(1,[.yes]),(1,[.yes]),(1,[.yes]),(2,[.yes]),(1,[.yes,.yes,.yes]),(1,[.yes,.yes,.val ((AV.i (z0 s12.1.list s13.2.toNat).lba)),.yes]),(1,[.yes]),(2,[.yes]),(1,[.yes,.yes,.yes]),(1,[.yes,.yes,.val ((AV.i (z0 s12.1.list s13.2.toNat).len)),.yes]),(1,[.yes]),(1,[.yes,.yes,.yes]),(1,[.yes,.yes,.cells ((List.map AV.b (List.set s16.2 ((0:Nat)+(s16.1.toNat*1)) true)))]),(3,[])]) (ks:=[7,16,22,23,24,25,26]) (st1:=(St.mk [(7,(AV.b s0)),(16,(AV.pt 1 0)),(22,(AV.pt 2 0)),(23,(AV.i s12.2)),(24,(AV.pt 3 0)),(25,(AV.i s13.2)),(26,(AV.i (wr (s16.1+(1:Int)))))] 203 (AH.mk 4 [(3,(AObj.cells (List.map AV.b (List.set s16.2 ((0:Nat)+(s16.1.toNat*1)) true)))),(2,(AObj.cells [(AV.i s12.1.blocks),(AV.i s12.1.parent),(AV.i s12.1.target),(exs s12.1.list)])),(1,(AObj.cells (List.map AV.b s7.1)))]) false)) kq (ac h17 (ac h17 (ac h17 (ac h18 (ac h18 (ac h18 (ac h18 (ac h18 (ac h19 (ac h18 (ac h18 (ac (fq (p:=((1:Nat)≤(List.length (List.drop (s13.2.toNat*5) (s12.1.list.flatMap Ex.cells)))))) (ac (show (List.take 1 (List.drop (s13.2.toNat*5) (s12.1.list.flatMap Ex.cells)))=[(AV.i (z0 s12.1.list s13.2.toNat).lba)] from (by first | exact zah _ _ _ bq rfl | (simpa using z5w (s12.1.list) (s13.2.toNat) 0 _ bq rfl))) (ac h18 (ac h18 (ac h18 (ac h18 (ac h19 (ac h18 (ac h18 (ac (fq (p:=((1:Nat)≤(List.length (List.drop 1 (List.drop (s13.2.toNat*5) (s12.1.list.flatMap Ex.cells))))))) (ac (show (List.take 1 (List.drop 1 (List.drop (s13.2.toNat*5) (s12.1.list.flatMap Ex.cells))))=[(AV.i (z0 s12.1.list s13.2.toNat).len)] from (by first | exact z5w _ _ _ _ bq rfl | exact zdm _ _ _ _ bq rfl | (simpa using z5w (s12.1.list) (s13.2.toNat) 1 _ bq rfl) | ((try simp only [List.drop_drop]);rw [show ((1:Nat)+(s13.2.toNat*5))=(s13.2.toNat)*5+1 by omega];exact zdm (s12.1.list) (s13.2.toNat) 1 _ bq rfl))) (ac h18 (ac h18 (ac h18 (ac (show z8 (rg Try.prog 6 3)=true∧x7 (Region.before (rg Try.prog 6 3)) [] 0 [(some [],some []),(some [],some []),(some [],some []),(some [],some []),(some [],some []),(some [],some []),(some [],some []),(some [],some []),(some [],some []),(some [2],some []),(some [],some []),(some [],some []),(some [],some []),(some [],some []),(some [],some []),(some [2],some []),(some [],some []),(some [],some []),(some [],some []),(some [],some []),(some [],some []),(some [],some []),(some [],some [])]=true from (x0 zdz zdi kq)) (ac h20 (ac (fq (p:=(((0:Int)≤s16.1)∧(s16.1 < (64:Int))))) (ac h21 (ac (show (((List.take ((0:Nat)+(s16.1.toNat*1)) (List.map AV.b s16.2))++[(AV.b true)])++(List.drop (((0:Nat)+(s16.1.toNat*1))+(List.length [(AV.b true)])) (List.map AV.b s16.2)))=(List.map AV.b (List.set s16.2 ((0:Nat)+(s16.1.toNat*1)) true)) from (zd0 (l:=s16.2) tq bq)) an)))))))))))))))))))))))))))))) (Nat.le_of_ble_eq_true rfl) (Nat.le_of_ble_eq_true rfl) (y9 [] [] kq (.consn kq (.eqv tq rfl) (.consn kq (.pt rfl) (.consn kq (.pt rfl) (.consn kq (.eqv tq rfl) (.consn kq (.pt rfl) (.consn kq (.eqv tq rfl) (.consn kq (.eqv tq rfl) .nil))))))) (.cons (.old rfl rfl (.cells (.pl tq pq))) (.cons (.old rfl rfl (.cells (.pl rfl pq))) (.cons (.old rfl rfl (.cells (.pl rfl (by simp)))) .nil))))) fun h20 h20p=> u6) fun h18 h18p=> u6) fun h17 h17p=> u6
noncomputable abbrev zde (l:List Ch) (s0:Bool) (s4:Int×Int×Int×List Ex×List Po×Int×List UInt8) (s6:Sa×Int) (s7:List Bool×Int×Int×Int×List Ex×List Po×Int×List UInt8) (s9:Sa×Int) (s12:Sm×Int):St:=(St.mk [(2,(AV.sl l.length (l.flatMap Ch.cells))),(7,(AV.b s0)),(9,(AV.pt 0 0)),(14,(AV.i (wr (s4.2.2.2.2.2.1+(1:Int))))),(15,(AV.i s6.2)),(16,(AV.pt 1 0)),(17,(AV.i s7.2.1)),(73,(AV.i s7.2.1)),(74,(AV.sl l.length (l.flatMap Ch.cells))),(75,(AV.i (l.length:Int))),(76,(AV.b (decide (s7.2.1 < (l.length:Int))))),(130,(AV.ag [(AV.i s7.2.2.1),(AV.i s7.2.2.2.1),(exs s7.2.2.2.2.1),(AV.sl s7.2.2.2.2.2.1.length (s7.2.2.2.2.2.1.flatMap Po.cells)),(AV.i s7.2.2.2.2.2.2.1),(bys s7.2.2.2.2.2.2.2)])),(131,(AV.i (wr (s4.2.2.2.2.2.1+(1:Int))))),(132,(AV.i (wr ((wr (s4.2.2.2.2.2.1+(1:Int)))+(1:Int))))),(133,(AV.ag [(AV.i 4),(AV.i 0),(AV.i 0),(AV.i (wr ((wr (s4.2.2.2.2.2.1+(1:Int)))+(1:Int)))),AV.nl,AV.nl])),(134,(AV.tu [(AV.ag [(AV.i s9.1.blocks),(AV.i s9.1.gen),(exs s9.1.map),(AV.sl s9.1.points.length (s9.1.points.flatMap Po.cells)),(AV.i s9.1.last),(bys s9.1.staged)]),(AV.i s9.2)])),(129,(AV.tu [(AV.ag [(AV.i s9.1.blocks),(AV.i s9.1.gen),(exs s9.1.map),(AV.sl s9.1.points.length (s9.1.points.flatMap Po.cells)),(AV.i s9.1.last),(bys s9.1.staged)]),(AV.i s9.2)])),(135,(AV.ag [(AV.i s9.1.blocks),(AV.i s9.1.gen),(exs s9.1.map),(AV.sl s9.1.points.length (s9.1.points.flatMap Po.cells)),(AV.i s9.1.last),(bys s9.1.staged)])),(136,(AV.i s9.2)),(21,(AV.i s9.2)),(137,(AV.i s6.2)),(138,(AV.b (s6.2 !=(0:Int)))),(139,(AV.b (s6.2 !=(0:Int)))),(140,(AV.i s9.2)),(141,(AV.b (s9.2 !=(0:Int)))),(142,(AV.b (s9.2 !=(0:Int)))),(145,(AV.ag [(AV.i s9.1.blocks),(AV.i s9.1.gen),(exs s9.1.map),(AV.sl s9.1.points.length (s9.1.points.flatMap Po.cells)),(AV.i s9.1.last),(bys s9.1.staged)])),(146,(AV.i (wr (s4.2.2.2.2.2.1+(1:Int))))),(147,(AV.i (wr (s4.2.2.2.2.2.1+(1:Int))))),(148,(AV.i (wr ((wr (s4.2.2.2.2.2.1+(1:Int)))+(1:Int))))),(149,(AV.tu [(AV.ag [(AV.i s12.1.blocks),(AV.i s12.1.parent),(AV.i s12.1.target),(exs s12.1.list)]),(AV.i s12.2)])),(144,(AV.tu [(AV.ag [(AV.i s12.1.blocks),(AV.i s12.1.parent),(AV.i s12.1.target),(exs s12.1.list)]),(AV.i s12.2)])),(150,(AV.ag [(AV.i s12.1.blocks),(AV.i s12.1.parent),(AV.i s12.1.target),(exs s12.1.list)])),(151,(AV.i s12.2)),(22,(AV.pt 2 0)),(23,(AV.i s12.2)),(152,(AV.ag (List.replicate (64:Nat) (AV.b false)))),(24,(AV.pt 3 0)),(25,(AV.i 0))] 203 (AH.mk 4 [(3,(AObj.cells (List.replicate (64:Nat) (AV.b false)))),(2,(AObj.cells [(AV.i s12.1.blocks),(AV.i s12.1.parent),(AV.i s12.1.target),(exs s12.1.list)])),(1,(AObj.cells (List.map AV.b s7.1))),(0,(AObj.cells [(AV.i s9.1.blocks),(AV.i s9.1.gen),(exs s9.1.map),(AV.sl s9.1.points.length (s9.1.points.flatMap Po.cells)),(AV.i s9.1.last),(bys s9.1.staged)]))]) false)
noncomputable abbrev z3n (s0:Bool) (s12:Sm×Int) (s7:List Bool×Int×Int×Int×List Ex×List Po×Int×List UInt8) (s13:List Bool×Int):St:=(St.mk [(7,(AV.b s0)),(16,(AV.pt 1 0)),(22,(AV.pt 2 0)),(23,(AV.i s12.2)),(24,(AV.pt 3 0)),(25,(AV.i s13.2))] 203 (AH.mk 4 [(3,(AObj.cells (List.map AV.b s13.1))),(2,(AObj.cells [(AV.i s12.1.blocks),(AV.i s12.1.parent),(AV.i s12.1.target),(exs s12.1.list)])),(1,(AObj.cells (List.map AV.b s7.1)))]) false)
noncomputable def z0e (s0:Bool) (s12:Sm×Int) (s7:List Bool×Int×Int×Int×List Ex×List Po×Int×List UInt8) (s13:List Bool×Int):Option (List Bool×Int):=
 (tb ((decide (s13.2 < (s12.1.list.length:Int)))) (tp ((((0:Int)≤s13.2)∧(s13.2 < (s12.1.list.length:Int)))) (th (z1e s0 s12 s13 s7) (((z0 s12.1.list s13.2.toNat).lba,s13.1)) fun s16=> (tb ((decide (s16.1≥(0:Int)))) (tb ((decide (s16.1 < (64:Int)))) (tb ((decide (s16.1 < (wr ((z0 s12.1.list s13.2.toNat).lba+(z0 s12.1.list s13.2.toNat).len))))) none (some ((s16.2,(wr (s13.2+(1:Int))))))) (some ((s16.2,(wr (s13.2+(1:Int))))))) (some ((s16.2,(wr (s13.2+(1:Int))))))))) none)
theorem zc1 (s0:Bool) (s12:Sm×Int) (s7:List Bool×Int×Int×Int×List Ex×List Po×Int×List UInt8) (s13 zz:List Bool×Int):z0e s0 s12 s7 s13=some zz→u7 Try.prog cf 4 (lp Try.prog 6 3) (z3n s0 s12 s7 s13) (z3n s0 s12 s7 zz):=by
 unfold z0e
 exact tbD (fun h14 h14p=> x8 fun h15=> z13 fun s16 h16=> tbD (fun h17 h17p=> tbD (fun h18 h18p=> tbD (fun h19 h19p=> u6) fun h19 h19p=> by intro e;injection e with e;subst e;exact j0 z9 (k:=300) (r:=[]) (hs:=hz [(6,[.yes]),(4,[.yes]),(1,[.yes,.val ((AV.i (z0 s12.1.list s13.2.toNat).lba))]),(1,[.head (z0o s0 s12 s13 s7 s16)]),(3,[.yes]),(1,[.yes]),(1,[.yes]),(1,[.yes]),(1,[.yes]),(1,[.yes]),(2,[.yes]),(1,[.yes,.yes,.yes]),(1,[.yes,.yes,.val ((AV.i (z0 s12.1.list s13.2.toNat).lba)),.yes]),(1,[.yes]),(2,[.yes]),(1,[.yes,.yes,.yes]),(1,[.yes,.yes,.val ((AV.i (z0 s12.1.list s13.2.toNat).len)),.yes]),(1,[.yes]),(1,[.yes,.yes,.no]),(3,[])]) (ks:=[7,16,22,23,24,25]) (st1:=(St.mk [(7,(AV.b s0)),(16,(AV.pt 1 0)),(22,(AV.pt 2 0)),(23,(AV.i s12.2)),(24,(AV.pt 3 0)),(25,(AV.i (wr (s13.2+(1:Int)))))] 203 (AH.mk 4 [(3,(AObj.cells (List.map AV.b s16.2))),(2,(AObj.cells [(AV.i s12.1.blocks),(AV.i s12.1.parent),(AV.i s12.1.target),(exs s12.1.list)])),(1,(AObj.cells (List.map AV.b s7.1)))]) false)) kq (ac h14 (ac h15 (ac (fq (p:=((1:Nat)≤(List.length (List.drop (s13.2.toNat*5) (s12.1.list.flatMap Ex.cells)))))) (ac (show (List.take 1 (List.drop (s13.2.toNat*5) (s12.1.list.flatMap Ex.cells)))=[(AV.i (z0 s12.1.list s13.2.toNat).lba)] from (by first | exact zah _ _ _ bq rfl | (simpa using z5w (s12.1.list) (s13.2.toNat) 0 _ bq rfl))) (ac (show x5 Try.prog cf (lp Try.prog 6 4) (z5g s0 s12 s7 s13) (z0o s0 s12 s13 s7 s16) from (x5.of (z4q s0 s12 s13 s7) (y9 [] [] kq (.consn kq (.eqv tq rfl) (.consn kq (.pt rfl) (.consn kq (.pt rfl) (.consn kq (.eqv tq rfl) (.consn kq (.pt rfl) (.consn kq (.eqv tq rfl) (.consn kq (.eqv tq rfl) .nil))))))) (.cons (.old rfl rfl (.cells (.pl tq pq))) (.cons (.old rfl rfl (.cells (.pl rfl pq))) (.cons (.old rfl rfl (.cells (.pl rfl (by simp)))) .nil)))) h16)) (ac h17 (ac h17 (ac h17 (ac h18 (ac h18 (ac h18 (ac h18 (ac h18 (ac h15 (ac h18 (ac h18 (ac (fq (p:=((1:Nat)≤(List.length (List.drop (s13.2.toNat*5) (s12.1.list.flatMap Ex.cells)))))) (ac (show (List.take 1 (List.drop (s13.2.toNat*5) (s12.1.list.flatMap Ex.cells)))=[(AV.i (z0 s12.1.list s13.2.toNat).lba)] from (by first | exact zah _ _ _ bq rfl | (simpa using z5w (s12.1.list) (s13.2.toNat) 0 _ bq rfl))) (ac h18 (ac h18 (ac h18 (ac h18 (ac h15 (ac h18 (ac h18 (ac (fq (p:=((1:Nat)≤(List.length (List.drop 1 (List.drop (s13.2.toNat*5) (s12.1.list.flatMap Ex.cells))))))) (ac (show (List.take 1 (List.drop 1 (List.drop (s13.2.toNat*5) (s12.1.list.flatMap Ex.cells))))=[(AV.i (z0 s12.1.list s13.2.toNat).len)] from (by first | exact z5w _ _ _ _ bq rfl | exact zdm _ _ _ _ bq rfl | (simpa using z5w (s12.1.list) (s13.2.toNat) 1 _ bq rfl) | ((try simp only [List.drop_drop]);rw [show ((1:Nat)+(s13.2.toNat*5))=(s13.2.toNat)*5+1 by omega];exact zdm (s12.1.list) (s13.2.toNat) 1 _ bq rfl))) (ac h18 (ac h18 (ac h18 (ac (show z8 (rg Try.prog 6 3)=true∧x7 (Region.before (rg Try.prog 6 3)) [] 0 [(some [],some []),(some [],some []),(some [],some []),(some [],some []),(some [],some []),(some [],some []),(some [],some []),(some [],some []),(some [],some []),(some [2],some []),(some [],some []),(some [],some []),(some [],some []),(some [],some []),(some [],some []),(some [2],some []),(some [],some []),(some [],some []),(some [],some []),(some [],some []),(some [],some []),(some [],some []),(some [],some [])]=true from (x0 zdz zdi kq)) (ac h19 an)))))))))))))))))))))))))))))))) (Nat.le_of_ble_eq_true rfl) (Nat.le_of_ble_eq_true rfl) (y9 [] [] kq (.consn kq (.eqv tq rfl) (.consn kq (.pt rfl) (.consn kq (.pt rfl) (.consn kq (.eqv tq rfl) (.consn kq (.pt rfl) (.consn kq (.eqv tq rfl) .nil)))))) (.cons (.old rfl rfl (.cells (.pl tq pq))) (.cons (.old rfl rfl (.cells (.pl rfl pq))) (.cons (.old rfl rfl (.cells (.pl rfl (by simp)))) .nil))))) fun h18 h18p=> by intro e;injection e with e;subst e;exact j0 z9 (k:=300) (r:=[]) (hs:=hz [(6,[.yes]),(4,[.yes]),(1,[.yes,.val ((AV.i (z0 s12.1.list s13.2.toNat).lba))]),(1,[.head (z0o s0 s12 s13 s7 s16)]),(3,[.yes]),(1,[.yes]),(1,[.yes]),(1,[.no,.no,.no,.no,.no,.no,.no,.no,.no,.no,.no,.no,.no,.no,.no,.no,.yes]),(4,[])]) (ks:=[7,16,22,23,24,25]) (st1:=(St.mk [(7,(AV.b s0)),(16,(AV.pt 1 0)),(22,(AV.pt 2 0)),(23,(AV.i s12.2)),(24,(AV.pt 3 0)),(25,(AV.i (wr (s13.2+(1:Int)))))] 203 (AH.mk 4 [(3,(AObj.cells (List.map AV.b s16.2))),(2,(AObj.cells [(AV.i s12.1.blocks),(AV.i s12.1.parent),(AV.i s12.1.target),(exs s12.1.list)])),(1,(AObj.cells (List.map AV.b s7.1)))]) false)) kq (ac h14 (ac h15 (ac (fq (p:=((1:Nat)≤(List.length (List.drop (s13.2.toNat*5) (s12.1.list.flatMap Ex.cells)))))) (ac (show (List.take 1 (List.drop (s13.2.toNat*5) (s12.1.list.flatMap Ex.cells)))=[(AV.i (z0 s12.1.list s13.2.toNat).lba)] from (by first | exact zah _ _ _ bq rfl | (simpa using z5w (s12.1.list) (s13.2.toNat) 0 _ bq rfl))) (ac (show x5 Try.prog cf (lp Try.prog 6 4) (z5g s0 s12 s7 s13) (z0o s0 s12 s13 s7 s16) from (x5.of (z4q s0 s12 s13 s7) (y9 [] [] kq (.consn kq (.eqv tq rfl) (.consn kq (.pt rfl) (.consn kq (.pt rfl) (.consn kq (.eqv tq rfl) (.consn kq (.pt rfl) (.consn kq (.eqv tq rfl) (.consn kq (.eqv tq rfl) .nil))))))) (.cons (.old rfl rfl (.cells (.pl tq pq))) (.cons (.old rfl rfl (.cells (.pl rfl pq))) (.cons (.old rfl rfl (.cells (.pl rfl (by simp)))) .nil)))) h16)) (ac h17 (ac h17 (ac h17 (ac h18 (ac h18 (ac h18 (ac h18 (ac h18 (ac h18 (ac h18 (ac h18 (ac h18 (ac h18 (ac h18 (ac h18 (ac h18 (ac h18 (ac h18 (ac h18 (ac (show z8 (rg Try.prog 6 3)=true∧x7 (Region.before (rg Try.prog 6 3)) [] 0 [(some [],some []),(some [],some []),(some [],some []),(some [],some []),(some [],some []),(some [],some []),(some [],some []),(some [],some []),(some [],some []),(some [],some []),(some [],some []),(some [],some []),(some [],some []),(some [],some []),(some [],some []),(some [],some []),(some [],some []),(some [],some []),(some [],some []),(some [],some []),(some [],some []),(some [],some []),(some [],some [])]=true from (x0 zdz zdi kq)) an))))))))))))))))))))))))) (Nat.le_of_ble_eq_true rfl) (Nat.le_of_ble_eq_true rfl) (y9 [] [] kq (.consn kq (.eqv tq rfl) (.consn kq (.pt rfl) (.consn kq (.pt rfl) (.consn kq (.eqv tq rfl) (.consn kq (.pt rfl) (.consn kq (.eqv tq rfl) .nil)))))) (.cons (.old rfl rfl (.cells (.pl tq pq))) (.cons (.old rfl rfl (.cells (.pl rfl pq))) (.cons (.old rfl rfl (.cells (.pl rfl (by simp)))) .nil))))) fun h17 h17p=> by intro e;injection e with e;subst e;exact j0 z9 (k:=300) (r:=[]) (hs:=hz [(6,[.yes]),(4,[.yes]),(1,[.yes,.val ((AV.i (z0 s12.1.list s13.2.toNat).lba))]),(1,[.head (z0o s0 s12 s13 s7 s16)]),(3,[.no,.no,.no]),(17,[.yes]),(4,[])]) (ks:=[7,16,22,23,24,25]) (st1:=(St.mk [(7,(AV.b s0)),(16,(AV.pt 1 0)),(22,(AV.pt 2 0)),(23,(AV.i s12.2)),(24,(AV.pt 3 0)),(25,(AV.i (wr (s13.2+(1:Int)))))] 203 (AH.mk 4 [(3,(AObj.cells (List.map AV.b s16.2))),(2,(AObj.cells [(AV.i s12.1.blocks),(AV.i s12.1.parent),(AV.i s12.1.target),(exs s12.1.list)])),(1,(AObj.cells (List.map AV.b s7.1)))]) false)) kq (ac h14 (ac h15 (ac (fq (p:=((1:Nat)≤(List.length (List.drop (s13.2.toNat*5) (s12.1.list.flatMap Ex.cells)))))) (ac (show (List.take 1 (List.drop (s13.2.toNat*5) (s12.1.list.flatMap Ex.cells)))=[(AV.i (z0 s12.1.list s13.2.toNat).lba)] from (by first | exact zah _ _ _ bq rfl | (simpa using z5w (s12.1.list) (s13.2.toNat) 0 _ bq rfl))) (ac (show x5 Try.prog cf (lp Try.prog 6 4) (z5g s0 s12 s7 s13) (z0o s0 s12 s13 s7 s16) from (x5.of (z4q s0 s12 s13 s7) (y9 [] [] kq (.consn kq (.eqv tq rfl) (.consn kq (.pt rfl) (.consn kq (.pt rfl) (.consn kq (.eqv tq rfl) (.consn kq (.pt rfl) (.consn kq (.eqv tq rfl) (.consn kq (.eqv tq rfl) .nil))))))) (.cons (.old rfl rfl (.cells (.pl tq pq))) (.cons (.old rfl rfl (.cells (.pl rfl pq))) (.cons (.old rfl rfl (.cells (.pl rfl (by simp)))) .nil)))) h16)) (ac h17 (ac h17 (ac h17 (ac (show z8 (rg Try.prog 6 3)=true∧x7 (Region.before (rg Try.prog 6 3)) [] 0 [(some [],some []),(some [],some []),(some [],some []),(some [],some []),(some [],some []),(some [],some []),(some [],some []),(some [],some []),(some [],some []),(some [],some []),(some [],some []),(some [],some []),(some [],some []),(some [],some []),(some [],some []),(some [],some []),(some [],some []),(some [],some []),(some [],some []),(some [],some []),(some [],some []),(some [],some []),(some [],some [])]=true from (x0 zdz zdi kq)) an))))))))) (Nat.le_of_ble_eq_true rfl) (Nat.le_of_ble_eq_true rfl) (y9 [] [] kq (.consn kq (.eqv tq rfl) (.consn kq (.pt rfl) (.consn kq (.pt rfl) (.consn kq (.eqv tq rfl) (.consn kq (.pt rfl) (.consn kq (.eqv tq rfl) .nil)))))) (.cons (.old rfl rfl (.cells (.pl tq pq))) (.cons (.old rfl rfl (.cells (.pl rfl pq))) (.cons (.old rfl rfl (.cells (.pl rfl (by simp)))) .nil))))) fun h14 h14p=> u6
noncomputable def z7p (blocks:UInt8) (ahead:List Ch) (l:List Ch):Option (Bool):=
 (tc (aw18) fun s0=> (tc (zv5 ((wr ((1:Int)+(Int.tmod (wr (↑(UInt8.toNat blocks):Int)) (64:Int)))))) fun s1=> (tb ((decide ((ahead.length:Int) > (30:Int)))) (some (s0)) (tb ((decide ((l.length:Int) > (30:Int)))) (some (s0)) (th (z0u ahead l s0) (((0:Int),(s1.1.blocks,(s1.1.gen,(s1.1.map,(s1.1.points,(s1.1.last,s1.1.staged))))))) fun s4=> (tb ((decide (s4.1 < (ahead.length:Int)))) none (tc (sDo ((Sa.mk s4.2.1 s4.2.2.1 s4.2.2.2.1 s4.2.2.2.2.1 s4.2.2.2.2.2.1 s4.2.2.2.2.2.2)) ((Ch.mk 4 0 0 (wr (s4.2.2.2.2.2.1+(1:Int))) ([]:List UInt8) ([]:List Ex)))) fun s6=> (th (z0g l s0 s4 s6) (((List.replicate 64 false),((0:Int),(s6.1.blocks,(s6.1.gen,(s6.1.map,(s6.1.points,(s6.1.last,s6.1.staged)))))))) fun s7=> (tb ((decide (s7.2.1 < (l.length:Int)))) none (tc (sDo ((Sa.mk s7.2.2.1 s7.2.2.2.1 s7.2.2.2.2.1 s7.2.2.2.2.2.1 s7.2.2.2.2.2.2.1 s7.2.2.2.2.2.2.2)) ((Ch.mk 4 0 0 (wr ((wr (s4.2.2.2.2.2.1+(1:Int)))+(1:Int))) ([]:List UInt8) ([]:List Ex)))) fun s9=> (tb ((s6.2 !=(0:Int))) (some (s0)) (tb ((s9.2 !=(0:Int))) (some (s0)) (tc (zl6 (s9.1) ((wr (s4.2.2.2.2.2.1+(1:Int)))) ((wr ((wr (s4.2.2.2.2.2.1+(1:Int)))+(1:Int))))) fun s12=> (th (z0e s0 s12 s7) (((List.replicate 64 false),(0:Int))) fun s13=> (tb ((decide (s13.2 < (s12.1.list.length:Int)))) none (tb (s0) (tb ((s12.2==(0:Int))) (tp (((64:Nat)≤(List.length (List.map AV.b s13.1)))) (tp (((64:Nat)≤(List.length (List.map AV.b s7.1)))) (some (((List.take 64 s13.1)==(List.take 64 s7.1)))))) none) none))))))))))))))))
abbrev zj0 (blocks:UInt8) (ahead:List Ch) (l:List Ch) (r:Bool):Prop:=z06 Try.prog cf false 6 [.y (blocks),chs (ahead),chs (l)] (.b (r))
theorem zgx (blocks:UInt8) (ahead:List Ch) (l:List Ch) (r:Bool):z7p blocks ahead l=some r→zj0 blocks ahead l r:=by
 unfold z7p
 exact w6 fun s0 h0=> w6 fun s1 h1=> tbD (fun h2 h2p=> by intro e;injection e with e;subst e;exact x4 z9 (k:=300) (r:=[]) (hs:=hz [(2,[.fres (.b (s0))]),(7,[.fres (.tu [Sa.av (s1.1),.i (s1.2)])]),(5,[.fc]),(5,[.yes,.yes,.yes,.yes]),(3,[])]) (raw:=(AV.b s0)) kq (ac (zbd  _ h0).any0 (ac (zb8 ((wr ((1:Int)+(Int.tmod (wr (↑(UInt8.toNat blocks):Int)) (64:Int))))) _ h1) (ac h2 (ac h2 (ac h2 (ac h2 an)))))) tq) fun h2 h2p=> tbD (fun h3 h3p=> by intro e;injection e with e;subst e;exact x4 z9 (k:=300) (r:=[]) (hs:=hz [(2,[.fres (.b (s0))]),(7,[.fres (.tu [Sa.av (s1.1),.i (s1.2)])]),(5,[.fc]),(5,[.no]),(1,[.no]),(1,[.no]),(1,[.no,.yes]),(2,[])]) (raw:=(AV.b s0)) kq (ac (zbd  _ h0).any0 (ac (zb8 ((wr ((1:Int)+(Int.tmod (wr (↑(UInt8.toNat blocks):Int)) (64:Int))))) _ h1) (ac h2 (ac h2 (ac h2 (ac h2 (ac h3 an))))))) tq) fun h3 h3p=> z13 fun s4 h4=> tbD (fun h5 h5p=> u6) fun h5 h5p=> w6 fun s6 h6=> z13 fun s7 h7=> tbD (fun h8 h8p=> u6) fun h8 h8p=> w6 fun s9 h9=> tbN (fun h10 h10p=> by intro e;injection e with e;subst e;exact x4 z9 (k:=300) (r:=[]) (hs:=hz [(2,[.fres (.b (s0))]),(7,[.fres (.tu [Sa.av (s1.1),.i (s1.2)])]),(5,[.fc]),(5,[.no]),(1,[.no]),(1,[.no]),(1,[.no,.no]),(1,[.head (z0p ahead l s0 s4)]),(4,[.no]),(6,[.fc]),(3,[.fres (.tu [Sa.av (s6.1),.i (s6.2)])]),(4,[.fc]),(4,[.fc]),(1,[.head (z0n l s0 s4 s6 s7)]),(4,[.no]),(1,[.fc]),(4,[.fres (.tu [Sa.av (s9.1),.i (s9.2)])]),(4,[.fc]),(4,[.yes,.yes,.yes]),(3,[])]) (raw:=(AV.b s0)) kq (ac (zbd  _ h0).any0 (ac (zb8 ((wr ((1:Int)+(Int.tmod (wr (↑(UInt8.toNat blocks):Int)) (64:Int))))) _ h1) (ac h2 (ac h2 (ac h2 (ac h2 (ac h3 (ac (show x5 Try.prog cf (lp Try.prog 6 0) (z5f blocks ahead l s0 s1) (z0p ahead l s0 s4) from (x5.of (z4d ahead l s0) (y9 [] [] kq (.consn kq (.eqv tq rfl) (.consn kq (.eqv tq rfl) (.consn kq (.eqv tq rfl) (.consn kq (.pt rfl) (.consn kq (.eqv tq rfl) .nil))))) (.cons (.old rfl rfl (.cells (.cons (.eqv tq rfl) (.cons (.eqv tq rfl) (.cons (.eqv tq rfl) (.cons (.eqv tq rfl) (.cons (.eqv tq rfl) (.cons (.eqv tq rfl) .nil)))))))) .nil)) h4)) (ac h5 (ac (z5z ((Sa.mk s4.2.1 s4.2.2.1 s4.2.2.2.1 s4.2.2.2.2.1 s4.2.2.2.2.2.1 s4.2.2.2.2.2.2)) ((Ch.mk 4 0 0 (wr (s4.2.2.2.2.2.1+(1:Int))) ([]:List UInt8) ([]:List Ex))) _ h6) (ac (show x5 Try.prog cf (lp Try.prog 6 1) (z5c ahead l s0 s4 s6) (z0n l s0 s4 s6 s7) from (x5.of (z4c l s0 s4 s6) (y9 [] [] kq (.consn kq (.eqv tq rfl) (.consn kq (.eqv tq rfl) (.consn kq (.pt rfl) (.consn kq (.eqv tq rfl) (.consn kq (.eqv tq rfl) (.consn kq (.pt rfl) (.consn kq (.eqv tq rfl) .nil))))))) (.cons (.old rfl rfl (.cells (.pl tq pq))) (.cons (.old rfl rfl (.cells (.cons (.eqv tq rfl) (.cons (.eqv tq rfl) (.cons (.eqv tq rfl) (.cons (.eqv tq rfl) (.cons (.eqv tq rfl) (.cons (.eqv tq rfl) .nil)))))))) .nil))) h7)) (ac h8 (ac (z5z ((Sa.mk s7.2.2.1 s7.2.2.2.1 s7.2.2.2.2.1 s7.2.2.2.2.2.1 s7.2.2.2.2.2.2.1 s7.2.2.2.2.2.2.2)) ((Ch.mk 4 0 0 (wr ((wr (s4.2.2.2.2.2.1+(1:Int)))+(1:Int))) ([]:List UInt8) ([]:List Ex))) _ h9) (ac h10 (ac h10 (ac h10 an)))))))))))))))) tq) fun h10 h10p=> tbN (fun h11 h11p=> by intro e;injection e with e;subst e;exact x4 z9 (k:=300) (r:=[]) (hs:=hz [(2,[.fres (.b (s0))]),(7,[.fres (.tu [Sa.av (s1.1),.i (s1.2)])]),(5,[.fc]),(5,[.no]),(1,[.no]),(1,[.no]),(1,[.no,.no]),(1,[.head (z0p ahead l s0 s4)]),(4,[.no]),(6,[.fc]),(3,[.fres (.tu [Sa.av (s6.1),.i (s6.2)])]),(4,[.fc]),(4,[.fc]),(1,[.head (z0n l s0 s4 s6 s7)]),(4,[.no]),(1,[.fc]),(4,[.fres (.tu [Sa.av (s9.1),.i (s9.2)])]),(4,[.fc]),(4,[.no]),(1,[.no]),(1,[.no,.yes]),(2,[])]) (raw:=(AV.b s0)) kq (ac (zbd  _ h0).any0 (ac (zb8 ((wr ((1:Int)+(Int.tmod (wr (↑(UInt8.toNat blocks):Int)) (64:Int))))) _ h1) (ac h2 (ac h2 (ac h2 (ac h2 (ac h3 (ac (show x5 Try.prog cf (lp Try.prog 6 0) (z5f blocks ahead l s0 s1) (z0p ahead l s0 s4) from (x5.of (z4d ahead l s0) (y9 [] [] kq (.consn kq (.eqv tq rfl) (.consn kq (.eqv tq rfl) (.consn kq (.eqv tq rfl) (.consn kq (.pt rfl) (.consn kq (.eqv tq rfl) .nil))))) (.cons (.old rfl rfl (.cells (.cons (.eqv tq rfl) (.cons (.eqv tq rfl) (.cons (.eqv tq rfl) (.cons (.eqv tq rfl) (.cons (.eqv tq rfl) (.cons (.eqv tq rfl) .nil)))))))) .nil)) h4)) (ac h5 (ac (z5z ((Sa.mk s4.2.1 s4.2.2.1 s4.2.2.2.1 s4.2.2.2.2.1 s4.2.2.2.2.2.1 s4.2.2.2.2.2.2)) ((Ch.mk 4 0 0 (wr (s4.2.2.2.2.2.1+(1:Int))) ([]:List UInt8) ([]:List Ex))) _ h6) (ac (show x5 Try.prog cf (lp Try.prog 6 1) (z5c ahead l s0 s4 s6) (z0n l s0 s4 s6 s7) from (x5.of (z4c l s0 s4 s6) (y9 [] [] kq (.consn kq (.eqv tq rfl) (.consn kq (.eqv tq rfl) (.consn kq (.pt rfl) (.consn kq (.eqv tq rfl) (.consn kq (.eqv tq rfl) (.consn kq (.pt rfl) (.consn kq (.eqv tq rfl) .nil))))))) (.cons (.old rfl rfl (.cells (.pl tq pq))) (.cons (.old rfl rfl (.cells (.cons (.eqv tq rfl) (.cons (.eqv tq rfl) (.cons (.eqv tq rfl) (.cons (.eqv tq rfl) (.cons (.eqv tq rfl) (.cons (.eqv tq rfl) .nil)))))))) .nil))) h7)) (ac h8 (ac (z5z ((Sa.mk s7.2.2.1 s7.2.2.2.1 s7.2.2.2.2.1 s7.2.2.2.2.2.1 s7.2.2.2.2.2.2.1 s7.2.2.2.2.2.2.2)) ((Ch.mk 4 0 0 (wr ((wr (s4.2.2.2.2.2.1+(1:Int)))+(1:Int))) ([]:List UInt8) ([]:List Ex))) _ h9) (ac h10 (ac h10 (ac h10 (ac h11 an))))))))))))))))) tq) fun h11 h11p=> w6 fun s12 h12=> z13 fun s13 h13=> tbD (fun h14 h14p=> u6) fun h14 h14p=> t6 (fun h15=> tbE (fun h16 h16p=> x8 fun h17=> x8 fun h18=> by intro e;injection e with e;subst e;exact x4 z9 (k:=300) (r:=[]) (hs:=hz [(2,[.fres (.b (s0))]),(7,[.fres (.tu [Sa.av (s1.1),.i (s1.2)])]),(5,[.fc]),(5,[.no]),(1,[.no]),(1,[.no]),(1,[.no,.no]),(1,[.head (z0p ahead l s0 s4)]),(4,[.no]),(6,[.fc]),(3,[.fres (.tu [Sa.av (s6.1),.i (s6.2)])]),(4,[.fc]),(4,[.fc]),(1,[.head (z0n l s0 s4 s6 s7)]),(4,[.no]),(1,[.fc]),(4,[.fres (.tu [Sa.av (s9.1),.i (s9.2)])]),(4,[.fc]),(4,[.no]),(1,[.no]),(1,[.no,.no]),(1,[.fc]),(4,[.fres (.tu [Sm.av (s12.1),.i (s12.2)])]),(5,[.fc]),(4,[.fc]),(1,[.head (z3n s0 s12 s7 s13)]),(6,[.no]),(2,[.yes]),(1,[.yes]),(1,[.yes]),(1,[.yes,.yes]),(1,[.yes,.yes]),(1,[.yes,.yes,.truth (((List.take 64 s13.1)==(List.take 64 s7.1))),.yes]),(1,[])]) (raw:=(AV.b ((List.take 64 s13.1)==(List.take 64 s7.1)))) kq (ac (zbd  _ h0).any0 (ac (zb8 ((wr ((1:Int)+(Int.tmod (wr (↑(UInt8.toNat blocks):Int)) (64:Int))))) _ h1) (ac h2 (ac h2 (ac h2 (ac h2 (ac h3 (ac (show x5 Try.prog cf (lp Try.prog 6 0) (z5f blocks ahead l s0 s1) (z0p ahead l s0 s4) from (x5.of (z4d ahead l s0) (y9 [] [] kq (.consn kq (.eqv tq rfl) (.consn kq (.eqv tq rfl) (.consn kq (.eqv tq rfl) (.consn kq (.pt rfl) (.consn kq (.eqv tq rfl) .nil))))) (.cons (.old rfl rfl (.cells (.cons (.eqv tq rfl) (.cons (.eqv tq rfl) (.cons (.eqv tq rfl) (.cons (.eqv tq rfl) (.cons (.eqv tq rfl) (.cons (.eqv tq rfl) .nil)))))))) .nil)) h4)) (ac h5 (ac (z5z ((Sa.mk s4.2.1 s4.2.2.1 s4.2.2.2.1 s4.2.2.2.2.1 s4.2.2.2.2.2.1 s4.2.2.2.2.2.2)) ((Ch.mk 4 0 0 (wr (s4.2.2.2.2.2.1+(1:Int))) ([]:List UInt8) ([]:List Ex))) _ h6) (ac (show x5 Try.prog cf (lp Try.prog 6 1) (z5c ahead l s0 s4 s6) (z0n l s0 s4 s6 s7) from (x5.of (z4c l s0 s4 s6) (y9 [] [] kq (.consn kq (.eqv tq rfl) (.consn kq (.eqv tq rfl) (.consn kq (.pt rfl) (.consn kq (.eqv tq rfl) (.consn kq (.eqv tq rfl) (.consn kq (.pt rfl) (.consn kq (.eqv tq rfl) .nil))))))) (.cons (.old rfl rfl (.cells (.pl tq pq))) (.cons (.old rfl rfl (.cells (.cons (.eqv tq rfl) (.cons (.eqv tq rfl) (.cons (.eqv tq rfl) (.cons (.eqv tq rfl) (.cons (.eqv tq rfl) (.cons (.eqv tq rfl) .nil)))))))) .nil))) h7)) (ac h8 (ac (z5z ((Sa.mk s7.2.2.1 s7.2.2.2.1 s7.2.2.2.2.1 s7.2.2.2.2.2.1 s7.2.2.2.2.2.2.1 s7.2.2.2.2.2.2.2)) ((Ch.mk 4 0 0 (wr ((wr (s4.2.2.2.2.2.1+(1:Int)))+(1:Int))) ([]:List UInt8) ([]:List Ex))) _ h9) (ac h10 (ac h10 (ac h10 (ac h11 (ac (zvi (s9.1) ((wr (s4.2.2.2.2.2.1+(1:Int)))) ((wr ((wr (s4.2.2.2.2.2.1+(1:Int)))+(1:Int)))) _ h12) (ac (show x5 Try.prog cf (lp Try.prog 6 3) (zde l s0 s4 s6 s7 s9 s12) (z3n s0 s12 s7 s13) from (x5.of (zc1 s0 s12 s7) (y9 [] [] kq (.consn kq (.eqv tq rfl) (.consn kq (.pt rfl) (.consn kq (.pt rfl) (.consn kq (.eqv tq rfl) (.consn kq (.pt rfl) (.consn kq (.eqv tq rfl) .nil)))))) (.cons (.old rfl rfl (.cells (.pl tq pq))) (.cons (.old rfl rfl (.cells (.pl rfl pq))) (.cons (.old rfl rfl (.cells (.pl rfl (by simp)))) .nil)))) h13)) (ac h14 (ac h15 (ac h15 (ac h15 (ac h16 (ac h17 (ac h16 (ac h18 (ac h16 (ac (fq (p:=(((List.length (List.take 64 (List.map AV.b s13.1)))=(64:Nat))∧((List.length (List.take 64 (List.map AV.b s7.1)))=(64:Nat))))) (ac (show z6k ((List.take 64 (List.map AV.b s13.1))) ((List.take 64 (List.map AV.b s7.1)))=some (((List.take 64 s13.1)==(List.take 64 s7.1))) from (zo5 (by simp) (by simp))) (ac h16 an))))))))))))))))))))))))))))))) tq) fun h16 h16p=> u6) fun h15=> u6
end Ab
end Go.Proofs.Ytpflcogplhigcaa
namespace Go.Proofs.Ytpflcogplhigcaa
open Go Go.Proofs.Ytpflcogplhigcaa.Ab
set_option linter.unusedVariables false
set_option linter.unusedSimpArgs false
namespace Ab
theorem zwj:aw18=some true:=by kernel_rfl
abbrev tqA (i:Int) (s:Sa):Int×Int×Int×List Ex×List Po×Int×List UInt8:=(i,(s.blocks,(s.gen,(s.map,(s.points,(s.last,s.staged))))))
abbrev tqB (i:Int) (q:Sa×List Bool):List Bool×Int×Int×Int×List Ex×List Po×Int×List UInt8:=(q.2,tqA i q.1)
theorem zqf {t:List Bool} (ht:t.length=64) {a n:Int} (ha:0≤a) (hn:1≤n) (h:a+n≤64) {α:Type} {step:Int×List Bool→Option (Int×List Bool)} {f:Int×List Bool→Option α}
 (hs:∀(u:List Bool) (b:Int),u.length=64→0≤b→b < 64→b < a+n→step (b,u)=some (b+1,u.set b.toNat true)) (he:∀u:List Bool,step (a+n,u)=none):th step (a,t) f=f (a+n,z83 t a n):=
 y0s ht ha (by omega) h (fun u b=> (b,u)) hs he
theorem zz9 (l:List Ch) (s0:Bool) (s4:Int×Int×Int×List Ex×List Po×Int×List UInt8) (s6:Sa×Int) {i:Nat} (hi:i < l.length) (hl:l.length≤30) (hc:(d7 l i).list.length≤9223372036854775807) {q:Sa×List Bool} (h1:SOk q.1) (h4:q.2.length=64):
 z0g l s0 s4 s6 (tqB (i:Int) q)=some (tqB ((i:Int)+1) (tch q (d7 l i))):=by
 unfold z0g
 simp only [tqB,tqA,x9,Int.toNat_natCast]
 rw [if_pos (by omega),x6 (by omega),t9 (x:=(i:Int)+1) (by omega) (by omega)]
 unfold tch
 by_cases hk:(d7 l i).kind > 3
 · rw [if_pos hk,if_pos hk]
 rw [if_neg hk,if_neg hk]
 have hdo:=zdp (zjx h1) hc
 rw [show (Sa.mk q.1.blocks q.1.gen q.1.map q.1.points q.1.last q.1.staged)=q.1 from rfl,hdo,v6]
 by_cases he:(doS q.1 (d7 l i)).2=0
 · obtain ⟨b1,b2,b3⟩:=(do_in h1 he).1 (by omega)
   have hw:wr ((d7 l i).lba+(d7 l i).n)=(d7 l i).lba+(d7 l i).n:=t9 (by omega) (by omega)
   simp only [hw]
   rw [zqf h4 b1 b2 b3]
   · dsimp only
     rw [z1u,if_pos he,if_pos he,if_pos (by omega),if_neg (Int.lt_irrefl _)]
     split <;> rfl
   · intro u b hu x1 x2 x3
     unfold z0f
     simp only [x9,z1u,Int.toNat_natCast,hw,Nat.mul_one,Nat.zero_add,List.length_map]
     rw [if_pos he,if_pos (by omega),if_pos (by omega),x6 (by omega),if_pos (by omega),x6 ⟨trivial,by omega⟩,t9 (by omega) (by omega)]
   · intro u
     unfold z0f
     simp only [x9,z1u,Int.toNat_natCast,hw]
     rw [if_pos he,if_pos (by omega)]
     split
     · rw [x6 (by omega),if_neg (by omega)]
     · rfl
 · have:=z15 (step:=z0f l s0 s4 s6 (tqB (i:Int) q) (doS q.1 (d7 l i))) (fun _=> ((d7 l i).lba,q.2)) 0 (fun j hj=> absurd hj (by omega)) (by
    unfold z0f
    simp only [x9,z1u]
    rw [if_neg he]) (f:=fun s12=> (tb (((doS q.1 (d7 l i)).2==0)) (tb ((decide (s12.1≥0))) (tb ((decide (s12.1 < 64))) (tb ((decide (s12.1 < (wr ((d7 l i).lba+(d7 l i).n))))) none (some (tqB ((i:Int)+1) ((doS q.1 (d7 l i)).1,s12.2)))) (some (tqB ((i:Int)+1) ((doS q.1 (d7 l i)).1,s12.2)))) (some (tqB ((i:Int)+1) ((doS q.1 (d7 l i)).1,s12.2)))) (some (tqB ((i:Int)+1) ((doS q.1 (d7 l i)).1,s12.2)))))
   simp only [tqB,tqA,x9,z1u] at this⊢
   rw [this,if_neg he,if_neg he]
theorem y04 (s0:Bool) (s12:Sm×Int) (s7:List Bool×Int×Int×Int×List Ex×List Po×Int×List UInt8) {i:Nat} (hi:i < s12.1.list.length) (hl:s12.1.list.length≤64) (hx:∀x∈s12.1.list,Ck x) {t:List Bool} (h4:t.length=64):
 z0e s0 s12 s7 (t,(i:Int))=some (z83 t (z0 s12.1.list i).lba (z0 s12.1.list i).len,(i:Int)+1):=by
 unfold z0e
 have hck:=(z1m s12.1.list Ck).2 hx i hi
 obtain ⟨b1,b2,b3⟩:=ck_in hck
 have hw:wr ((z0 s12.1.list i).lba+(z0 s12.1.list i).len)=(z0 s12.1.list i).lba+(z0 s12.1.list i).len:=t9 (by omega) (by omega)
 simp only [x9,Int.toNat_natCast,hw]
 rw [if_pos (by omega),x6 (by omega),t9 (x:=(i:Int)+1) (by omega) (by omega),zqf h4 b1 b2 b3]
 · dsimp only
   rw [if_pos (by omega),if_neg (Int.lt_irrefl _)]
   split <;> rfl
 · intro u b hu x1 x2 x3
   unfold z1e
   simp only [x9,Int.toNat_natCast,hw,Nat.mul_one,Nat.zero_add,List.length_map]
   rw [if_pos (by omega),if_pos (by omega),x6 (by omega),if_pos (by omega),x6 ⟨trivial,by omega⟩,t9 (by omega) (by omega)]
 · intro u
   unfold z1e
   simp only [x9,Int.toNat_natCast,hw]
   rw [if_pos (by omega)]
   split
   · rw [x6 (by omega),if_neg (by omega)]
   · rfl
theorem zdb (blocks:UInt8) (ahead l:List Ch) (ha:∀c∈ahead,c.list.length≤9223372036854775807) (hl:∀c∈l,c.list.length≤9223372036854775807):z7p blocks ahead l=some true:=by
 unfold z7p
 have hw:blocks.toNat < 256:=blocks.toNat_lt
 obtain ⟨b,hB,hb⟩:∃b:Int,wr (1+(Int.tmod (wr (blocks.toNat:Int)) 64))=b∧1≤b∧b≤64:=by
  refine ⟨_,rfl,?_⟩
  rw [t9 (x:=((blocks.toNat:Nat):Int)) (by omega) (by omega)]
  have ht:Int.tmod ((blocks.toNat:Nat):Int) 64=((blocks.toNat % 64:Nat):Int):=rfl
  rw [ht,t9 (by omega) (by omega)]
  omega
 simp only [hB]
 rw [zwj,v6,zwn,v6,nw_eq hb]
 simp only [x9]
 by_cases g1:(ahead.length:Int) > 30
 · rw [if_pos g1]
 by_cases g2:(l.length:Int) > 30
 · rw [if_neg g1,if_pos g2]
 rw [if_neg g1,if_neg g2]
 have ha':=(zke ahead fun c=> c.list.length≤9223372036854775807).2 ha
 have hl':=(zke l fun c=> c.list.length≤9223372036854775807).2 hl
 have inv0:=fun i=> zqk (ahead.take i) (s1 b) (s1_ok hb) (s1_sz b) rfl
 -- the changes ahead
 have run0:=fun f=> z15 (α:=Bool) (step:=z0u ahead l true) (f:=f) (fun i=> tqA (i:Int) (dos (s1 b) (ahead.take i))) ahead.length (fun i hi=> by
  unfold z0u
  simp only [tqA,x9,Int.toNat_natCast]
  rw [if_pos (by omega),x6 (by omega),t9 (x:=(i:Int)+1) (by omega) (by omega)]
  have:=zdp (s:=dos (s1 b) (ahead.take i)) (c:=d7 ahead i) (zjx (inv0 i).1) (ha' i hi)
  rw [show (Sa.mk (dos (s1 b) (ahead.take i)).blocks (dos (s1 b) (ahead.take i)).gen (dos (s1 b) (ahead.take i)).map (dos (s1 b) (ahead.take i)).points (dos (s1 b) (ahead.take i)).last (dos (s1 b) (ahead.take i)).staged)=dos (s1 b) (ahead.take i) from rfl,this,v6,zsi _ _ _ hi]
  simp) (by
  unfold z0u
  simp only [tqA,x9]
  rw [if_neg (by omega)])
 have e0:dos (s1 b) (ahead.take 0)=s1 b:=rfl
 rw [List.take_length,e0] at run0
 refine (run0 _).trans ?_
 have invA:=inv0 ahead.length
 rw [List.take_length] at invA
 generalize dos (s1 b) ahead=s at invA
 obtain ⟨hs,hz,hsb⟩:=invA
 dsimp only [tqA]
 rw [if_neg (by omega),show (Sa.mk s.blocks s.gen s.map s.points s.last s.staged)=s from rfl]
 have hla:0≤s.last∧s.last≤2147483647:=⟨hs.2.2.2.2.1,hs.2.2.2.2.2.1⟩
 rw [t9 (x:=s.last+1) (by omega) (by omega),t9 (x:=s.last+1+1) (by omega) (by omega),zdp hz (by simp),v6]
 -- behind the first checkpoint
 have hm1:=fun he=> zxw (c:=⟨4,0,0,s.last+1,[],[]⟩) hs rfl he
 have h1ok:=zjt hs ⟨4,0,0,s.last+1,[],[]⟩
 have h1z:=ziw (c:=⟨4,0,0,s.last+1,[],[]⟩) hz hs
 have h1b:=(z7w hs ⟨4,0,0,s.last+1,[],[]⟩).trans hsb
 generalize doS s ⟨4,0,0,s.last+1,[],[]⟩=m at hm1 h1ok h1z h1b
 have inv1:m.2=0→TcI b s.gen (s.points++[⟨s.last+1,s.gen,s.map⟩]) (s.last+1) (m.1,List.replicate 64 false):=fun he=> by
  have hm:=hm1 he
  refine ⟨h1ok,h1z,h1b,List.length_replicate,by rw [hm],by rw [hm],fun _=> ?_⟩
  refine zf7 zpp fun k=> ?_
  rw [hm]
  exact ⟨fun g=> g.elim,fun g=> absurd g (zxu hs)⟩
 have inv2:∀i,SOk ((l.take i).foldl tch (m.1,List.replicate 64 false)).1∧((l.take i).foldl tch (m.1,List.replicate 64 false)).2.length=64:=fun i=> by
  have:=(zgh (b:=b) (g:=m.1.gen) (ps:=m.1.points) (la:=m.1.last) (l.take i) (m.1,List.replicate 64 false) ⟨h1ok,h1z,h1b,List.length_replicate,rfl,rfl,fun g=> absurd g (Int.lt_irrefl _)⟩).1
  exact ⟨this.1,this.2.2.2.1⟩
 have run1:=fun s4 f=> z15 (α:=Bool) (step:=z0g l true s4 m) (f:=f) (fun i=> tqB (i:Int) ((l.take i).foldl tch (m.1,List.replicate 64 false))) l.length (fun i hi=> by
  rw [zz9 l true s4 m hi (by omega) (hl' i hi) (inv2 i).1 (inv2 i).2,zt4 _ _ _ hi]
  simp) (by
  unfold z0g
  simp only [tqB,tqA,x9]
  rw [if_neg (by omega)])
 rw [List.take_length] at run1
 refine (run1 _ _).trans ?_
 have inv3:=inv2 l.length
 have inv4:=fun he=> zgh l _ (inv1 he)
 rw [List.take_length] at inv3
 generalize l.foldl tch (m.1,List.replicate 64 false)=q at inv3 inv4
 dsimp only [tqB,tqA]
 rw [if_neg (by omega),show (Sa.mk q.1.blocks q.1.gen q.1.map q.1.points q.1.last q.1.staged)=q.1 from rfl,zdp (zjx inv3.1) (by simp),v6]
 have hm2:=fun he=> zxw (c:=⟨4,0,0,s.last+1+1,[],[]⟩) inv3.1 rfl he
 have h2ok:=zjt inv3.1 ⟨4,0,0,s.last+1+1,[],[]⟩
 have h2b:=z7w inv3.1 ⟨4,0,0,s.last+1+1,[],[]⟩
 generalize doS q.1 ⟨4,0,0,s.last+1+1,[],[]⟩=w at hm2 h2ok h2b
 rw [z1c,z1c]
 by_cases e2:m.2=0
 case neg=> rw [if_neg e2]
 by_cases e3:w.2=0
 case neg=> rw [if_pos e2,if_neg e3]
 rw [if_pos e2,if_pos e3,zus (zjx h2ok),v6]
 obtain ⟨⟨i1,i2,i3,i4,i5,i6,i7⟩,i8⟩:=inv4 e2
 have hm:=hm1 e2
 have hg1:m.1.gen=s.gen+1:=by rw [hm]
 have hgq:s.gen < q.1.gen:=by have:q.1.gen=m.1.gen:=i8;omega
 have hwS:=hm2 e3
 have hpts:w.1.points=s.points++[⟨s.last+1,s.gen,s.map⟩]++[⟨s.last+1+1,q.1.gen,q.1.map⟩]:=by rw [hwS,←i5]
 have hp1:v9 w.1.points s.points.length=⟨s.last+1,s.gen,s.map⟩:=by rw [hpts];simp [v9]
 have hp2:v9 w.1.points (s.points.length+1)=⟨s.last+1+1,q.1.gen,q.1.map⟩:=by
  rw [hpts];simp [v9,List.getElem?_append]
 have hlen:w.1.points.length=s.points.length+2:=by rw [hpts];simp
 have f1:=zyi h2ok (k:=s.points.length) (by omega)
 have f2:=zyi h2ok (k:=s.points.length+1) (by omega)
 rw [hp1] at f1
 rw [hp2] at f2
 dsimp only at f1 f2
 have hla2:w.1.last=s.last+1+1:=by rw [hwS]
 have hlw:w.1.last≤2147483647:=h2ok.2.2.2.2.2.1
 have hmk:makV w.1 (s.last+1) (s.last+1+1)=mkV w.1 (s.last+1) (s.last+1+1) (z59 (fun x=> decide (x.gen > s.gen)) 0 q.1.map):=by
  unfold makV
  rw [f1,f2]
  dsimp only
  rw [if_neg (by simp),if_pos (by omega),if_neg (by simp),if_neg (by omega)]
 have hmk0:Mk w.1.blocks q.1.map:=by rw [h2b];exact i1.1.1
 obtain ⟨v1,v2,v3,v4,v5⟩:=y02 (s:=w.1) (a:=s.last+1) (c:=s.last+1+1) hmk0 (fun x=> decide (x.gen > s.gen)) (by omega) (by omega)
 rw [hmk,v1]
 obtain ⟨o1,o2,o3⟩:=zy5 hmk0 (fun x=> decide (x.gen > s.gen)) (g:=0) (by omega)
 have hon:=fun k=> (on_pk o1 o3 (k:=k)).trans (on_of (g:=s.gen) (a:=0) (k:=k) (m:=q.1.map))
 generalize (pk (z59 (fun x=> decide (x.gen > s.gen)) 0 q.1.map)).1=o at v3 v5 hon
 have run2:=fun s7 f=> zjd (α:=Bool) (step:=z0e true (⟨w.1.blocks,s.last+1,s.last+1+1,o⟩,0) s7) (f:=f) (fun i=> zk7 (List.replicate 64 false) (o.take i)) o.length (fun i hi=> by
  rw [y04 true (⟨w.1.blocks,s.last+1,s.last+1+1,o⟩,0) s7 hi v5 (fun x hx=> (zi9 v3 x hx).1) (by rw [zle];exact List.length_replicate),zrj _ _ _ hi]) (by
  unfold z0e
  simp only [x9]
  rw [if_neg (by omega)])
 rw [List.take_length] at run2
 refine (run2 _ _).trans ?_
 dsimp only
 have tl1:Tl (zk7 (List.replicate 64 false) o) (Nw s.gen q.1.map):=zf7 (zpm o zpp) fun k=> by
  rw [hon k];exact ⟨fun g=> g.elim (fun g=> g.elim) id,.inr⟩
 have tl2:=i7 hgq
 rw [z1u,if_neg (by omega),z68,if_pos rfl,x6 (by rw [List.length_map,tl1.1];exact Nat.le_refl _),x6 (by rw [List.length_map,tl2.1];exact Nat.le_refl _),zwi tl1 tl2]
 simp
theorem sendTells_call (blocks:UInt8) (ahead l:List Ch) (ha:Ln ahead∧∀x∈ahead,Ch.ok x) (hl:Ln l∧∀x∈l,Ch.ok x):z06 Try.prog cf false 6 [.y blocks,chs ahead,chs l] (.b true):=
 zgx blocks ahead l true (zdb blocks ahead l (fun c hc=> (ha.2 c hc).2.2.2.2.2.1) fun c hc=> (hl.2 c hc).2.2.2.2.2.1)
end Ab
end Go.Proofs.Ytpflcogplhigcaa
