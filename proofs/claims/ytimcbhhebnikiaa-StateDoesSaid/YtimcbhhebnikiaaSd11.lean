/- The law 'StateDoes': it returns true, and nothing that was there changes. No condition. (Part 11 of 12.) -/
import Derived.Test.YtimcbhhebnikiaaSd10
import Derived.Test.YtimcbhhebnikiaaRows
namespace Go.Proofs.Ytimcbhhebnikiaa
open Go Go.Proofs.Ytimcbhhebnikiaa.Ab
set_option linter.unusedVariables false
set_option linter.unusedSimpArgs false
namespace Ab
theorem zt4 (n low high:Int):z0p n low high=some (decide (low≤n∧n≤high)):=by
 unfold z0p
 rw [x8]
 by_cases h:n≥low
 · rw [if_pos h];congr 1;exact decide_eq_decide.2 ⟨fun g=> ⟨h,g⟩,fun g=> g.2⟩
 · rw [if_neg h,decide_eq_false fun g:low≤n∧n≤high=> h g.1]
def z8p (l:List Ex) (i:Nat):Int:=if i=0 then 0 else (z0 l (i - 1)).lba+(z0 l (i - 1)).len
theorem ziw (l:List Ex) (i:Nat):z8p l (i+1)=(z0 l i).lba+(z0 l i).len:=by simp [z8p]
def FP (l:List Ex) (i:Nat):Prop:=Ck (z0 l i)∧z8p l i≤(z0 l i).lba
def Fo (l:List Ex):Prop:=(∀i,i < l.length→FP l i)∧l.length≤64
instance (l:List Ex) (i:Nat):Decidable (FP l i):=by unfold FP;infer_instance
instance (l:List Ex):Decidable (Fo l):=by unfold Fo;infer_instance
theorem y3h:Fo []:=⟨fun i hi=> by simp at hi,by simp⟩
theorem zoq (l:List Ex) (hl:l.length≤9223372036854775807):zap l=some (decide (Fo l)):=by
 unfold zap
 have h0:((0:Int),(0:Int))=(z8p l 0,((0:Nat):Int)):=by simp [z8p]
 rw [h0]
 have:=fun f hs hf he=> z91 (α:=Bool) (step:=z14 l) (f:=f) (some false) (some (decide ((l.length:Int)≤64))) (fun i=> (z8p l i,(i:Int))) l.length (FP l) (∀i,i < l.length→FP l i) Iff.rfl hs hf he
 rw [this _ ?_ ?_ ?_]
 · by_cases h:∀i,i < l.length→FP l i
   · rw [if_pos h];congr 1;exact decide_eq_decide.2 ⟨fun g=> ⟨h,by omega⟩,fun g=> by have:=g.2;omega⟩
   · rw [if_neg h,decide_eq_false fun g:Fo l=> h g.1]
 · intro i hi _ hp
   unfold z14
   have h1:=hp.1
   have h2:=hp.2
   have h3:=z01 h1
   simp only [x8,z08,z5j,x6,Int.toNat_natCast]
   rw [if_pos (by omega),y9 (by omega),z8g h1,z2w,if_neg (by omega),u7 (by omega) (by omega),u7 (by omega) (by omega),ziw]
   rfl
 · intro i hi _ hp
   unfold z14
   simp only [x8,z08,z5j,x6,Int.toNat_natCast]
   by_cases h1:Ck (z0 l i)
   · have h2:(z0 l i).lba < z8p l i:=by
      rcases Int.lt_or_le (z0 l i).lba (z8p l i) with g | g
      · exact g
      · exact absurd ⟨h1,g⟩ hp
     refine ⟨?_,?_⟩ <;> rw [if_pos (by omega),y9 (by omega),z8g h1,z2w,if_pos h2]
   · refine ⟨?_,?_⟩ <;> rw [if_pos (by omega),y9 (by omega),z5e h1,z7e]
 · intro _
   unfold z14
   simp only [x8]
   rw [if_neg (by omega),if_neg (by omega)]
   exact ⟨rfl,rfl⟩
def CkH (c:Ch):Prop:=
 (c.kind=1∧(0≤c.lba∧c.lba≤64∧1≤c.n∧c.n≤64 - c.lba)∧c.id=0∧(c.d.length:Int)=c.n*32∧c.list.length=0)∨
 ((c.kind=2∨c.kind=3)∧(0≤c.lba∧c.lba≤64∧1≤c.n∧c.n≤64 - c.lba)∧c.id=0∧c.d.length=0∧c.list.length=0)∨
 ((c.kind=4∨c.kind=5)∧(c.lba=0∧c.n=0)∧(1≤c.id∧c.id≤2147483647)∧c.d.length=0∧c.list.length=0)∨
 (c.kind=6∧(c.lba=0∧c.n=0)∧c.id=0∧(1≤c.d.length∧c.d.length≤1000)∧c.list.length=0)∨
 (c.kind=7∧(c.lba=0∧c.n=0)∧c.id=0∧c.d.length=0∧c.list.length=0)∨
 (c.kind=8∧(c.lba=0∧c.n=0)∧(1≤c.id∧c.id≤2147483647)∧c.d.length=0∧Fo c.list)
instance (c:Ch):Decidable (CkH c):=by unfold CkH;infer_instance
theorem ztf {c:Ch} (h:c.kind=1):CkH c↔(0≤c.lba∧c.lba≤64∧1≤c.n∧c.n≤64 - c.lba)∧c.id=0∧(c.d.length:Int)=c.n*32∧c.list.length=0:=by simp [CkH,h]
theorem zza {c:Ch} (h:c.kind=2):CkH c↔(0≤c.lba∧c.lba≤64∧1≤c.n∧c.n≤64 - c.lba)∧c.id=0∧c.d.length=0∧c.list.length=0:=by simp [CkH,h]
theorem zzg {c:Ch} (h:c.kind=3):CkH c↔(0≤c.lba∧c.lba≤64∧1≤c.n∧c.n≤64 - c.lba)∧c.id=0∧c.d.length=0∧c.list.length=0:=by simp [CkH,h]
theorem y1o {c:Ch} (h:c.kind=4):CkH c↔(c.lba=0∧c.n=0)∧(1≤c.id∧c.id≤2147483647)∧c.d.length=0∧c.list.length=0:=by simp [CkH,h]
theorem y1k {c:Ch} (h:c.kind=5):CkH c↔(c.lba=0∧c.n=0)∧(1≤c.id∧c.id≤2147483647)∧c.d.length=0∧c.list.length=0:=by simp [CkH,h]
theorem y1x {c:Ch} (h:c.kind=6):CkH c↔(c.lba=0∧c.n=0)∧c.id=0∧(1≤c.d.length∧c.d.length≤1000)∧c.list.length=0:=by simp [CkH,h]
theorem y1u {c:Ch} (h:c.kind=7):CkH c↔(c.lba=0∧c.n=0)∧c.id=0∧c.d.length=0∧c.list.length=0:=by simp [CkH,h]
theorem zxo {c:Ch} (h:c.kind=8):CkH c↔(c.lba=0∧c.n=0)∧(1≤c.id∧c.id≤2147483647)∧c.d.length=0∧Fo c.list:=by simp [CkH,h]
theorem zdl {c:Ch} (h:CkH c):1≤c.kind∧c.kind≤8:=by unfold CkH at h;omega
theorem zrm {p:Prop} [Decidable p] (h:p):some true=some (decide p):=by rw [decide_eq_true h]
theorem z4p {p:Prop} [Decidable p] (h:¬p):some false=some (decide p):=by rw [decide_eq_false h]
theorem zr7 (p:Prop) [Decidable p]:(if p then some true else some false)=some (decide p):=by by_cases h:p <;> simp [h]
theorem z39 (p q:Prop) [Decidable p] [Decidable q]:(if p then some (decide q) else some false)=some (decide (p∧q)):=by by_cases h:p <;> simp [h]
theorem zup (c:Ch) (hl:c.list.length≤9223372036854775807):zh9 c=some (decide (CkH c)):=by
 unfold zh9
 simp only [zt4,x6,z08,x8,z0j,zoq _ hl]
 by_cases hk:1≤c.kind∧c.kind≤8
 case neg=> rw [if_neg hk];exact z4p fun h=> hk (zdl h)
 rw [if_pos hk,if_neg (by omega)]
 have w:0≤c.lba→c.lba≤64→wr (64 - c.lba)=64 - c.lba:=fun h1 h2=> u7 (by omega) (by omega)
 have w2:0≤c.n→c.n≤64→wr (c.n*32)=c.n*32:=fun h1 h2=> u7 (by omega) (by omega)
 by_cases k1:c.kind=1
 · rw [if_pos k1]
   by_cases hb:0≤c.lba∧c.lba≤64
   case neg=> simp only [if_neg hb,ite_self];exact z4p fun h=> by rw [ztf k1] at h;omega
   simp only [if_pos hb,w hb.1 hb.2]
   by_cases hn:1≤c.n∧c.n≤64 - c.lba
   case neg=> simp only [if_neg hn,ite_self];exact z4p fun h=> by rw [ztf k1] at h;omega
   simp only [if_pos hn,w2 (by omega) (by omega)]
   simp only [ite_self,zr7,z39]
   congr 1
   exact decide_eq_decide.2 (by rw [ztf k1];omega)
 rw [if_neg k1]
 by_cases k2:c.kind=2
 · rw [if_pos k2]
   by_cases hb:0≤c.lba∧c.lba≤64
   case neg=> simp only [if_neg hb,ite_self];exact z4p fun h=> by rw [zza k2] at h;omega
   simp only [if_pos hb,w hb.1 hb.2]
   simp only [ite_self,zr7,z39]
   congr 1
   exact decide_eq_decide.2 (by rw [zza k2];omega)
 rw [if_neg k2]
 by_cases k3:c.kind=3
 · rw [if_pos k3]
   by_cases hb:0≤c.lba∧c.lba≤64
   case neg=> simp only [if_neg hb,ite_self];exact z4p fun h=> by rw [zzg k3] at h;omega
   simp only [if_pos hb,w hb.1 hb.2]
   simp only [ite_self,zr7,z39]
   congr 1
   exact decide_eq_decide.2 (by rw [zzg k3];omega)
 rw [if_neg k3]
 by_cases k4:c.kind=4
 · rw [if_pos k4]
   simp only [ite_self,zr7,z39]
   congr 1
   exact decide_eq_decide.2 (by rw [y1o k4];omega)
 rw [if_neg k4]
 by_cases k5:c.kind=5
 · rw [if_pos k5]
   simp only [ite_self,zr7,z39]
   congr 1
   exact decide_eq_decide.2 (by rw [y1k k5];omega)
 rw [if_neg k5]
 by_cases k6:c.kind=6
 · rw [if_pos k6]
   simp only [ite_self,zr7,z39]
   congr 1
   exact decide_eq_decide.2 (by rw [y1x k6];omega)
 rw [if_neg k6]
 by_cases k7:c.kind=7
 · rw [if_pos k7]
   simp only [ite_self,zr7,z39]
   congr 1
   exact decide_eq_decide.2 (by rw [y1u k7];omega)
 rw [if_neg k7]
 have k8:c.kind=8:=by omega
 rw [if_pos k8]
 have e8:Fo c.list→(c.lba=0∧c.n=0)→(1≤c.id∧c.id≤2147483647)→c.d.length=0→CkH c:=fun a b d e=> (zxo k8).2 ⟨b,d,e,a⟩
 have f8:CkH c→(c.lba=0∧c.n=0)∧(1≤c.id∧c.id≤2147483647)∧c.d.length=0∧Fo c.list:=(zxo k8).1
 by_cases h1:c.lba=0
 case neg=> rw [if_neg h1];exact z4p fun h=> h1 (f8 h).1.1
 rw [if_pos h1]
 by_cases h2:c.n=0
 case neg=> rw [if_neg h2];exact z4p fun h=> h2 (f8 h).1.2
 rw [if_pos h2]
 by_cases h3:1≤c.id∧c.id≤2147483647
 case neg=> rw [if_neg h3];exact z4p fun h=> h3 (f8 h).2.1
 rw [if_pos h3]
 by_cases h4:(c.d.length:Int)=0
 case neg=> rw [if_neg h4];exact z4p fun h=> h4 (by have:=(f8 h).2.2.1;omega)
 rw [if_pos h4]
 by_cases h5:(c.list.length:Int)=0
 · rw [if_pos h5]
   have:c.list=[]:=List.eq_nil_of_length_eq_zero (by omega)
   exact zrm (e8 (this▸y3h) ⟨h1,h2⟩ h3 (by omega))
 rw [if_neg h5]
 congr 1
 exact decide_eq_decide.2 ⟨fun h=> e8 h ⟨h1,h2⟩ h3 (by omega),fun h=> (f8 h).2.2.2⟩
def znw (c:Ch):Prop:=c.d.length≤5000∧zfy c.list
instance (c:Ch):Decidable (znw c):=by unfold znw;infer_instance
theorem zo4 (c:Ch):zl8 c=some (decide (znw c)):=by
 unfold zl8
 rw [x8,zgr,x6]
 by_cases h:(c.d.length:Int)≤5000
 · rw [if_pos h];congr 1;exact decide_eq_decide.2 ⟨fun g=> ⟨by omega,g⟩,fun g=> g.2⟩
 · rw [if_neg h];exact z4p fun g=> h (by have:=g.1;omega)
def zwd (l:List Ch):Prop:=l.length≤30∧∀c∈l,znw c
instance (l:List Ch):Decidable (zwd l):=by unfold zwd;infer_instance
theorem zeg (l:List Ch) (p:Ch→Prop):(∀i,i < l.length→p (z1k l i))↔∀x∈l,p x:=by
 unfold z1k;exact zeh _ l p
theorem zs1 (l:List Ch):changes l=some (decide (zwd l)):=by
 unfold changes
 rw [x8]
 by_cases h:(l.length:Int) > 30
 · rw [if_pos h];exact z4p fun g=> by have:=g.1;omega
 rw [if_neg h,z5o (some false) (some true) l.length (fun i=> znw (z1k l i)) (∀c∈l,znw c) (zeg l znw)]
 · by_cases g:∀c∈l,znw c
   · rw [if_pos g];exact zrm ⟨by omega,g⟩
   · rw [if_neg g];exact z4p fun q=> g q.2
 · intro i hi hq
   unfold z1t
   simp only [x8,z08,Int.toNat_natCast]
   rw [if_pos (by omega),y9 (by omega),zo4,x6,decide_eq_true hq,z2w,u7 (by omega) (by omega)]
 · intro i hi hq
   unfold z1t
   simp only [x8,z08,Int.toNat_natCast]
   rw [if_pos (by omega),y9 (by omega),zo4,x6,decide_eq_false hq,z7e,if_pos (by omega),y9 (by omega),x6,z7e]
   exact ⟨rfl,rfl⟩
 · unfold z1t
   simp only [x8]
   rw [if_neg (by omega),if_neg (by omega)]
   exact ⟨rfl,rfl⟩
end Ab
end Go.Proofs.Ytimcbhhebnikiaa
namespace Go.Proofs.Ytimcbhhebnikiaa
open Go Go.Proofs.Ytimcbhhebnikiaa.Ab
set_option linter.unusedVariables false
set_option linter.unusedSimpArgs false
namespace Ab
theorem zzy (l:List Ex) (hl:l.length≤4294967295) (hd:∀x∈l,x.d.length≤4294967296):zj8 l=some l:=by
 unfold zj8
 have hstep:∀i:Nat,i < l.length→z27 l (l.take i,(i:Int))=some (l.take (i+1),(i:Int)+1):=by
  intro i hi
  have h1:=(z28 l (fun x=> x.d.length≤4294967296)).2 hd i hi
  unfold z27
  simp only [x8,Int.toNat_natCast]
  rw [if_pos (by omega),y9 (by omega),y9 h1,y9 ⟨u0 _,by rw [List.length_take];omega⟩,u7 (by omega) (by omega),z7l ⟨0,0,0,0,[]⟩ l i hi]
  rfl
 have he:z27 l (l.take l.length,(l.length:Int))=none:=by
  unfold z27
  simp only [x8]
  rw [if_neg (by omega)]
 have:=fun f=> y05 (α:=List Ex) (step:=z27 l) (f:=f) (fun i=> l.take i) l.length hstep he
 simp only [List.take_zero] at this
 rw [this]
 simp only [x8]
 rw [if_neg (by omega),y9 (by first | exact ⟨rfl,u0 _⟩ | exact ⟨trivial,u0 _⟩),List.take_length]
end Ab
end Go.Proofs.Ytimcbhhebnikiaa
namespace Go.Proofs.Ytimcbhhebnikiaa
open Go Go.Proofs.Ytimcbhhebnikiaa.Ab
set_option linter.unusedVariables false
set_option linter.unusedSimpArgs false
namespace Ab
noncomputable def putB (out:List Ex) (y:Ex):Option (List Ex×List Ex):=
 (tb ((decide ((↑(List.length out):Int) > (0:Int))))
  (tp ((((0:Int)≤(wr ((↑(List.length out):Int) - (1:Int))))∧((wr ((↑(List.length out):Int) - (1:Int))) < (↑(List.length out):Int))))
   (tc (za5 ((z0 out (Int.toNat (wr ((↑(List.length out):Int) - (1:Int)))))) (y)) fun s13=>
    (tb ((s13.2==(0:Int)))
     (tp ((((List.length (xc s13.1))=(5:Nat))∧((((0:Nat)+((Int.toNat (wr ((↑(List.length out):Int) - (1:Int))))*(5:Nat)))+(List.length (xc s13.1)))≤(List.length (List.flatMap Ex.cells out)))))
      (some ((([]:List Ex),(List.set out (Int.toNat (wr ((↑(List.length out):Int) - (1:Int)))) s13.1)))))
     (tp ((((List.length (List.flatMap Ex.cells out))=((List.length out)*(5:Nat)))∧(((List.length out)+(1:Nat))≤(4294967296:Nat))))
      (some ((([]:List Ex),(out++[y]))))))))
  (tp ((((List.length (List.flatMap Ex.cells out))=((List.length out)*(5:Nat)))∧(((List.length out)+(1:Nat))≤(4294967296:Nat))))
   (some ((([]:List Ex),(out++[y]))))))
theorem z6m (out:List Ex) (y:Ex) (ho:out.length≤1000000):putB out y=some ([],add out y):=by
 unfold putB
 simp only [x8,z0j]
 by_cases h0:out=[]
 · subst h0
   rw [if_neg (by simp),y9 ⟨by simp,by simp⟩,y0x];rfl
 · have hl:0 < out.length:=List.length_pos_iff.2 h0
   have hw:wr ((out.length:Int) - 1)=((out.length - 1:Nat):Int):=by rw [u7 (by omega) (by omega)];omega
   rw [if_pos (by omega),hw,y9 (by omega),Int.toNat_natCast,ztz out h0 _ rfl,zx9,x6]
   by_cases hj:Jn (out.getLastD ⟨0,0,0,0,[]⟩) y
   · have e:jnv (out.getLastD ⟨0,0,0,0,[]⟩) y=(jnx (out.getLastD ⟨0,0,0,0,[]⟩) y,0):=if_pos hj
     rw [e,if_pos rfl,y9 ⟨rfl,by rw [u0];simp;omega⟩,y2r h0 hj,zfq out h0 _ rfl]
   · have e:jnv (out.getLastD ⟨0,0,0,0,[]⟩) y=(⟨0,0,0,0,[]⟩,70):=if_neg hj
     rw [e,if_neg (by simp),y9 ⟨u0 _,by omega⟩,y36 hj]
section
variable (blocks : Int) (l : List Ex) (x : Ex) (s0 s2 : Bool)
theorem b1_eq (s5:Bool×Int×List Ex) (s8:Ex×Bool) (h:s5.2.2.length≤1000000):zgl blocks l x s0 s2 s5 s8=some ([],add s5.2.2 s8.1):=z6m s5.2.2 s8.1 h
theorem b2_eq (s5:Bool×Int×List Ex) (s8:Ex×Bool) (s10:List Ex×List Ex) (h:s10.2.length≤1000000):zgk blocks l x s0 s2 s5 s8 s10=some ([],add s10.2 x):=z6m s10.2 x h
theorem b3_eq (s5:Bool×Int×List Ex) (s8:Ex×Bool) (s10 s13:List Ex×List Ex) (s14:Ex×Bool) (h:s13.2.length≤1000000):zgm blocks l x s0 s2 s5 s8 s10 s13 s14=some ([],add s13.2 s14.1):=z6m s13.2 s14.1 h
theorem b4_eq (s5:Bool×Int×List Ex) (s8:Ex×Bool) (s10:List Ex×List Ex) (s13:Ex×Bool) (h:s10.2.length≤1000000):zbi blocks l x s0 s2 s5 s8 s10 s13=some ([],add s10.2 s13.1):=z6m s10.2 s13.1 h
theorem b5_eq (s5:Bool×Int×List Ex) (s8:Ex×Bool) (s10:List Ex×List Ex) (s12:Ex×Bool) (h:s10.2.length≤1000000):zbi blocks l x s0 s2 s5 s8 s10 s12=some ([],add s10.2 s12.1):=z6m s10.2 s12.1 h
theorem b6_eq (s5:Bool×Int×List Ex) (s8:Ex×Bool) (h:s5.2.2.length≤1000000):zgn blocks l x s0 s2 s5 s8=some ([],add s5.2.2 x):=z6m s5.2.2 x h
theorem b7_eq (s5:Bool×Int×List Ex) (s8:Ex×Bool) (s12:List Ex×List Ex) (s13:Ex×Bool) (h:s12.2.length≤1000000):zgp blocks l x s0 s2 s5 s8 s12 s13=some ([],add s12.2 s13.1):=z6m s12.2 s13.1 h
theorem b8_eq (s5:Bool×Int×List Ex) (s8 s12:Ex×Bool) (h:s5.2.2.length≤1000000):zbu blocks l x s0 s2 s5 s8 s12=some ([],add s5.2.2 s12.1):=z6m s5.2.2 s12.1 h
theorem b9_eq (s5:Bool×Int×List Ex) (s8 s11:Ex×Bool) (h:s5.2.2.length≤1000000):zbu blocks l x s0 s2 s5 s8 s11=some ([],add s5.2.2 s11.1):=z6m s5.2.2 s11.1 h
theorem y1b (fl:Bool) (i:Nat) (out:List Ex) (hi:i < l.length) (hl:l.length≤1000000) (he:Ck (z0 l i)) (hx:Ck x) (ho:out.length≤900000):
 z2t blocks l x s0 s2 (fl,(i:Int),out)=some ((stp x (fl,out) (z0 l i)).1,(i:Int)+1,(stp x (fl,out) (z0 l i)).2):=by
 have px:=z01 hx
 have pe:=z01 he
 unfold z2t
 simp only [x8,Int.toNat_natCast,znk,x6,z08]
 have w1:wr ((i:Int)+1)=(i:Int)+1:=u7 (by omega) (by omega)
 have w2:wr (x.lba+x.len)=x.lba+x.len:=u7 (by omega) (by omega)
 have w3:wr ((z0 l i).lba+(z0 l i).len)=(z0 l i).lba+(z0 l i).len:=u7 (by omega) (by omega)
 simp only [w1,w2,w3]
 rw [if_pos (by omega),y9 (by omega)]
 clear w1 w2 w3
 generalize z0 l i=e at he pe⊢
 unfold stp F1 P1
 have a1:=zge out (cu e 0 x.lba)
 have a2:=zge out x
 have a3:=zge (add out (cu e 0 x.lba)) x
 by_cases g1:Cu e 0 x.lba <;> by_cases g3:Cu e (x.lba+x.len) 64 <;> by_cases g2:e.lba+e.len > x.lba <;> cases fl
 all_goals
  simp only [zgu,znu,zm3,zmw,g1,g2,g3,not_false_eq_true,z2w,z7e,if_true,if_false,decide_true,decide_false,Bool.true_or,Bool.false_or,Bool.or_false,Option.toList_some,Option.toList_none,List.nil_append,List.append_nil,List.cons_append,List.foldl_cons,List.foldl_nil,and_true,and_false,true_and,false_and,Bool.true_eq_false,reduceCtorEq]
 all_goals first
  | rfl
  | (first
      | (rw [b1_eq _ _ _ _ _ _ _ (by first | assumption | (simp only;omega))];simp only [x6])
      | (rw [b6_eq _ _ _ _ _ _ _ (by first | assumption | (simp only;omega))];simp only [x6])
      | (rw [b8_eq _ _ _ _ _ _ _ _ (by first | assumption | (simp only;omega))];simp only [x6];done)
      | (rw [b9_eq _ _ _ _ _ _ _ _ (by first | assumption | (simp only;omega))];simp only [x6];done)
      | skip)
    <;> (try (rw [b2_eq _ _ _ _ _ _ _ _ (by simp only;omega)];simp only [x6]))
    <;> (try (rw [b3_eq _ _ _ _ _ _ _ _ _ _ (by simp only;omega)];simp only [x6]))
    <;> (try (rw [b4_eq _ _ _ _ _ _ _ _ _ (by simp only;omega)];simp only [x6]))
    <;> (try (rw [b5_eq _ _ _ _ _ _ _ _ _ (by simp only;omega)];simp only [x6]))
    <;> (try (rw [b7_eq _ _ _ _ _ _ _ _ _ (by simp only;omega)];simp only [x6]))
end
end Ab
end Go.Proofs.Ytimcbhhebnikiaa
namespace Go.Proofs.Ytimcbhhebnikiaa
open Go Go.Proofs.Ytimcbhhebnikiaa.Ab
set_option linter.unusedVariables false
set_option linter.unusedSimpArgs false
namespace Ab
theorem zre {blocks:Int} {l:List Ex} (h:Mk blocks l):∀x∈l,Ck x:=fun x hx=> (z72 (z44 h) x hx).1
theorem zn2 {blocks:Int} {l:List Ex} (h:Mk blocks l):zj8 l=some l:=
 zzy l (by have:=za9 h;omega) fun x hx=> by have:=za1 (zre h x hx);omega
def z4b (blocks:Int) (x:Ex):Prop:=Ck x∧x.lba+x.len≤blocks
instance (blocks:Int) (x:Ex):Decidable (z4b blocks x):=by unfold z4b;infer_instance
def znf (blocks:Int) (l:List Ex) (x:Ex):List Ex×Int:=if Mk blocks l then (if z4b blocks x then (put l x,0) else (l,81)) else ([],80)
theorem y3f (x:Ex) (fl:Bool) (e:Ex):(P1 x fl e).length≤3:=by
 unfold P1
 rw [List.length_append,List.length_append]
 have h:∀o:Option Ex,o.toList.length≤1:=fun o=> by cases o <;> simp
 have h1:=h (cut e 0 x.lba)
 have h2:=h (cut e (x.lba+x.len) 64)
 split <;> simp only [List.length_cons,List.length_nil] <;> omega
theorem zte (x:Ex):∀(l:List Ex) (p:Bool×List Ex),(l.foldl (stp x) p).2.length≤p.2.length+3*l.length
 | [],p=> by simp
 | e::l,p=> by
   have h1:=zte x l (stp x p e)
   have h2:=zis (P1 x p.1 e) p.2
   have h3:=y3f x p.1 e
   have h4:(stp x p e).2=(P1 x p.1 e).foldl add p.2:=rfl
   rw [h4] at h1
   rw [List.foldl_cons,List.length_cons];omega
theorem zyg (x:Ex) (l:List Ex) (i:Nat) (hi:i < l.length) (p:Bool×List Ex):(l.take (i+1)).foldl (stp x) p=stp x ((l.take i).foldl (stp x) p) (z0 l i):=by
 rw [zb4 l i hi,List.foldl_append];rfl
theorem zn5 (blocks:Int) (l:List Ex) (x:Ex) (hl:l.length≤4294967296):zri blocks l x=some (znf blocks l x):=by
 unfold zri znf
 rw [zf4 _ _ (by omega),x6,z08]
 by_cases hm:Mk blocks l
 case neg=> rw [zmm hm,if_neg hm];rfl
 rw [zys hm,z2w,if_pos hm,z5j,x6,z08]
 by_cases hx:Ck x
 case neg=> rw [z5e hx,z7e,zn2 hm,x6,if_neg fun h=> hx h.1]
 have px:=z01 hx
 have hlen:=za9 hm
 rw [z8g hx,z2w,x8,u7 (x:=x.lba+x.len) (by omega) (by omega)]
 by_cases hf:x.lba+x.len > blocks
 · rw [if_pos hf,zn2 hm,x6,if_neg fun h=> by have:=h.2;omega]
 rw [if_neg hf,if_pos (show z4b blocks x from ⟨hx,by omega⟩)]
 have hS:=fun (f:Bool×Int×List Ex→Option (List Ex×Int))=> z45 (f:=f) (step:=z2t blocks l x true true) (fun i=> (((l.take i).foldl (stp x) (false,[])).1,(i:Int),((l.take i).foldl (stp x) (false,[])).2)) l.length (fun i hi=> ?_) ?_
 rotate_left
 · have hb:=zte x (l.take i) (false,[])
   rw [List.length_take] at hb
   simp only [List.length_nil] at hb
   rw [y1b blocks l x true true _ i _ hi (by omega) (hm.2.1 i hi).1 hx (by omega),zyg _ _ _ hi]
   simp
 · unfold z2t
   simp only [x8]
   rw [if_neg (by omega)]
 refine (hS _).trans ?_
 have hp:((l.take l.length).foldl (stp x) (false,[])).2=put l x:=by rw [List.take_length,ztj];rfl
 simp only [x8,hp]
 have hmk:=(z79 hm hx (by omega)).1
 rw [if_neg (by omega),y9 (by first | exact ⟨rfl,u0 _⟩ | exact ⟨trivial,u0 _⟩),zn2 hmk,x6]
theorem zgo {blocks:Int}:∀(o l:List Ex),Mk blocks l→(∀x∈o,z4b blocks x)→Mk blocks (o.foldl put l)
 | [],l,h,_=> h
 | x::o,l,h,hf=> by
   have h1:=hf x (by simp)
   exact zgo o (put l x) (z79 h h1.1 h1.2).1 fun y hy=> hf y (by simp [hy])
end Ab
end Go.Proofs.Ytimcbhhebnikiaa
namespace Go.Proofs.Ytimcbhhebnikiaa
open Go Go.Proofs.Ytimcbhhebnikiaa.Ab
set_option linter.unusedVariables false
set_option linter.unusedSimpArgs false
namespace Ab
def zaa (blocks:Int) (l o:List Ex):List Ex×Int:=if Mk blocks l then (if ∀x∈o,z4b blocks x then (o.foldl put l,0) else (l,81)) else ([],80)
theorem zpv (o l:List Ex) (i:Nat) (hi:i < o.length):(o.take (i+1)).foldl put l=put ((o.take i).foldl put l) (z0 o i):=by
 rw [zb4 o i hi,List.foldl_append];rfl
theorem zpi {o:List Ex} {n:Nat} {P:Ex→Prop} (hn:n≤o.length) (h:∀j,j < n→P (z0 o j)):∀x∈o.take n,P x:=by
 intro x hx
 obtain ⟨j,hj,e⟩:=List.getElem_of_mem hx
 rw [List.length_take] at hj
 rw [List.getElem_take] at e
 have:=h j (by omega)
 rw [←e]
 have e2:z0 o j=o[j]'(by omega):=by unfold z0;simp [show j < o.length by omega]
 rw [←e2];exact this
def zvb (l o:List Ex) (i:Nat):List Ex×Int:=((o.take (i+1)).foldl put l,((i+1:Nat):Int))
theorem y30 (l o:List Ex) (h:0 < o.length):zvb l o 0=(put l (z0 o 0),1):=by
 unfold zvb;rw [zpv o l 0 h];rfl
theorem zg8 (blocks:Int) (l o:List Ex) (hl:l.length≤4294967296) (ho:o.length≤4294967296):zom blocks l o=some (zaa blocks l o):=by
 unfold zom zaa
 rw [zf4 _ _ (by omega),x6,z08]
 by_cases hm:Mk blocks l
 case neg=> rw [zmm hm,if_neg hm];rfl
 rw [zys hm,z2w,if_pos hm,zn2 hm,x6,z0j]
 by_cases h0:o.length=0
 · have:o=[]:=List.eq_nil_of_length_eq_zero h0
   subst this
   rw [if_pos (show (0:Int)=(([]:List Ex).length:Int) from rfl),if_pos (by simp)];rfl
 rw [if_neg (by omega),zn5 _ _ _ hl,x6,z1m]
 by_cases f0:z4b blocks (z0 o 0)
 case neg=>
  have e:znf blocks l (z0 o 0)=(l,81):=by unfold znf;rw [if_pos hm,if_neg f0]
  have hex:¬∀x∈o,z4b blocks x:=fun h=> f0 (h _ (by
   unfold z0;rw [List.getD_eq_getElem?_getD,List.getElem?_eq_getElem (by omega)];exact List.getElem_mem _))
  rw [e,if_neg (by simp),x6,if_neg hex]
 have e:znf blocks l (z0 o 0)=(put l (z0 o 0),0):=by unfold znf;rw [if_pos hm,if_pos f0]
 rw [e,if_pos rfl]
 have hQ:(∀i,i < o.length - 1→z4b blocks (z0 o (i+1)))↔∀x∈o,z4b blocks x:=by
  constructor
  · intro h
    have:=zpi (o:=o) (n:=o.length) (P:=z4b blocks) (Nat.le_refl _) fun j hj=> by
     cases j with
     | zero=> exact f0
     | succ j=> exact h j (by omega)
    rwa [List.take_length] at this
  · intro h i hi
    refine h _ ?_
    unfold z0;rw [List.getD_eq_getElem?_getD,List.getElem?_eq_getElem (by omega)];exact List.getElem_mem _
 have hmk:∀i,i < o.length→(∀j,j < i→z4b blocks (z0 o (j+1)))→Mk blocks ((o.take (i+1)).foldl put l):=fun i hi h=> zgo _ _ hm (zpi (by omega) fun j hj=> by
  cases j with
  | zero=> exact f0
  | succ j=> exact h j (by omega))
 show th (z2u blocks l o true l (put l (z0 o 0),0)) (put l (z0 o 0),1) _=_
 rw [←y30 l o (by omega)]
 refine Eq.trans (z91 (some (l,81)) (some (o.foldl put l,0)) (zvb l o) (o.length - 1) (fun i=> z4b blocks (z0 o (i+1))) (∀x∈o,z4b blocks x) hQ (fun i hi hpre hp=> ?_) (fun i hi hpre hp=> ?_) (fun hall=> ?_)) ?_
 · have hk:=hmk i (by omega) hpre
   unfold z2u zvb
   simp only [z0j,z1m,Int.toNat_natCast]
   rw [if_neg (by omega),y9 (by omega),zn5 _ _ _ (by have:=za9 hk;omega),x6]
   unfold znf
   rw [if_pos hk,if_pos hp,if_pos rfl,u7 (by omega) (by omega),zpv _ _ _ (show i+1 < o.length by omega)]
   simp
 · have hk:=hmk i (by omega) hpre
   have e2:znf blocks ((o.take (i+1)).foldl put l) (z0 o (i+1))=((o.take (i+1)).foldl put l,81):=by unfold znf;rw [if_pos hk,if_neg hp]
   unfold z2u zvb
   simp only [z0j,z1m,Int.toNat_natCast]
   rw [zn5 _ _ _ (by have:=za9 hk;omega),e2]
   simp only [x6]
   rw [if_neg (by omega),y9 (by omega),if_neg (by omega),if_neg (by omega),y9 (by omega)]
   exact ⟨rfl,rfl⟩
 · unfold z2u zvb
   simp only [z0j]
   rw [if_pos (by omega),if_pos (by omega),show o.length - 1+1=o.length by omega,List.take_length]
   exact ⟨rfl,rfl⟩
 · by_cases hall:∀x∈o,z4b blocks x
   · rw [if_pos hall,if_pos hall]
   · rw [if_neg hall,if_neg hall]
end Ab
end Go.Proofs.Ytimcbhhebnikiaa
namespace Go.Proofs.Ytimcbhhebnikiaa
open Go Go.Proofs.Ytimcbhhebnikiaa.Ab
set_option linter.unusedVariables false
set_option linter.unusedSimpArgs false
namespace Ab
def gn (g:Int) (x:Ex):Ex:=⟨x.lba,x.len,x.kind,g,x.d⟩
def zjn (g:Int) (l:List Ex) (i:Nat):List Ex:=(l.take i).map (gn g)++l.drop i
theorem zyz (g:Int) (l:List Ex) (i:Nat) (hi:i≤l.length):(zjn g l i).length=l.length:=by simp [zjn];omega
theorem y08 (g:Int) (l:List Ex) (i:Nat) (hi:i < l.length):z0 (zjn g l i) i=z0 l i:=by
 have hl:((l.take i).map (gn g)).length=i:=by simp;omega
 unfold z0 zjn
 rw [List.getD_eq_getElem?_getD,List.getD_eq_getElem?_getD,List.getElem?_append_right (by omega),hl,List.getElem?_drop]
 simp
theorem zwo (g:Int) (l:List Ex) (i:Nat) (hi:i < l.length):(zjn g l i).set i (gn g (z0 l i))=zjn g l (i+1):=by
 have hl:((l.take i).map (gn g)).length=i:=by simp;omega
 unfold zjn
 rw [zbv ⟨0,0,0,0,[]⟩ l i hi,List.set_append_right _ _ (by omega),hl,Nat.sub_self,List.set_cons_zero,z7l ⟨0,0,0,0,[]⟩ l i hi,List.map_append,List.append_assoc]
 rfl
noncomputable def genB (g:Int) (l:List Ex) (s7:Int×List Ex):Option (Int×List Ex):=
 (tb ((decide (s7.1 < (l.length:Int))))
  (tp (((0≤s7.1)∧(s7.1 < (l.length:Int))))
   (tp ((((List.length [(AV.i g)])=1)∧((((0+(s7.1.toNat*5))+3)+(List.length [(AV.i g)]))≤(List.length (List.flatMap Ex.cells s7.2)))))
    (some (((wr (s7.1+1)),(List.set s7.2 s7.1.toNat (Ex.mk (z0 s7.2 s7.1.toNat).lba (z0 s7.2 s7.1.toNat).len (z0 s7.2 s7.1.toNat).kind g (z0 s7.2 s7.1.toNat).d)))))))
  none)
theorem zav {α:Type} (g:Int) (l:List Ex) (hl:l.length≤4294967296) (f:Int×List Ex→Option α):th (genB g l) (0,l) f=f ((l.length:Int),l.map (gn g)):=by
 have h0:((0:Int),l)=(((0:Nat):Int),zjn g l 0):=by simp [zjn]
 rw [h0,z45 (step:=genB g l) (f:=f) (fun i=> ((i:Int),zjn g l i)) l.length]
 · simp [zjn]
 · intro i hi
   unfold genB
   simp only [x8,Int.toNat_natCast]
   rw [if_pos (by omega),y9 (by omega),y9 ⟨rfl,by rw [u0,zyz g l i (by omega)];simp;omega⟩,u7 (by omega) (by omega),y08 g l i hi]
   exact congrArg some (Prod.ext (by simp) (zwo g l i hi))
 · unfold genB
   simp only [x8]
   rw [if_neg (by omega)]
theorem th_ix {α β:Type} (l:List β) (d:β) (p:β→Bool) {step:Int→Option Int} {f:Int→Option α} (hs:∀i:Nat,i < l.length→p (l.getD i d)=false→step (i:Int)=some ((i:Int)+1)) (hf:∀i:Nat,i < l.length→p (l.getD i d)=true→step (i:Int)=none) (he:step (l.length:Int)=none):th step 0 f=f ((l.findIdx p:Nat):Int):=by
 have gd:∀i (hi:i < l.length),l.getD i d=l[i]:=fun i hi=> by simp [hi]
 have hle:l.findIdx p≤l.length:=List.findIdx_le_length
 have:=z45 (step:=step) (f:=f) (fun i=> (i:Int)) (l.findIdx p) (fun i hi=> hs i (by omega) (by
  rw [gd i (by omega)]
  have:=List.not_of_lt_findIdx hi
  simpa using this)) (by
  rcases Nat.lt_or_ge (l.findIdx p) l.length with g | g
  · exact hf _ g (by rw [gd _ g];exact List.findIdx_getElem (w:=g))
  · have:l.findIdx p=l.length:=by omega
    rw [this];exact he)
 simpa using this
def lyS (s:Sa) (o:List Ex):Sa×Int:=
 if (zaa s.blocks s.map (o.map (gn s.gen))).2=0 then (⟨s.blocks,s.gen,(zaa s.blocks s.map (o.map (gn s.gen))).1,s.points,s.last,s.staged⟩,0) else (s,(zaa s.blocks s.map (o.map (gn s.gen))).2)
def mkS (s:Sa) (id:Int):Sa×Int:=
 if id≤s.last then (s,112) else if s.points.length=4 then (s,113) else if s.gen=2147483647 then (s,113) else (⟨s.blocks,s.gen+1,s.map,s.points++[⟨id,s.gen,s.map⟩],id,s.staged⟩,0)
def ixP (l:List Po) (id:Int):Nat:=l.findIdx fun p=> p.id==id
def drS (s:Sa) (id:Int):Sa×Int:=
 if ixP s.points id < s.points.length then (⟨s.blocks,s.gen,s.map,s.points.take (ixP s.points id)++s.points.drop (ixP s.points id+1),s.last,s.staged⟩,0) else (s,111)
def stS (s:Sa) (d:List UInt8):Sa×Int:=
 if (d.length:Int) > 4000 - s.staged.length then (s,113) else (⟨s.blocks,s.gen,s.map,s.points,s.last,s.staged++d⟩,0)
def abS (s:Sa):Sa:=⟨s.blocks,s.gen,s.map,s.points,s.last,[]⟩
def apS (s:Sa) (c:Ch):Sa×Int:=
 if (lyS s c.list).2=0 then (if (mkS (lyS s c.list).1 c.id).2=0 then (abS (mkS (lyS s c.list).1 c.id).1,0) else (s,(mkS (lyS s c.list).1 c.id).2)) else (s,(lyS s c.list).2)
def doK (s:Sa) (c:Ch):Sa×Int:=
 if c.kind=1 then lyS s [⟨c.lba,c.n,2,0,c.d⟩] else if c.kind=2 then lyS s [⟨c.lba,c.n,1,0,[]⟩] else if c.kind=3 then lyS s [⟨c.lba,c.n,0,0,[]⟩] else
 if c.kind=4 then mkS s c.id else if c.kind=5 then drS s c.id else if c.kind=6 then stS s c.d else if c.kind=7 then (abS s,0) else apS s c
open Classical in
noncomputable def doS (s:Sa) (c:Ch):Sa×Int:=if SOk s then (if CkH c then doK s c else (s,100)) else (sa0,110)
theorem zzl {s:Sa} {c:Ch} (h:SOk s) (hc:CkH c):doS s c=doK s c:=by unfold doS;rw [if_pos h,if_pos hc]
theorem zxr {s:Sa} {c:Ch} (h:SOk s) (hc:¬CkH c):doS s c=(s,100):=by unfold doS;rw [if_pos h,if_neg hc]
theorem zws {s:Sa} {c:Ch} (h:¬SOk s):doS s c=(sa0,110):=by unfold doS;rw [if_neg h]
def Hz (c:Ch):Prop:=c.d.length≤1000000∧Sx c.list
theorem mk_sx {b:Int} {l:List Ex} (h:Mk b l):Sx l:=⟨by have:=za9 h;omega,fun x hx=> by have:=za1 (zre h x hx);omega⟩
theorem zmg {b:Int} {m o:List Ex} (h:(zaa b m o).2=0):Sx (zaa b m o).1∧Mk b m∧(∀x∈o,z4b b x)∧(zaa b m o).1=o.foldl put m:=by
 unfold zaa at h⊢
 by_cases h1:Mk b m
 · by_cases h2:∀x∈o,z4b b x
   · rw [if_pos h1,if_pos h2];exact ⟨mk_sx (zgo o m h1 h2),h1,h2,rfl⟩
   · rw [if_pos h1,if_neg h2] at h;cases h
 · rw [if_neg h1] at h;cases h
theorem zmf {s:Sa} (h:Sz s) (o:List Ex):Sz (lyS s o).1:=by
 unfold lyS
 split
 · rename_i h0;exact ⟨(zmg h0).1,h.2.1,h.2.2.1,h.2.2.2⟩
 · exact h
theorem zsu {s:Sa} {c:Ch} (hz:Sz s) (hc:Hz c):sDo s c=some (doS s c):=by
 unfold sDo
 rw [zli hz,x6,z1m]
 by_cases hs:SOk s
 case neg=> rw [z9q hs,if_neg (by omega),zws hs];rfl
 rw [zvf hs,if_pos rfl,zup c (by have:=hc.2.1;omega),x6,z08,x8]
 simp only [zqq hz,zfj hs,x6,x8,z0j]
 by_cases hk:CkH c
 case neg=> rw [if_neg hk,zxr hs hk,y9 ⟨trivial,u0 _⟩]
 rw [if_pos hk,zzl hs hk]
 have kk:=zdl hk
 have hone:∀x:Ex,x.d.length≤1000000→Sx [x]:=fun x hx=> by
  refine ⟨by simp,fun y hy=> ?_⟩
  have e:y=x:=by simpa using hy
  rw [e];exact hx
 have hw:wr (s.gen+1)=s.gen+1:=by have:=hs;unfold SOk at this;exact u7 (by omega) (by omega)
 unfold doK
 by_cases k1:c.kind=1
 · rw [if_pos (by omega),if_pos k1,z2k (hone _ hc.1),x6]
   refine (zav s.gen _ (by simp) _).trans ?_
   rw [if_neg (by simp),y9 ⟨trivial,u0 _⟩,y9 ⟨trivial,by rw [u0];simp⟩,zg8 _ _ _ (by have:=hz.1.1;omega) (by simp),x6]
   unfold lyS
   show (if (zaa s.blocks s.map (List.map (gn s.gen) [_])).2=0 then _ else _)=_
   split <;> rfl
 rw [if_neg (by omega),if_neg k1]
 by_cases k2:c.kind=2
 · rw [if_pos (by omega),if_pos k2,z2k (hone _ (by simp)),x6]
   refine (zav s.gen _ (by simp) _).trans ?_
   rw [if_neg (by simp),y9 ⟨trivial,u0 _⟩,y9 ⟨trivial,by rw [u0];simp⟩,zg8 _ _ _ (by have:=hz.1.1;omega) (by simp),x6]
   unfold lyS
   show (if (zaa s.blocks s.map (List.map (gn s.gen) [_])).2=0 then _ else _)=_
   split <;> rfl
 rw [if_neg (by omega),if_neg k2]
 by_cases k3:c.kind=3
 · rw [if_pos (by omega),if_pos k3,z2k (hone _ (by simp)),x6]
   refine (zav s.gen _ (by simp) _).trans ?_
   rw [if_neg (by simp),y9 ⟨trivial,u0 _⟩,y9 ⟨trivial,by rw [u0];simp⟩,zg8 _ _ _ (by have:=hz.1.1;omega) (by simp),x6]
   unfold lyS
   show (if (zaa s.blocks s.map (List.map (gn s.gen) [_])).2=0 then _ else _)=_
   split <;> rfl
 rw [if_neg (by omega),if_neg k3]
 have hpl:∀l:List Ex,(List.length ((List.flatMap Po.cells s.points)++[(AV.i c.id),(AV.i s.gen),(AV.rf 9 5 0 l.length)]))=(s.points.length+1)*3:=fun l=> by rw [List.length_append,z0h];simp;omega
 by_cases k4:c.kind=4
 · rw [if_pos (by omega),if_pos k4]
   unfold mkS
   by_cases h1:c.id≤s.last
   · rw [if_pos h1,if_pos h1,y9 ⟨trivial,u0 _⟩]
   rw [if_neg h1,if_neg h1]
   by_cases h2:s.points.length=4
   · rw [if_pos (by omega),if_pos h2,y9 ⟨trivial,u0 _⟩]
   rw [if_neg (by omega),if_neg h2]
   by_cases h3:s.gen=2147483647
   · rw [if_pos h3,if_pos h3,y9 ⟨trivial,u0 _⟩]
   rw [if_neg h3,if_neg h3,y9 ⟨trivial,u0 _⟩,z2k hz.1,x6,y9 ⟨z0h _,by have:=hz.2.1;omega⟩,y9 ⟨trivial,by first | exact hpl _ | (rw [List.length_append,z0h];simp;omega)⟩,hw,List.take_length]
 rw [if_neg (by omega),if_neg k4]
 by_cases k5:c.kind=5
 · rw [if_pos (by omega),if_pos k5]
   have hp:=hz.2.1
   refine (th_ix s.points ⟨0,0,[]⟩ (fun p=> p.id==c.id) ?_ ?_ ?_).trans ?_
   · intro i hi hp
     unfold z4q
     have hp':¬(w6 s.points i).id=c.id:=by simpa [w6] using hp
     simp only [x8,z0j,Int.toNat_natCast]
     rw [if_pos (by omega),y9 (by omega),if_neg hp',u7 (by omega) (by omega)]
   · intro i hi hp
     unfold z4q
     have hp':(w6 s.points i).id=c.id:=by simpa [w6] using hp
     simp only [x8,z0j,Int.toNat_natCast]
     rw [if_pos (by omega),y9 (by omega),if_pos hp']
   · unfold z4q
     simp only [x8]
     rw [if_neg (by omega)]
   · have hle:ixP s.points c.id≤s.points.length:=List.findIdx_le_length
     have hix:List.findIdx (fun p=> p.id==c.id) s.points=ixP s.points c.id:=rfl
     rw [hix]
     simp only [Int.toNat_natCast]
     unfold drS
     by_cases h:ixP s.points c.id < s.points.length
     · have hid:(w6 s.points (ixP s.points c.id)).id=c.id:=by
        have:=List.findIdx_getElem (p:=fun p:Po=> p.id==c.id) (w:=h)
        unfold w6
        rw [List.getD_eq_getElem?_getD,List.getElem?_eq_getElem h]
        exact eq_of_beq this
       rw [if_pos (by omega),if_pos h,y9 (by omega),if_pos hid,if_neg (by omega),y9 (by omega),y9 (z0h _),y9 (u7 (by omega) (by omega)),y9 ⟨trivial,u0 _⟩,y9 ⟨trivial,by rw [z0h];simp;omega⟩]
     · rw [if_neg (by omega),if_neg h,y9 ⟨trivial,u0 _⟩]
 rw [if_neg (by omega),if_neg k5]
 by_cases k6:c.kind=6
 · have h4:wr (4000 - (s.staged.length:Int))=4000 - (s.staged.length:Int):=u7 (by have:=hz.2.2.2;omega) (by omega)
   rw [if_pos (by omega),if_pos k6,h4]
   unfold stS
   by_cases h1:(c.d.length:Int) > 4000 - (s.staged.length:Int)
   · rw [if_pos h1,if_pos h1,y9 ⟨trivial,u0 _⟩]
   · rw [if_neg h1,if_neg h1,y9 ⟨by simp,by have:=hz.2.2.2;have:=hc.1;omega⟩,y9 ⟨trivial,u0 _⟩]
 rw [if_neg (by omega),if_neg k6]
 by_cases k7:c.kind=7
 · rw [if_pos (by omega),if_pos k7,y9 ⟨trivial,u0 _⟩]
   rfl
 rw [if_neg (by omega),if_neg k7,if_pos (by omega),z2k hc.2,x6]
 refine (zav s.gen _ (by have:=hc.2.1;omega) _).trans ?_
 rw [if_neg (by simp),y9 ⟨trivial,u0 _⟩,y9 ⟨trivial,by rw [u0];simp⟩,zg8 _ _ _ (by have:=hz.1.1;omega) (by simp;have:=hc.2.1;omega),x6]
 unfold apS lyS
 show (if (zaa s.blocks s.map (List.map (gn s.gen) c.list)).2=0 then _ else _)=_
 by_cases h0:(zaa s.blocks s.map (c.list.map (gn s.gen))).2=0
 case neg=> rw [if_neg h0,if_neg h0,if_neg h0]
 rw [if_pos h0,if_pos h0,if_pos rfl]
 unfold mkS
 simp only
 by_cases h1:c.id≤s.last
 · rw [if_pos h1,if_pos h1];rfl
 rw [if_neg h1,if_neg h1]
 by_cases h2:s.points.length=4
 · rw [if_pos (by omega),if_pos h2];rfl
 rw [if_neg (by omega),if_neg h2]
 by_cases h3:s.gen=2147483647
 · rw [if_pos h3,if_pos h3];rfl
 rw [if_neg h3,if_neg h3,z2k (zmg h0).1,x6,y9 ⟨z0h _,by have:=hz.2.1;omega⟩,y9 ⟨trivial,by rw [List.length_append,z0h];simp;omega⟩,hw,List.take_length]
 rfl
theorem zgt {s:Sa} {c:Ch} (hz:Sz s) (hc:Hz c):Sz (doS s c).1:=by
 by_cases hs:SOk s
 case neg=> rw [zws hs];exact ⟨⟨by simp [sa0],fun x hx=> by cases hx⟩,by simp [sa0],fun p hp=> (by cases hp),by simp [sa0]⟩
 by_cases hk:CkH c
 case neg=> rw [zxr hs hk];exact hz
 rw [zzl hs hk]
 have h4:s.points.length≤4∧s.staged.length≤4000:=by unfold SOk at hs;omega
 have hm:∀(s':Sa) (id:Int),Sz s'→s'.points=s.points→Sz (mkS s' id).1:=by
  intro s' id h' e
  unfold mkS
  split
  · exact h'
  split
  · exact h'
  split
  · exact h'
  · refine ⟨h'.1,by simp [e];omega,fun p hp=> ?_,h'.2.2.2⟩
    simp only [List.mem_append,List.mem_singleton] at hp
    rcases hp with hp | rfl
    · exact h'.2.2.1 p hp
    · exact h'.1
 unfold doK
 split
 · exact zmf hz _
 split
 · exact zmf hz _
 split
 · exact zmf hz _
 split
 · exact hm s _ hz rfl
 split
 · unfold drS
   split
   · refine ⟨hz.1,by simp;omega,fun p hp=> ?_,hz.2.2.2⟩
     simp only [List.mem_append] at hp
     rcases hp with hp | hp
     · exact hz.2.2.1 p (List.mem_of_mem_take hp)
     · exact hz.2.2.1 p (List.mem_of_mem_drop hp)
   · exact hz
 split
 · unfold stS
   split
   · exact hz
   · exact ⟨hz.1,hz.2.1,hz.2.2.1,by simp;omega⟩
 split
 · exact ⟨hz.1,hz.2.1,hz.2.2.1,by simp [abS]⟩
 · unfold apS
   have hl:(lyS s c.list).1.points=s.points:=by unfold lyS;split <;> rfl
   split
   · split
     · have:=hm _ c.id (zmf hz c.list) hl
       exact ⟨this.1,this.2.1,this.2.2.1,by simp [abS]⟩
     · exact hz
   · exact hz
end Ab
end Go.Proofs.Ytimcbhhebnikiaa
namespace Go.Proofs.Ytimcbhhebnikiaa
open Go Go.Proofs.Ytimcbhhebnikiaa.Ab
set_option linter.unusedVariables false
set_option linter.unusedSimpArgs false
namespace Ab
theorem y03 {blocks:Int} {l:List Ex} (h:Mk blocks l) {o:List Ex} (ho:∀x∈o,x∈l):(∀x∈o,z4b blocks x)∧(∀x∈o,∀y∈o,∀k,x.lba≤k→k < x.lba+x.len→y.lba≤k→k < y.lba+y.len→bAt x k=bAt y k):=by
 refine ⟨fun x hx=> ⟨zre h x (ho x hx),?_⟩,fun x hx y hy k a1 a2 b1 b2=> ?_⟩
 · have hg:=zne (z44 h) x (ho x hx)
   have h3:=h.2.2
   omega
 · exact zsg (z44 h) (k:=k) ⟨x,ho x hx,a1,a2,rfl⟩ ⟨y,ho y hy,b1,b2,rfl⟩
def new (blocks:Int):List Ex:=[⟨0,blocks,0,0,[]⟩]
end Ab
end Go.Proofs.Ytimcbhhebnikiaa
namespace Go.Proofs.Ytimcbhhebnikiaa
open Go Go.Proofs.Ytimcbhhebnikiaa.Ab
set_option linter.unusedVariables false
set_option linter.unusedSimpArgs false
namespace Ab
def s1 (b:Int):Sa:=⟨b,1,new b,[],0,[]⟩
end Ab
end Go.Proofs.Ytimcbhhebnikiaa
namespace Go.Proofs.Ytimcbhhebnikiaa
open Go Go.Proofs.Ytimcbhhebnikiaa.Ab
set_option linter.unusedVariables false
set_option linter.unusedSimpArgs false
namespace Ab
theorem zxb {s:Sa} (h:SOk s) {i:Nat}:∀j,i < j→j < s.points.length→(w6 s.points i).id < (w6 s.points j).id
 | 0,hij,_=> by omega
 | j+1,hij,hj=> by
   have hp:=(h.2.2.2.2.2.2.2.1 (j+1) hj).2.1
   rw [z7k] at hp
   rcases Nat.lt_or_ge i j with g | g
   · have:=zxb h j g (by omega);omega
   · have:i=j:=by omega
     subst this;exact hp
theorem zwy (l:List Po) {i:Nat} (h:i < l.length):w6 l i=l[i]:=by simp [w6,h]
end Ab
end Go.Proofs.Ytimcbhhebnikiaa
namespace Go.Proofs.Ytimcbhhebnikiaa
open Go Go.Proofs.Ytimcbhhebnikiaa.Ab
set_option linter.unusedVariables false
set_option linter.unusedSimpArgs false
namespace Ab
theorem zwx {l:List Ex} {x:Ex} (hx:x∈l) {k:Int} (h1:x.lba≤k) (h2:k < x.lba+x.len):Den l k (bAt x k):=⟨x,hx,h1,h2,rfl⟩
theorem y3k {b g:Int} {m:List Ex} {y:Ex} (h:Up b m g) (hy:z4b b y) (hg:y.gen≤g):Up b (put m y) g:=by
 obtain ⟨p1,p2⟩:=z79 h.1 hy.1 hy.2
 refine ⟨p1,fun x hx=> ?_⟩
 have px:=z01 ((z72 (z44 p1) x hx).1)
 have hd:=zwx hx (k:=x.lba) (by omega) (by omega)
 rcases (p2 _ _).1 hd with ⟨_,z,hz,_,_,e⟩ | ⟨_,_,e⟩
 · have:x.gen=z.gen:=congrArg (fun c:Int×Int×List UInt8=> c.2.1) e
   rw [this];exact h.2 z hz
 · have:x.gen=y.gen:=congrArg (fun c:Int×Int×List UInt8=> c.2.1) e
   omega
theorem y2n {b g:Int} {was m:List Ex} {y:Ex} (h:Mk b m) (hy:z4b b y) (hg:g < y.gen) (hk:Kp was m g):Kp was (put m y) g:=by
 obtain ⟨p1,p2⟩:=z79 h hy.1 hy.2
 intro x hx hxg w hw k k1 k2 k3 k4
 rcases (p2 _ _).1 (zwx hx k1 k2) with ⟨_,z,hz,q1,q2,e⟩ | ⟨_,_,e⟩
 · have e2:x.gen=z.gen:=congrArg (fun c:Int×Int×List UInt8=> c.2.1) e
   exact e.trans (hk z hz (by omega) w hw k q1 q2 k3 k4)
 · have:x.gen=y.gen:=congrArg (fun c:Int×Int×List UInt8=> c.2.1) e
   omega
theorem ztx {b G:Int}:∀(o m:List Ex),Up b m G→(∀x∈o,z4b b x)→(∀x∈o,x.gen=G)→Up b (o.foldl put m) G
 | [],m,h,_,_=> h
 | y::o,m,h,ho,hg=> ztx o _ (y3k h (ho y (by simp)) (Int.le_of_eq (hg y (by simp)))) (fun x hx=> ho x (by simp [hx])) fun x hx=> hg x (by simp [hx])
theorem ztm {b G g:Int} {was:List Ex} (hG:g < G):∀(o m:List Ex),Mk b m→(∀x∈o,z4b b x)→(∀x∈o,x.gen=G)→Kp was m g→Kp was (o.foldl put m) g
 | [],m,_,_,_,h=> h
 | y::o,m,hm,ho,hg,h=> ztm hG o _ ((z79 hm (ho y (by simp)).1 (ho y (by simp)).2).1) (fun x hx=> ho x (by simp [hx])) (fun x hx=> hg x (by simp [hx])) (y2n hm (ho y (by simp)) (by rw [hg y (by simp)];exact hG) h)
theorem zwp {g:Int} {o:List Ex}:∀x∈o.map (gn g),x.gen=g:=by
 intro x hx
 obtain ⟨y,_,rfl⟩:=List.mem_map.1 hx
 rfl
theorem zw0 {s:Sa} (h:SOk s):(pv s s.points.length).gen < s.gen:=by
 rcases Nat.eq_zero_or_pos s.points.length with g | g
 · rw [g];have:=h.2.1;simp [pv];omega
 · obtain ⟨j,hj⟩:∃j,s.points.length=j+1:=⟨s.points.length - 1,by omega⟩
   rw [hj,z7k]
   exact (h.2.2.2.2.2.2.2.1 j (by omega)).2.2.2.2.1
theorem y3e {s:Sa} {m:List Ex} (h:SOk s) (h1:Up s.blocks m s.gen) (h2:Kp (pv s s.points.length).map m (pv s s.points.length).gen):SOk ⟨s.blocks,s.gen,m,s.points,s.last,s.staged⟩:=by
 obtain ⟨_,a2,a3,a4,a5,a6,a7,a8,_⟩:=h
 exact ⟨h1,a2,a3,a4,a5,a6,a7,a8,h2⟩
theorem ly_ok {s:Sa} (h:SOk s) (o:List Ex):SOk (lyS s o).1:=by
 unfold lyS
 split
 · rename_i h0
   obtain ⟨_,q1,q2,q3⟩:=zmg h0
   rw [q3]
   exact y3e h (ztx _ _ h.1 q2 zwp) (ztm (zw0 h) _ _ h.1.1 q2 zwp h.2.2.2.2.2.2.2.2)
 · exact h
end Ab
end Go.Proofs.Ytimcbhhebnikiaa
namespace Go.Proofs.Ytimcbhhebnikiaa
open Go Go.Proofs.Ytimcbhhebnikiaa.Ab
set_option linter.unusedVariables false
set_option linter.unusedSimpArgs false
set_option maxRecDepth 1000000
set_option maxHeartbeats 0
namespace Ab
noncomputable abbrev zlc (s:Sa) (l:List Ch):St:=(St.mk [(0,(AV.ag [(AV.i s.blocks),(AV.i s.gen),(exs s.map),(AV.sl s.points.length (s.points.flatMap Po.cells)),(AV.i s.last),(bys s.staged)])),(1,(AV.sl l.length (l.flatMap Ch.cells))),(2,(AV.pt 0 0)),(4,(AV.pt 1 0)),(5,(AV.i 0)),(6,(AV.i 0)),(11,(AV.sl l.length (l.flatMap Ch.cells))),(12,(AV.i (l.length:Int))),(13,(AV.i 0))] 35 (AH.mk 2 [(1,(AObj.cells [(AV.i 0),(AV.i 0),AV.nl,AV.nl,(AV.i 0),AV.nl])),(0,(AObj.cells [(AV.i s.blocks),(AV.i s.gen),(exs s.map),(AV.sl s.points.length (s.points.flatMap Po.cells)),(AV.i s.last),(bys s.staged)]))]) false)
noncomputable abbrev z6x (s:Sa) (l:List Ch) (s0:Int×Int×Int×List Ex×List Po×Int×List UInt8):St:=(St.mk [(1,(AV.sl l.length (l.flatMap Ch.cells))),(2,(AV.pt 0 0)),(4,(AV.pt 1 0)),(11,(AV.sl l.length (l.flatMap Ch.cells))),(12,(AV.i (l.length:Int))),(13,(AV.i s0.1))] 35 (AH.mk 2 [(1,(AObj.cells [(AV.i 0),(AV.i 0),AV.nl,AV.nl,(AV.i 0),AV.nl])),(0,(AObj.cells [(AV.i s0.2.1),(AV.i s0.2.2.1),(exs s0.2.2.2.1),(pos s0.2.2.2.2.1),(AV.i s0.2.2.2.2.2.1),(bys s0.2.2.2.2.2.2)]))]) false)
noncomputable def z22 (s:Sa) (l:List Ch) (s0:Int×Int×Int×List Ex×List Po×Int×List UInt8):Option (Int×Int×Int×List Ex×List Po×Int×List UInt8):=
 (tb ((decide (s0.1 < (l.length:Int)))) (tp ((((0:Int)≤s0.1)∧(s0.1 < (l.length:Int)))) (tc (sDo ((Sa.mk s0.2.1 s0.2.2.1 s0.2.2.2.1 s0.2.2.2.2.1 s0.2.2.2.2.2.1 s0.2.2.2.2.2.2)) ((z1k l s0.1.toNat))) fun s3=> (tb ((s3.2 !=0)) none (some (((wr (s0.1+1)),(s3.1.blocks,(s3.1.gen,(s3.1.map,(s3.1.points,(s3.1.last,s3.1.staged))))))))))) none)
theorem zh4 (s:Sa) (l:List Ch) (s0 zz:Int×Int×Int×List Ex×List Po×Int×List UInt8):z22 s l s0=some zz→v4 Try.prog cf 2 (lp Try.prog 27 0) (z6x s l s0) (z6x s l zz):=by
 unfold z22
 exact tbD (fun h1 h1p=> x9 fun h2=> w7 fun s3 h3=> tbN (fun h4 h4p=> v9) fun h4 h4p=> fun e=> sj e▸u4 z7 (k:=300) (r:=[]) (hs:=hz [(1,[.yes]),(1,[.yes,.yes,.cells ((Ch.cells (z1k l s0.1.toNat)))]),(3,[.fc]),(1,[.fc]),(1,[.fc]),(1,[.fres (.tu [Sa.av (s3.1),.i (s3.2)])]),(5,[.fc]),(3,[.no]),(1,[.fc]),(1,[.fc]),(2,[])]) (ks:=[1,2,4,11,12,13]) (bs:=[1,0]) kq (ac h1 (ac h2 (ac (fq (p:=((6:Nat)≤(List.length (List.drop (s0.1.toNat*6) (l.flatMap Ch.cells)))))) (ac (show (List.take 6 (List.drop (s0.1.toNat*6) (l.flatMap Ch.cells)))=(Ch.cells (z1k l s0.1.toNat)) from (z8w bq bq)) (ac (zse ((Sa.mk s0.2.1 s0.2.2.1 s0.2.2.2.1 s0.2.2.2.2.1 s0.2.2.2.2.2.1 s0.2.2.2.2.2.2)) ((z1k l s0.1.toNat)) _ h3) (ac h4 an)))))) kq) fun h1 h1p=> v9
noncomputable def zyb (s:Sa) (l:List Ch):Option (Sa×Int×Int):=
 (th (z22 s l) (((0:Int),(s.blocks,(s.gen,(s.map,(s.points,(s.last,s.staged))))))) fun s0=> (tb ((decide (s0.1 < (l.length:Int)))) (tp ((((0:Int)≤s0.1)∧(s0.1 < (l.length:Int)))) (tc (sDo ((Sa.mk s0.2.1 s0.2.2.1 s0.2.2.2.1 s0.2.2.2.2.1 s0.2.2.2.2.2.1 s0.2.2.2.2.2.2)) ((z1k l s0.1.toNat))) fun s3=> (tb ((s3.2 !=0)) (some ((s3.1,(s0.1,s3.2)))) none))) (tc (z4w ((Sa.mk s0.2.1 s0.2.2.1 s0.2.2.2.1 s0.2.2.2.2.1 s0.2.2.2.2.2.1 s0.2.2.2.2.2.2))) fun s2=> (tp ((((0:Nat)=0)∧((List.length (s2.map.flatMap Ex.cells))=(s2.map.length*5)))) (some ((s2,((l.length:Int),(0:Int)))))))))
abbrev y2t (s:Sa) (l:List Ch) (r:Sa×Int×Int):Prop:=z06 Try.prog cf false 27 [Sa.av (s),chs (l)] (.tu [Sa.av (r.1),.i (r.2.1),.i (r.2.2)])
theorem ztc (s:Sa) (l:List Ch) (r:Sa×Int×Int):zyb s l=some r→y2t s l r:=by
 unfold zyb
 exact z0m fun s0 h0=> tbD (fun h1 h1p=> x9 fun h2=> w7 fun s3 h3=> tbN (fun h4 h4p=> fun e=> sj e▸y8 z7 (k:=300) (r:=[]) (hs:=hz [(7,[.head (z6x s l s0)]),(1,[.yes]),(1,[.yes,.yes,.cells ((Ch.cells (z1k l s0.1.toNat)))]),(3,[.fc]),(1,[.fc]),(1,[.fc]),(1,[.fres (.tu [Sa.av (s3.1),.i (s3.2)])]),(5,[.fc]),(3,[.yes]),(1,[.fc]),(3,[.fc]),(3,[.fc])]) (raw:=(AV.tu [(AV.ag [(AV.i s3.1.blocks),(AV.i s3.1.gen),(exs s3.1.map),(AV.sl s3.1.points.length (s3.1.points.flatMap Po.cells)),(AV.i s3.1.last),(bys s3.1.staged)]),(AV.i s0.1),(AV.i s3.2)])) kq (ac (show x4 Try.prog cf (lp Try.prog 27 0) (zlc s l) (z6x s l s0) from (x4.of (zh4 s l) (x0 [] [] kq (cE (cP (cP (cE (cE (cE .nil)))))) (hG rfl rfl (.cons (.eqv tq rfl) (.cons (.eqv tq rfl) (.cons .nl0 (.cons .nl0 (.cons (.eqv tq rfl) (.cons .nl0 .nil)))))) (hG rfl rfl (.cons (.eqv tq rfl) (.cons (.eqv tq rfl) (.cons (.eqv tq rfl) (.cons (.eqv tq rfl) (.cons (.eqv tq rfl) (.cons (.eqv tq rfl) .nil)))))) .nil))) h0)) (ac h1 (ac h2 (ac (fq (p:=((6:Nat)≤(List.length (List.drop (s0.1.toNat*6) (l.flatMap Ch.cells)))))) (ac (show (List.take 6 (List.drop (s0.1.toNat*6) (l.flatMap Ch.cells)))=(Ch.cells (z1k l s0.1.toNat)) from (z8w bq bq)) (ac (zse ((Sa.mk s0.2.1 s0.2.2.1 s0.2.2.2.1 s0.2.2.2.2.1 s0.2.2.2.2.2.1 s0.2.2.2.2.2.2)) ((z1k l s0.1.toNat)) _ h3) (ac h4 an))))))) tq) fun h4 h4p=> v9) fun h1 h1p=> w7 fun s2 h2=> x9 fun h3=> fun e=> sj e▸y8 z7 (k:=300) (r:=[]) (hs:=hz [(7,[.head (z6x s l s0)]),(1,[.no]),(1,[.fc]),(1,[.fres (Sa.av (s2))]),(3,[.fc]),(3,[.fc,.yes,.yes,.yes,.yes,.yes,.yes])]) (raw:=(AV.tu [(AV.ag [(AV.i s2.blocks),(AV.i s2.gen),(exs s2.map),(AV.sl s2.points.length (s2.points.flatMap Po.cells)),(AV.i s2.last),(bys s2.staged)]),(AV.i (l.length:Int)),(AV.i 0)])) kq (ac (show x4 Try.prog cf (lp Try.prog 27 0) (zlc s l) (z6x s l s0) from (x4.of (zh4 s l) (x0 [] [] kq (cE (cP (cP (cE (cE (cE .nil)))))) (hG rfl rfl (.cons (.eqv tq rfl) (.cons (.eqv tq rfl) (.cons .nl0 (.cons .nl0 (.cons (.eqv tq rfl) (.cons .nl0 .nil)))))) (hG rfl rfl (.cons (.eqv tq rfl) (.cons (.eqv tq rfl) (.cons (.eqv tq rfl) (.cons (.eqv tq rfl) (.cons (.eqv tq rfl) (.cons (.eqv tq rfl) .nil)))))) .nil))) h0)) (ac h1 (ac (t8 ((Sa.mk s0.2.1 s0.2.2.1 s0.2.2.2.1 s0.2.2.2.2.1 s0.2.2.2.2.2.1 s0.2.2.2.2.2.2)) _ h2) (ac h3 (ac (pq (p:=Pl false ((s2.map.flatMap Ex.cells)))) (ac (fq (p:=(((0:Nat)=0)∧((List.length (s2.points.flatMap Po.cells))=(s2.points.length*3))))) (ac (pq (p:=Pl false ((s2.points.flatMap Po.cells)))) (ac (tq (p:=(((0:Nat)=0)∧((List.length (List.map AV.y s2.staged))=(s2.staged.length*1))))) (ac (pq (p:=Pl false ((List.map AV.y s2.staged)))) an))))))))) tq
end Ab
end Go.Proofs.Ytimcbhhebnikiaa
namespace Go.Proofs.Ytimcbhhebnikiaa
open Go Go.Proofs.Ytimcbhhebnikiaa.Ab
set_option linter.unusedVariables false
set_option linter.unusedSimpArgs false
namespace Ab
theorem y34:Sz sa0:=⟨⟨by simp [sa0],fun x hx=> by cases hx⟩,by simp [sa0],fun p hp=> (by cases hp),by simp [sa0]⟩
theorem y31 {s:Sa} (h:Sz s):Sz (cpy s):=by
 by_cases hs:SOk s
 · rw [zfj hs];exact h
 · rw [zxi hs];exact y34
noncomputable def zc0:Sa→List Ch→Int→Sa×Int×Int
 | s,[],i=> (cpy s,i,0)
 | s,c::l,i=> if (doS s c).2=0 then zc0 (doS s c).1 l (i+1) else ((doS s c).1,i,(doS s c).2)
theorem z92 (s:Sa) (c:Ch) (l:List Ch) (i:Int):zc0 s (c::l) i=if (doS s c).2=0 then zc0 (doS s c).1 l (i+1) else ((doS s c).1,i,(doS s c).2):=rfl
abbrev tp7 (i:Int) (s:Sa):Int×Int×Int×List Ex×List Po×Int×List UInt8:=(i,(s.blocks,(s.gen,(s.map,(s.points,(s.last,s.staged))))))
theorem y14 {s:Sa} {l:List Ch} (hz:Sz s) (hl:l.length≤1000000) (hc:∀c∈l,Hz c):zyb s l=some (zc0 s l 0):=by
 have hat:∀i,i < l.length→Hz (z1k l i):=(zeg l Hz).2 hc
 unfold zyb
 have key:∀f,(∀(i:Nat) (t:Sa),i≤l.length→Sz t→(i=l.length∨(i < l.length∧(doS t (z1k l i)).2≠0))→f (tp7 (i:Int) t)=some (zc0 t (l.drop i) (i:Int)))→th (z22 s l) (tp7 0 s) f=some (zc0 s l 0):=by
  intro f hf
  have:=zw7 (step:=z22 s l) (f:=f) (s0:=tp7 0 s) (fun q=> some (zc0 ⟨q.2.1,q.2.2.1,q.2.2.2.1,q.2.2.2.2.1,q.2.2.2.2.2.1,q.2.2.2.2.2.2⟩ (l.drop q.1.toNat) q.1)) (fun q=> ∃(i:Nat) (t:Sa),q=tp7 (i:Int) t∧i≤l.length∧Sz t) (fun q=> l.length - q.1.toNat) ⟨0,s,rfl,by omega,hz⟩ ?_
  · rw [this];rfl
  · rintro q ⟨i,t,rfl,hi,ht⟩
    by_cases h:i < l.length
    · have hdo:=zsu ht (hat i h)
      by_cases h0:(doS t (z1k l i)).2=0
      · refine .inl ⟨tp7 ((i:Int)+1) (doS t (z1k l i)).1,?_,⟨i+1,_,rfl,by omega,zgt ht (hat i h)⟩,?_,?_⟩
        · unfold z22
          simp only [tp7,x8,Int.toNat_natCast]
          rw [if_pos (by omega),y9 (by omega),hdo,x6,z1m,if_pos h0,u7 (by omega) (by omega)]
        · simp only [tp7];omega
        · simp only [tp7,Int.toNat_natCast]
          rw [show ((i:Int)+1).toNat=i+1 by omega,zbv ⟨0,0,0,0,[],[]⟩ l i h]
          show _=some (zc0 t (z1k l i::l.drop (i+1)) (i:Int))
          rw [z92,if_pos h0]
      · refine .inr ⟨?_,?_⟩
        · unfold z22
          simp only [tp7,x8,Int.toNat_natCast]
          rw [if_pos (by omega),y9 (by omega),hdo,x6,z1m,if_neg h0]
        · rw [hf i t hi ht (.inr ⟨h,h0⟩)];simp only [tp7,Int.toNat_natCast]
    · refine .inr ⟨?_,?_⟩
      · unfold z22
        simp only [tp7,x8]
        rw [if_neg (by omega)]
      · rw [hf i t hi ht (.inl (by omega))];simp only [tp7,Int.toNat_natCast]
 refine key _ fun i t hi ht h=> ?_
 simp only [tp7,x8,Int.toNat_natCast]
 rcases h with h | ⟨h,h0⟩
 · subst h
   rw [if_neg (by omega),zqq ht,x6,y9 ⟨trivial,u0 _⟩,List.drop_length]
   rfl
 · rw [if_pos (by omega),y9 (by omega),zsu ht (hat i h),x6,z1m,if_neg h0,zbv ⟨0,0,0,0,[],[]⟩ l i h]
   show _=some (zc0 t (z1k l i::l.drop (i+1)) (i:Int))
   rw [z92,if_neg h0]
theorem zu6:∀(l:List Ch) (s:Sa) (i:Int),Sz s→(∀c∈l,Hz c)→Sz (zc0 s l i).1
 | [],s,i,h,_=> y31 h
 | c::l,s,i,h,hc=> by
   rw [z92]
   split
   · exact zu6 l _ _ (zgt h (hc c (by simp))) fun d hd=> hc d (by simp [hd])
   · exact zgt h (hc c (by simp))
theorem zzx {l:List Ch} (h:zwd l):∀c∈l,Hz c:=fun c hc=> ⟨by have:=(h.2 c hc).1;omega,zmh (h.2 c hc).2⟩
end Ab
end Go.Proofs.Ytimcbhhebnikiaa
namespace Go.Proofs.Ytimcbhhebnikiaa
open Go Go.Proofs.Ytimcbhhebnikiaa.Ab
set_option linter.unusedVariables false
set_option linter.unusedSimpArgs false
namespace Ab
theorem zv1 {b:Int} {m:List Ex} (h:Mk b m) {x:Ex} (hx:z4b b x):t4 (put m x)=zf0 (t4 m) x.lba.toNat (fun i=> cb (bAt x (x.lba+i))) x.len.toNat:=by
 obtain ⟨p1,p2⟩:=z79 h hx.1 hx.2
 have px:=z01 hx.1
 have hfit:=hx.2
 have l1:=(z34 p1).2.1
 have l2:=(z34 h).2.1
 have hn:x.lba.toNat+x.len.toNat≤(t4 m).length:=by omega
 refine List.ext_getElem? fun j=> ?_
 rw [zam _ _ _ _ hn]
 by_cases hj:(j:Int) < b
 · obtain ⟨y,hy,_,q1,q2,q3,q4⟩:=zf7 p1 (i:=j) hj
   rw [q4]
   rcases (p2 _ _).1 q3 with ⟨g,hd⟩ | ⟨g1,g2,e⟩
   · rw [if_neg (by omega)]
     have:=z75 (z44 h) hd
     rw [Int.sub_zero,Int.toNat_natCast] at this
     rw [this]
   · rw [if_pos (by omega),e]
     congr 3
     omega
 · rw [if_neg (by omega),List.getElem?_eq_none (by omega),List.getElem?_eq_none (by omega)]
theorem zrl {l:List Ce} {s:Nat} {f g:Nat→Ce} {n:Nat} (hn:s+n≤l.length) (h:∀i,i < n→f i=g i):zf0 l s f n=zf0 l s g n:=by
 refine List.ext_getElem? fun j=> ?_
 rw [zam _ _ _ _ hn,zam _ _ _ _ hn]
 split
 · rw [h _ (by omega)]
 · rfl
def lc (cs:List Ce) (x:Ex):List Ce:=zf0 cs x.lba.toNat (fun k=> (⟨x.kind,x.gen,pad 32 ((eb x).drop (32*k))⟩:Ce)) x.len.toNat
theorem y3b (cs:List Ce) (x:Ex):(lc cs x).length=cs.length:=zah _ _ _ _
theorem zm1:∀(l:List Ex) (cs:List Ce),(l.foldl lc cs).length=cs.length
 | [],cs=> rfl
 | x::l,cs=> (zm1 l _).trans (y3b cs x)
theorem zwe (cs:List Ce) (l:List Ex) (i:Nat) (hi:i < l.length):(l.take (i+1)).foldl lc cs=lc ((l.take i).foldl lc cs) (z0 l i):=by
 rw [zb4 l i hi,List.foldl_append];rfl
theorem zfo {blocks:Int} {l:List Ex} (hb:1≤blocks∧blocks≤64) (hl:l.length≤4294967296) (h:∀x∈l,z4b blocks x):z57 blocks l=some (l.foldl lc (List.replicate blocks.toNat c0)):=by
 have h':=(z28 l (z4b blocks)).2 h
 unfold z57
 rw [y9 (by refine ⟨rfl,by omega,by omega⟩)]
 rw [z6v (S:=fun i=> ((i:Int),(l.take i).foldl lc (List.replicate blocks.toNat c0))) (k:=l.length) (by simp [c0]) ?_ ?_]
 · simp only [x8]
   have hlen:=zm1 l (List.replicate blocks.toNat c0)
   rw [List.length_replicate] at hlen
   rw [if_neg (by omega),List.take_length,y9 (by rw [z2e,hlen];omega)]
   first | rw [List.drop_zero,List.take_of_length_le (by omega)] | rw [List.take_of_length_le (by omega)]
 · intro i hi
   obtain ⟨hck,hfit⟩:=h' i hi
   have p:=z01 hck
   have hel:=zwq hck
   have htd:wr (Int.tdiv ((eb (z0 l i)).length:Int) 32)=(z0 l i).len:=by
    rw [hel,Int.tdiv_eq_ediv_of_nonneg (by omega),u7 (by omega) (by omega)];omega
   have hlen:=zm1 (l.take i) (List.replicate blocks.toNat c0)
   rw [List.length_replicate] at hlen
   unfold z1j
   simp only [x8,Int.toNat_natCast]
   rw [if_pos (by omega),y9 (by omega),zhr hck,x6,zwe _ _ _ hi]
   generalize (l.take i).foldl lc (List.replicate blocks.toNat c0)=A at*
   rw [z6v (s0:=((0:Int),A)) (S:=fun k=> ((k:Int),zf0 A (z0 l i).lba.toNat (fun k=> (⟨(z0 l i).kind,(z0 l i).gen,pad 32 ((eb (z0 l i)).drop (32*k))⟩:Ce)) k)) (k:=(z0 l i).len.toNat) rfl ?_ ?_]
   · simp only [htd]
     rw [if_neg (by omega),u7 (by omega) (by omega)]
     rfl
   · intro k hk
     unfold z1g
     have w1:wr ((z0 l i).lba+(k:Int))=(((z0 l i).lba.toNat+k:Nat):Int):=by rw [u7 (by omega) (by omega)];omega
     simp only [x8,htd,Int.toNat_natCast,w1]
     rw [if_pos (by omega),y9 (by omega),if_neg (by omega),zgx _ _ _ _ _ _ _ k (by omega) (by omega) rfl]
     simp only [zp6]
     rw [if_neg (by omega),y9 (by omega),y9 (by rw [z2e,zah];constructor <;> simp <;> omega),u7 (by omega) (by omega)]
     rfl
   · unfold z1g
     simp only [x8,htd]
     rw [if_neg (by omega)]
 · unfold z1j
   simp only [x8]
   rw [if_neg (by omega)]
theorem y2u {b:Int} {m:List Ex} (h:Mk b m) {x:Ex} (hx:z4b b x):lc (t4 m) x=t4 (put m x):=by
 have p:=z01 hx.1
 have hfit:=hx.2
 have hlen:=(z34 h).2.1
 rw [zv1 h hx]
 refine zrl (by omega) fun i hi=> ?_
 have:=zwm hx.1 (k:=x.lba+i) (by omega) (by omega)
 rw [show (x.lba+(i:Int) - x.lba).toNat=i by omega] at this
 have e:(xcs x)[i]? =some (⟨x.kind,x.gen,pad 32 ((eb x).drop (32*i))⟩:Ce):=by
  unfold xcs
  rw [List.getElem?_map,List.getElem?_range (by omega)]
  rfl
 rw [e] at this
 exact Option.some.inj this
theorem zp4 {b:Int}:∀(o m:List Ex),Mk b m→(∀x∈o,z4b b x)→o.foldl lc (t4 m)=t4 (o.foldl put m)
 | [],m,_,_=> rfl
 | x::o,m,hm,ho=> by
   have hx:=ho x (by simp)
   rw [List.foldl_cons,y2u hm hx]
   exact zp4 o _ (z79 hm hx.1 hx.2).1 fun y hy=> ho y (by simp [hy])
theorem zrw {b:Int} {m o:List Ex} (hm:Mk b m) (ho:∀x∈o,z4b b x) (hl:o.length≤4294967000):z57 b (m++o)=some (t4 (o.foldl put m)):=by
 have hb:=z2g hm
 have hml:=za9 hm
 have hf:=(y03 hm (o:=m) fun x hx=> hx).1
 have e1:=zfo hb (l:=m) (by omega) hf
 rw [zcw hm] at e1
 have e2:=Option.some.inj e1
 rw [zfo hb (by rw [List.length_append];omega) (fun x hx=> (List.mem_append.1 hx).elim (hf x) (ho x)),List.foldl_append,←e2,zp4 o m hm ho]
end Ab
end Go.Proofs.Ytimcbhhebnikiaa
namespace Go.Proofs.Ytimcbhhebnikiaa
open Go Go.Proofs.Ytimcbhhebnikiaa.Ab
set_option linter.unusedVariables false
set_option linter.unusedSimpArgs false
set_option maxRecDepth 1000000
set_option maxHeartbeats 0
namespace Ab
noncomputable abbrev z9z (l:List Ex):St:=(St.mk [(0,(exs l)),(2,(AV.b false)),(6,(exs l)),(7,(AV.i (l.length:Int))),(8,(AV.b (decide ((l.length:Int) > 64)))),(3,(AV.i 0)),(4,(AV.i 0))] 42 (AH.mk 0 ([]:List (Prod Nat AObj))) false)
noncomputable abbrev z26 (l:List Ex) (s1:Int×Int):St:=(St.mk [(0,(exs l)),(3,(AV.i s1.1)),(4,(AV.i s1.2))] 42 (AH.mk 0 ([]:List (Prod Nat AObj))) false)
noncomputable def z1h (l:List Ex) (s1:Int×Int):Option (Int×Int):=
 (tb ((decide (s1.2 < (l.length:Int)))) (tp ((((0:Int)≤s1.2)∧(s1.2 < (l.length:Int)))) (tc (z3d ((z0 l s1.2.toNat))) fun s4=> (tb ((!s4)) none (tb ((decide ((z0 l s1.2.toNat).lba < s1.1))) none (some (((wr ((z0 l s1.2.toNat).lba+(z0 l s1.2.toNat).len)),(wr (s1.2+1))))))))) none)
theorem z88 (l:List Ex) (s1 zz:Int×Int):z1h l s1=some zz→v4 Try.prog cf 0 (lp Try.prog 83 0) (z26 l s1) (z26 l zz):=by
 unfold z1h
 exact tbD (fun h2 h2p=> x9 fun h3=> w7 fun s4 h4=> u6 (fun h5=> v9) fun h5=> tbD (fun h6 h6p=> v9) fun h6 h6p=> fun e=> sj e▸u4 z7 (k:=300) (r:=[]) (hs:=hz [(4,[.yes]),(2,[.yes,.yes,.cells ((Ex.cells (z0 l s1.2.toNat)))]),(1,[.fres (.b (s4))]),(4,[.no]),(1,[.no]),(1,[.no,.yes,.no]),(1,[.no,.yes,.val ((AV.i (z0 l s1.2.toNat).lba)),.no]),(1,[.no]),(1,[.no,.no]),(2,[.yes]),(1,[.yes,.val ((AV.i (z0 l s1.2.toNat).lba))]),(2,[.yes]),(1,[.yes,.val ((AV.i (z0 l s1.2.toNat).len))]),(2,[.yes]),(3,[])]) (ks:=[0,3,4]) (bs:=[]) kq (ac h2 (ac h3 (ac (fq (p:=((5:Nat)≤(List.length (List.drop (s1.2.toNat*5) (l.flatMap Ex.cells)))))) (ac (show (List.take 5 (List.drop (s1.2.toNat*5) (l.flatMap Ex.cells)))=(Ex.cells (z0 l s1.2.toNat)) from (w9 bq bq)) (ac (d6 ((z0 l s1.2.toNat)) _ h4).any0 (ac h5 (ac h5 (ac h5 (ac h3 (ac h5 (ac h5 (ac (fq (p:=((1:Nat)≤(List.length (List.drop (s1.2.toNat*5) (l.flatMap Ex.cells)))))) (ac (show (List.take 1 (List.drop (s1.2.toNat*5) (l.flatMap Ex.cells)))=[(AV.i (z0 l s1.2.toNat).lba)] from (by first | exact z4h _ _ _ bq rfl | (simpa using z0c (l) (s1.2.toNat) 0 _ bq rfl))) (ac h5 (ac h5 (ac h5 (ac h6 (ac h3 (ac (fq (p:=((1:Nat)≤(List.length (List.drop (s1.2.toNat*5) (l.flatMap Ex.cells)))))) (ac (show (List.take 1 (List.drop (s1.2.toNat*5) (l.flatMap Ex.cells)))=[(AV.i (z0 l s1.2.toNat).lba)] from (by first | exact z4h _ _ _ bq rfl | (simpa using z0c (l) (s1.2.toNat) 0 _ bq rfl))) (ac h3 (ac (fq (p:=((1:Nat)≤(List.length (List.drop 1 (List.drop (s1.2.toNat*5) (l.flatMap Ex.cells))))))) (ac (show (List.take 1 (List.drop 1 (List.drop (s1.2.toNat*5) (l.flatMap Ex.cells))))=[(AV.i (z0 l s1.2.toNat).len)] from (by first | exact z0c _ _ _ _ bq rfl | exact z10 _ _ _ _ bq rfl | (simpa using z0c (l) (s1.2.toNat) 1 _ bq rfl) | ((try simp only [List.drop_drop]);rw [show ((1:Nat)+(s1.2.toNat*5))=(s1.2.toNat)*5+1 by omega];exact z10 (l) (s1.2.toNat) 1 _ bq rfl))) (ac (show z9 (rg Try.prog 83 0)=true∧w8 (Region.before (rg Try.prog 83 0)) [] 0 [(some [],some []),(some [],some []),(some [],some []),(some [],some []),(some [],some []),(some [],some []),(some [],some []),(some [],some []),(some [],some []),(some [],some []),(some [],some []),(some [],some [])]=true from (x5 zzo zyq kq)) an)))))))))))))))))))))))) kq) fun h2 h2p=> v9
noncomputable def zdw (l:List Ex):Option (Bool):=
 (tb ((decide ((l.length:Int) > 64))) (some (false)) (th (z1h l) (((0:Int),(0:Int))) fun s1=> (tb ((decide (s1.2 < (l.length:Int)))) (tp ((((0:Int)≤s1.2)∧(s1.2 < (l.length:Int)))) (tc (z3d ((z0 l s1.2.toNat))) fun s4=> (tb ((!s4)) (some (false)) (tb ((decide ((z0 l s1.2.toNat).lba < s1.1))) (some (false)) none)))) (some (true)))))
abbrev zuu (l:List Ex) (r:Bool):Prop:=z06 Try.prog cf true 83 [exs (l)] (.b (r))
theorem z2o (l:List Ex) (r:Bool):zdw l=some r→zuu l r:=by
 unfold zdw
 exact tbD (fun h0 h0p=> fun e=> sj e▸y8 z7 (k:=300) (r:=[]) (hs:=hz [(4,[.yes]),(1,[])]) (raw:=(AV.b false)) kq (ac h0 an) tq) fun h0 h0p=> z0m fun s1 h1=> tbD (fun h2 h2p=> x9 fun h3=> w7 fun s4 h4=> u6 (fun h5=> fun e=> sj e▸y8 z7 (k:=300) (r:=[]) (hs:=hz [(4,[.no]),(2,[.head (z26 l s1)]),(4,[.yes]),(2,[.yes,.yes,.cells ((Ex.cells (z0 l s1.2.toNat)))]),(1,[.fres (.b (s4))]),(4,[.yes,.yes,.yes,.yes,.yes,.yes,.yes,.yes]),(2,[])]) (raw:=(AV.b false)) kq (ac h0 (ac (show x4 Try.prog cf (lp Try.prog 83 0) (z9z l) (z26 l s1) from (x4.of (z88 l) (x0 [] [] kq (cE (cE (cE .nil))) .nil) h1)) (ac h2 (ac h3 (ac (fq (p:=((5:Nat)≤(List.length (List.drop (s1.2.toNat*5) (l.flatMap Ex.cells)))))) (ac (show (List.take 5 (List.drop (s1.2.toNat*5) (l.flatMap Ex.cells)))=(Ex.cells (z0 l s1.2.toNat)) from (w9 bq bq)) (ac (d6 ((z0 l s1.2.toNat)) _ h4).any0 (ac h5 (ac h5 (ac h5 (ac h5 (ac h5 (ac h5 (ac h5 (ac h5 an))))))))))))))) tq) fun h5=> tbD (fun h6 h6p=> fun e=> sj e▸y8 z7 (k:=300) (r:=[]) (hs:=hz [(4,[.no]),(2,[.head (z26 l s1)]),(4,[.yes]),(2,[.yes,.yes,.cells ((Ex.cells (z0 l s1.2.toNat)))]),(1,[.fres (.b (s4))]),(4,[.no]),(1,[.no]),(1,[.no,.yes,.no]),(1,[.no,.yes,.val ((AV.i (z0 l s1.2.toNat).lba)),.no]),(1,[.no]),(1,[.no,.yes]),(1,[])]) (raw:=(AV.b false)) kq (ac h0 (ac (show x4 Try.prog cf (lp Try.prog 83 0) (z9z l) (z26 l s1) from (x4.of (z88 l) (x0 [] [] kq (cE (cE (cE .nil))) .nil) h1)) (ac h2 (ac h3 (ac (fq (p:=((5:Nat)≤(List.length (List.drop (s1.2.toNat*5) (l.flatMap Ex.cells)))))) (ac (show (List.take 5 (List.drop (s1.2.toNat*5) (l.flatMap Ex.cells)))=(Ex.cells (z0 l s1.2.toNat)) from (w9 bq bq)) (ac (d6 ((z0 l s1.2.toNat)) _ h4).any0 (ac h5 (ac h5 (ac h5 (ac h3 (ac h5 (ac h5 (ac (fq (p:=((1:Nat)≤(List.length (List.drop (s1.2.toNat*5) (l.flatMap Ex.cells)))))) (ac (show (List.take 1 (List.drop (s1.2.toNat*5) (l.flatMap Ex.cells)))=[(AV.i (z0 l s1.2.toNat).lba)] from (by first | exact z4h _ _ _ bq rfl | (simpa using z0c (l) (s1.2.toNat) 0 _ bq rfl))) (ac h5 (ac h5 (ac h5 (ac h6 an))))))))))))))))))) tq) fun h6 h6p=> v9) fun h2 h2p=> fun e=> sj e▸y8 z7 (k:=300) (r:=[]) (hs:=hz [(4,[.no]),(2,[.head (z26 l s1)]),(4,[.no]),(1,[])]) (raw:=(AV.b true)) kq (ac h0 (ac (show x4 Try.prog cf (lp Try.prog 83 0) (z9z l) (z26 l s1) from (x4.of (z88 l) (x0 [] [] kq (cE (cE (cE .nil))) .nil) h1)) (ac h2 an))) tq
noncomputable abbrev z0q (c:Ch):St:=(St.mk [(0,(AV.ag [(AV.i c.kind),(AV.i c.lba),(AV.i c.n),(AV.i c.id),(bys c.d),(exs c.list)])),(1,(AV.pt 0 0)),(2,(AV.b false))] 182 (AH.mk 1 [(0,(AObj.cells [(AV.i c.kind),(AV.i c.lba),(AV.i c.n),(AV.i c.id),(bys c.d),(exs c.list)]))]) false)
noncomputable abbrev j9 (c:Ch) (s0:Bool):St:=(St.mk [(0,(AV.ag [(AV.i c.kind),(AV.i c.lba),(AV.i c.n),(AV.i c.id),(bys c.d),(exs c.list)])),(1,(AV.pt 0 0)),(2,(AV.b false)),(3,(AV.b s0))] 182 (AH.mk 1 [(0,(AObj.cells [(AV.i c.kind),(AV.i c.lba),(AV.i c.n),(AV.i c.id),(bys c.d),(exs c.list)]))]) false)
noncomputable def z61 (c:Ch):Option (Bool):=
 (tb ((decide (c.lba≥0))) (tb ((decide (c.lba≤64))) (tb ((decide (c.n≥1))) (some ((decide (c.n≤(wr ((64:Int) - c.lba)))))) (some (false))) (some (false))) (some (false)))
theorem z0w (c:Ch) (zz:Bool):z61 c=some zz→v4 Try.prog cf 1 ((rj Try.prog cf 53 0)) (z0q c) (j9 c zz):=by
 unfold z61
 exact tbD (fun h1 h1p=> tbD (fun h2 h2p=> tbD (fun h3 h3p=> fun e=> sj e▸u4 z7 (k:=300) (r:=[]) (hs:=hz [(6,[.yes]),(1,[.yes]),(2,[.yes]),(1,[.yes]),(1,[.yes]),(1,[.yes]),(2,[.yes]),(1,[.yes]),(1,[.yes]),(1,[.yes]),(2,[.yes]),(1,[.yes]),(2,[.yes]),(1,[.yes]),(1,[.yes]),(1,[])]) (ks:=[0,1,2,3]) (bs:=[0]) kq (ac h1 (ac h1 (ac h1 (ac h1 (ac h2 (ac h2 (ac h2 (ac h2 (ac h3 (ac h3 (ac h3 (ac h3 (ac h3 (ac h3 (ac h3 an))))))))))))))) kq) fun h3 h3p=> fun e=> sj e▸u4 z7 (k:=300) (r:=[]) (hs:=hz [(6,[.yes]),(1,[.yes]),(2,[.yes]),(1,[.yes]),(1,[.yes]),(1,[.yes]),(2,[.yes]),(1,[.yes]),(1,[.no,.no,.no,.no,.no,.no,.no]),(1,[])]) (ks:=[0,1,2,3]) (bs:=[0]) kq (ac h1 (ac h1 (ac h1 (ac h1 (ac h2 (ac h2 (ac h2 (ac h2 (ac h3 (ac h3 (ac h3 (ac h3 (ac h3 (ac h3 (ac h3 an))))))))))))))) kq) fun h2 h2p=> fun e=> sj e▸u4 z7 (k:=300) (r:=[]) (hs:=hz [(6,[.yes]),(1,[.yes]),(2,[.yes]),(1,[.yes]),(1,[.no,.no,.no,.no]),(9,[])]) (ks:=[0,1,2,3]) (bs:=[0]) kq (ac h1 (ac h1 (ac h1 (ac h1 (ac h2 (ac h2 (ac h2 (ac h2 an)))))))) kq) fun h1 h1p=> fun e=> sj e▸u4 z7 (k:=300) (r:=[]) (hs:=hz [(6,[.no,.no,.no,.no]),(14,[])]) (ks:=[0,1,2,3]) (bs:=[0]) kq (ac h1 (ac h1 (ac h1 (ac h1 an)))) kq
noncomputable abbrev z0r (c:Ch) (s0:Bool):St:=(St.mk [(0,(AV.ag [(AV.i c.kind),(AV.i c.lba),(AV.i c.n),(AV.i c.id),(bys c.d),(exs c.list)])),(1,(AV.pt 0 0)),(2,(AV.b false)),(3,(AV.b s0))] 182 (AH.mk 1 [(0,(AObj.cells [(AV.i c.kind),(AV.i c.lba),(AV.i c.n),(AV.i c.id),(bys c.d),(exs c.list)]))]) false)
noncomputable abbrev j0 (c:Ch) (s0:Bool) (s1:Bool):St:=(St.mk [(0,(AV.ag [(AV.i c.kind),(AV.i c.lba),(AV.i c.n),(AV.i c.id),(bys c.d),(exs c.list)])),(1,(AV.pt 0 0)),(2,(AV.b false)),(3,(AV.b s0)),(4,(AV.b s1))] 182 (AH.mk 1 [(0,(AObj.cells [(AV.i c.kind),(AV.i c.lba),(AV.i c.n),(AV.i c.id),(bys c.d),(exs c.list)]))]) false)
noncomputable def z69 (c:Ch) (s0:Bool):Option (Bool):=
 (tb ((decide (c.id≥1))) (some ((decide (c.id < 2147483648)))) (some (false)))
theorem z0u (c:Ch) (s0:Bool) (zz:Bool):z69 c s0=some zz→v4 Try.prog cf 1 ((rj Try.prog cf 53 1)) (z0r c s0) (j0 c s0 zz):=by
 unfold z69
 exact tbD (fun h2 h2p=> fun e=> sj e▸u4 z7 (k:=300) (r:=[]) (hs:=hz [(6,[.yes]),(1,[.yes]),(2,[.yes]),(1,[.yes]),(1,[])]) (ks:=[0,1,2,3,4]) (bs:=[0]) kq (ac h2 (ac h2 (ac h2 (ac h2 an)))) kq) fun h2 h2p=> fun e=> sj e▸u4 z7 (k:=300) (r:=[]) (hs:=hz [(6,[.no,.no,.no,.no]),(1,[])]) (ks:=[0,1,2,3,4]) (bs:=[0]) kq (ac h2 (ac h2 (ac h2 (ac h2 an)))) kq
noncomputable abbrev zca (c:Ch) (s0:Bool) (s1:Bool) (s2:Bool):St:=(St.mk [(0,(AV.ag [(AV.i c.kind),(AV.i c.lba),(AV.i c.n),(AV.i c.id),(bys c.d),(exs c.list)])),(1,(AV.pt 0 0)),(2,(AV.b false)),(3,(AV.b s0)),(4,(AV.b s1)),(36,(AV.pt 0 4)),(37,(bys c.d)),(38,(AV.i (c.d.length:Int))),(5,(AV.i (c.d.length:Int))),(39,(AV.pt 0 5)),(40,(exs c.list)),(41,(AV.b s2)),(6,(AV.b s2)),(42,(AV.pt 0 0)),(43,(AV.i c.kind)),(45,(AV.b (c.kind==1))),(44,(AV.b (c.kind==1)))] 182 (AH.mk 1 [(0,(AObj.cells [(AV.i c.kind),(AV.i c.lba),(AV.i c.n),(AV.i c.id),(bys c.d),(exs c.list)]))]) false)
noncomputable abbrev z8b (c:Ch) (s0:Bool) (s1:Bool) (s2:Bool) (s4:Bool):St:=(St.mk [(0,(AV.ag [(AV.i c.kind),(AV.i c.lba),(AV.i c.n),(AV.i c.id),(bys c.d),(exs c.list)])),(1,(AV.pt 0 0)),(2,(AV.b s4)),(3,(AV.b s0)),(4,(AV.b s1)),(5,(AV.i (c.d.length:Int))),(6,(AV.b s2)),(43,(AV.i c.kind)),(44,(AV.b (c.kind==1)))] 182 (AH.mk 1 [(0,(AObj.cells [(AV.i c.kind),(AV.i c.lba),(AV.i c.n),(AV.i c.id),(bys c.d),(exs c.list)]))]) false)
noncomputable def z7m (c:Ch) (s0:Bool) (s1:Bool) (s2:Bool):Option (Bool):=
 (tb (s0) (tb ((c.id==0)) (tb (((c.d.length:Int)==(wr ((32:Int)*c.n)))) (some (((c.list.length:Int)==0))) (some (false))) (some (false))) (some (false)))
theorem zgy (c:Ch) (s0:Bool) (s1:Bool) (s2:Bool) (zz:Bool):z7m c s0 s1 s2=some zz→v4 Try.prog cf 1 ((rj Try.prog cf 53 2)) (zca c s0 s1 s2) (z8b c s0 s1 s2 zz):=by
 unfold z7m
 exact u6 (fun h5=> tbE (fun h6 h6p=> tbE (fun h7 h7p=> fun e=> sj e▸u4 z7 (k:=300) (r:=[]) (hs:=hz [(3,[.yes]),(1,[.yes]),(2,[.yes]),(1,[.yes]),(1,[.yes]),(1,[.yes]),(1,[.yes]),(2,[.yes]),(1,[.yes]),(1,[.yes]),(1,[.yes]),(1,[.yes]),(2,[.yes]),(1,[.yes]),(1,[.yes]),(1,[])]) (ks:=[0,1,2,3,4,5,6,43,44]) (bs:=[0]) kq (ac h5 (ac h5 (ac h5 (ac h5 (ac h6 (ac h6 (ac h6 (ac h6 (ac h6 (ac h6 (ac h7 (ac h7 (ac h7 (ac h7 (ac h7 an))))))))))))))) kq) fun h7 h7p=> fun e=> sj e▸u4 z7 (k:=300) (r:=[]) (hs:=hz [(3,[.yes]),(1,[.yes]),(2,[.yes]),(1,[.yes]),(1,[.yes]),(1,[.yes]),(1,[.yes]),(2,[.yes]),(1,[.yes]),(1,[.yes]),(1,[.no,.no,.no,.no,.no]),(1,[])]) (ks:=[0,1,2,3,4,5,6,43,44]) (bs:=[0]) kq (ac h5 (ac h5 (ac h5 (ac h5 (ac h6 (ac h6 (ac h6 (ac h6 (ac h6 (ac h6 (ac h7 (ac h7 (ac h7 (ac h7 (ac h7 an))))))))))))))) kq) fun h6 h6p=> fun e=> sj e▸u4 z7 (k:=300) (r:=[]) (hs:=hz [(3,[.yes]),(1,[.yes]),(2,[.yes]),(1,[.yes]),(1,[.no,.no,.no,.no,.no,.no]),(7,[])]) (ks:=[0,1,2,3,4,5,6,43,44]) (bs:=[0]) kq (ac h5 (ac h5 (ac h5 (ac h5 (ac h6 (ac h6 (ac h6 (ac h6 (ac h6 (ac h6 an)))))))))) kq) fun h5=> fun e=> sj e▸u4 z7 (k:=300) (r:=[]) (hs:=hz [(3,[.no,.no,.no,.no]),(14,[])]) (ks:=[0,1,2,3,4,5,6,43,44]) (bs:=[0]) kq (ac h5 (ac h5 (ac h5 (ac h5 an)))) kq
noncomputable abbrev zc5 (c:Ch) (s0:Bool) (s1:Bool) (s2:Bool):St:=(St.mk [(0,(AV.ag [(AV.i c.kind),(AV.i c.lba),(AV.i c.n),(AV.i c.id),(bys c.d),(exs c.list)])),(1,(AV.pt 0 0)),(2,(AV.b false)),(3,(AV.b s0)),(4,(AV.b s1)),(36,(AV.pt 0 4)),(37,(bys c.d)),(38,(AV.i (c.d.length:Int))),(5,(AV.i (c.d.length:Int))),(39,(AV.pt 0 5)),(40,(exs c.list)),(41,(AV.b s2)),(6,(AV.b s2)),(42,(AV.pt 0 0)),(43,(AV.i c.kind)),(45,(AV.b (c.kind==1))),(44,(AV.b (c.kind==1))),(66,(AV.b (c.kind==2))),(65,(AV.b (c.kind==2)))] 182 (AH.mk 1 [(0,(AObj.cells [(AV.i c.kind),(AV.i c.lba),(AV.i c.n),(AV.i c.id),(bys c.d),(exs c.list)]))]) false)
noncomputable abbrev z8c (c:Ch) (s0:Bool) (s1:Bool) (s2:Bool) (s5:Bool):St:=(St.mk [(0,(AV.ag [(AV.i c.kind),(AV.i c.lba),(AV.i c.n),(AV.i c.id),(bys c.d),(exs c.list)])),(1,(AV.pt 0 0)),(2,(AV.b s5)),(3,(AV.b s0)),(4,(AV.b s1)),(5,(AV.i (c.d.length:Int))),(6,(AV.b s2)),(43,(AV.i c.kind)),(44,(AV.b (c.kind==1))),(65,(AV.b (c.kind==2)))] 182 (AH.mk 1 [(0,(AObj.cells [(AV.i c.kind),(AV.i c.lba),(AV.i c.n),(AV.i c.id),(bys c.d),(exs c.list)]))]) false)
noncomputable def z7j (c:Ch) (s0:Bool) (s1:Bool) (s2:Bool):Option (Bool):=
 (tb (s0) (tb ((c.id==0)) (tb (((c.d.length:Int)==0)) (some (((c.list.length:Int)==0))) (some (false))) (some (false))) (some (false)))
theorem zir (c:Ch) (s0:Bool) (s1:Bool) (s2:Bool) (zz:Bool):z7j c s0 s1 s2=some zz→v4 Try.prog cf 1 ((rj Try.prog cf 53 3)) (zc5 c s0 s1 s2) (z8c c s0 s1 s2 zz):=by
 unfold z7j
 exact u6 (fun h6=> tbE (fun h7 h7p=> tbE (fun h8 h8p=> fun e=> sj e▸u4 z7 (k:=300) (r:=[]) (hs:=hz [(3,[.yes]),(1,[.yes]),(2,[.yes]),(1,[.yes]),(1,[.yes]),(1,[.yes]),(1,[.yes]),(1,[.yes]),(1,[.yes]),(2,[.yes]),(1,[.yes]),(1,[.yes]),(1,[])]) (ks:=[0,1,2,3,4,5,6,43,44,65]) (bs:=[0]) kq (ac h6 (ac h6 (ac h6 (ac h6 (ac h7 (ac h7 (ac h7 (ac h8 (ac h8 (ac h8 (ac h8 (ac h8 an)))))))))))) kq) fun h8 h8p=> fun e=> sj e▸u4 z7 (k:=300) (r:=[]) (hs:=hz [(3,[.yes]),(1,[.yes]),(2,[.yes]),(1,[.yes]),(1,[.yes]),(1,[.yes]),(1,[.yes]),(1,[.no,.no,.no,.no,.no]),(1,[])]) (ks:=[0,1,2,3,4,5,6,43,44,65]) (bs:=[0]) kq (ac h6 (ac h6 (ac h6 (ac h6 (ac h7 (ac h7 (ac h7 (ac h8 (ac h8 (ac h8 (ac h8 (ac h8 an)))))))))))) kq) fun h7 h7p=> fun e=> sj e▸u4 z7 (k:=300) (r:=[]) (hs:=hz [(3,[.yes]),(1,[.yes]),(2,[.yes]),(1,[.yes]),(1,[.no,.no,.no]),(7,[])]) (ks:=[0,1,2,3,4,5,6,43,44,65]) (bs:=[0]) kq (ac h6 (ac h6 (ac h6 (ac h6 (ac h7 (ac h7 (ac h7 an))))))) kq) fun h6=> fun e=> sj e▸u4 z7 (k:=300) (r:=[]) (hs:=hz [(3,[.no,.no,.no,.no]),(11,[])]) (ks:=[0,1,2,3,4,5,6,43,44,65]) (bs:=[0]) kq (ac h6 (ac h6 (ac h6 (ac h6 an)))) kq
noncomputable abbrev zc9 (c:Ch) (s0:Bool) (s1:Bool) (s2:Bool):St:=(St.mk [(0,(AV.ag [(AV.i c.kind),(AV.i c.lba),(AV.i c.n),(AV.i c.id),(bys c.d),(exs c.list)])),(1,(AV.pt 0 0)),(2,(AV.b false)),(3,(AV.b s0)),(4,(AV.b s1)),(36,(AV.pt 0 4)),(37,(bys c.d)),(38,(AV.i (c.d.length:Int))),(5,(AV.i (c.d.length:Int))),(39,(AV.pt 0 5)),(40,(exs c.list)),(41,(AV.b s2)),(6,(AV.b s2)),(42,(AV.pt 0 0)),(43,(AV.i c.kind)),(45,(AV.b (c.kind==1))),(44,(AV.b (c.kind==1))),(66,(AV.b (c.kind==2))),(65,(AV.b (c.kind==3))),(67,(AV.b (c.kind==3)))] 182 (AH.mk 1 [(0,(AObj.cells [(AV.i c.kind),(AV.i c.lba),(AV.i c.n),(AV.i c.id),(bys c.d),(exs c.list)]))]) false)
noncomputable abbrev z86 (c:Ch) (s0:Bool) (s1:Bool) (s2:Bool) (s6:Bool):St:=(St.mk [(0,(AV.ag [(AV.i c.kind),(AV.i c.lba),(AV.i c.n),(AV.i c.id),(bys c.d),(exs c.list)])),(1,(AV.pt 0 0)),(2,(AV.b s6)),(3,(AV.b s0)),(4,(AV.b s1)),(5,(AV.i (c.d.length:Int))),(6,(AV.b s2)),(43,(AV.i c.kind)),(44,(AV.b (c.kind==1))),(65,(AV.b (c.kind==3)))] 182 (AH.mk 1 [(0,(AObj.cells [(AV.i c.kind),(AV.i c.lba),(AV.i c.n),(AV.i c.id),(bys c.d),(exs c.list)]))]) false)
noncomputable def z7u (c:Ch) (s0:Bool) (s1:Bool) (s2:Bool):Option (Bool):=
 (tb (s0) (tb ((c.id==0)) (tb (((c.d.length:Int)==0)) (some (((c.list.length:Int)==0))) (some (false))) (some (false))) (some (false)))
theorem zjk (c:Ch) (s0:Bool) (s1:Bool) (s2:Bool) (zz:Bool):z7u c s0 s1 s2=some zz→v4 Try.prog cf 1 ((rj Try.prog cf 53 3)) (zc9 c s0 s1 s2) (z86 c s0 s1 s2 zz):=by
 unfold z7u
 exact u6 (fun h7=> tbE (fun h8 h8p=> tbE (fun h9 h9p=> fun e=> sj e▸u4 z7 (k:=300) (r:=[]) (hs:=hz [(3,[.yes]),(1,[.yes]),(2,[.yes]),(1,[.yes]),(1,[.yes]),(1,[.yes]),(1,[.yes]),(1,[.yes]),(1,[.yes]),(2,[.yes]),(1,[.yes]),(1,[.yes]),(1,[])]) (ks:=[0,1,2,3,4,5,6,43,44,65]) (bs:=[0]) kq (ac h7 (ac h7 (ac h7 (ac h7 (ac h8 (ac h8 (ac h8 (ac h9 (ac h9 (ac h9 (ac h9 (ac h9 an)))))))))))) kq) fun h9 h9p=> fun e=> sj e▸u4 z7 (k:=300) (r:=[]) (hs:=hz [(3,[.yes]),(1,[.yes]),(2,[.yes]),(1,[.yes]),(1,[.yes]),(1,[.yes]),(1,[.yes]),(1,[.no,.no,.no,.no,.no]),(1,[])]) (ks:=[0,1,2,3,4,5,6,43,44,65]) (bs:=[0]) kq (ac h7 (ac h7 (ac h7 (ac h7 (ac h8 (ac h8 (ac h8 (ac h9 (ac h9 (ac h9 (ac h9 (ac h9 an)))))))))))) kq) fun h8 h8p=> fun e=> sj e▸u4 z7 (k:=300) (r:=[]) (hs:=hz [(3,[.yes]),(1,[.yes]),(2,[.yes]),(1,[.yes]),(1,[.no,.no,.no]),(7,[])]) (ks:=[0,1,2,3,4,5,6,43,44,65]) (bs:=[0]) kq (ac h7 (ac h7 (ac h7 (ac h7 (ac h8 (ac h8 (ac h8 an))))))) kq) fun h7=> fun e=> sj e▸u4 z7 (k:=300) (r:=[]) (hs:=hz [(3,[.no,.no,.no,.no]),(11,[])]) (ks:=[0,1,2,3,4,5,6,43,44,65]) (bs:=[0]) kq (ac h7 (ac h7 (ac h7 (ac h7 an)))) kq
noncomputable abbrev zc7 (c:Ch) (s0:Bool) (s1:Bool) (s2:Bool):St:=(St.mk [(0,(AV.ag [(AV.i c.kind),(AV.i c.lba),(AV.i c.n),(AV.i c.id),(bys c.d),(exs c.list)])),(1,(AV.pt 0 0)),(2,(AV.b false)),(3,(AV.b s0)),(4,(AV.b s1)),(36,(AV.pt 0 4)),(37,(bys c.d)),(38,(AV.i (c.d.length:Int))),(5,(AV.i (c.d.length:Int))),(39,(AV.pt 0 5)),(40,(exs c.list)),(41,(AV.b s2)),(6,(AV.b s2)),(42,(AV.pt 0 0)),(43,(AV.i c.kind)),(45,(AV.b (c.kind==1))),(44,(AV.b (c.kind==1))),(66,(AV.b (c.kind==2))),(65,(AV.b (c.kind==3))),(67,(AV.b (c.kind==3))),(85,(AV.b (c.kind==4))),(84,(AV.b (c.kind==4)))] 182 (AH.mk 1 [(0,(AObj.cells [(AV.i c.kind),(AV.i c.lba),(AV.i c.n),(AV.i c.id),(bys c.d),(exs c.list)]))]) false)
noncomputable abbrev z8i (c:Ch) (s0:Bool) (s1:Bool) (s2:Bool) (s7:Bool):St:=(St.mk [(0,(AV.ag [(AV.i c.kind),(AV.i c.lba),(AV.i c.n),(AV.i c.id),(bys c.d),(exs c.list)])),(1,(AV.pt 0 0)),(2,(AV.b s7)),(3,(AV.b s0)),(4,(AV.b s1)),(5,(AV.i (c.d.length:Int))),(6,(AV.b s2)),(43,(AV.i c.kind)),(44,(AV.b (c.kind==1))),(65,(AV.b (c.kind==3))),(84,(AV.b (c.kind==4)))] 182 (AH.mk 1 [(0,(AObj.cells [(AV.i c.kind),(AV.i c.lba),(AV.i c.n),(AV.i c.id),(bys c.d),(exs c.list)]))]) false)
noncomputable def z7i (c:Ch) (s0:Bool) (s1:Bool) (s2:Bool):Option (Bool):=
 (tb ((c.lba==0)) (tb ((c.n==0)) (tb (s1) (tb (((c.d.length:Int)==0)) (some (((c.list.length:Int)==0))) (some (false))) (some (false))) (some (false))) (some (false)))
theorem zj4 (c:Ch) (s0:Bool) (s1:Bool) (s2:Bool) (zz:Bool):z7i c s0 s1 s2=some zz→v4 Try.prog cf 1 ((rj Try.prog cf 53 4)) (zc7 c s0 s1 s2) (z8i c s0 s1 s2 zz):=by
 unfold z7i
 exact tbE (fun h8 h8p=> tbE (fun h9 h9p=> u6 (fun h10=> tbE (fun h11 h11p=> fun e=> sj e▸u4 z7 (k:=300) (r:=[]) (hs:=hz [(6,[.yes]),(1,[.yes]),(2,[.yes]),(1,[.yes]),(1,[.yes]),(1,[.yes]),(1,[.yes]),(1,[.yes]),(1,[.yes]),(1,[.yes]),(1,[.yes]),(2,[.yes]),(1,[.yes]),(1,[.yes]),(1,[])]) (ks:=[0,1,2,3,4,5,6,43,44,65,84]) (bs:=[0]) kq (ac h8 (ac h8 (ac h8 (ac h8 (ac h9 (ac h9 (ac h10 (ac h10 (ac h10 (ac h11 (ac h11 (ac h11 (ac h11 (ac h11 an)))))))))))))) kq) fun h11 h11p=> fun e=> sj e▸u4 z7 (k:=300) (r:=[]) (hs:=hz [(6,[.yes]),(1,[.yes]),(2,[.yes]),(1,[.yes]),(1,[.yes]),(1,[.yes]),(1,[.yes]),(1,[.yes]),(1,[.yes]),(1,[.no,.no,.no,.no,.no]),(1,[])]) (ks:=[0,1,2,3,4,5,6,43,44,65,84]) (bs:=[0]) kq (ac h8 (ac h8 (ac h8 (ac h8 (ac h9 (ac h9 (ac h10 (ac h10 (ac h10 (ac h11 (ac h11 (ac h11 (ac h11 (ac h11 an)))))))))))))) kq) fun h10=> fun e=> sj e▸u4 z7 (k:=300) (r:=[]) (hs:=hz [(6,[.yes]),(1,[.yes]),(2,[.yes]),(1,[.yes]),(1,[.yes]),(1,[.yes]),(1,[.no,.no,.no]),(7,[])]) (ks:=[0,1,2,3,4,5,6,43,44,65,84]) (bs:=[0]) kq (ac h8 (ac h8 (ac h8 (ac h8 (ac h9 (ac h9 (ac h10 (ac h10 (ac h10 an))))))))) kq) fun h9 h9p=> fun e=> sj e▸u4 z7 (k:=300) (r:=[]) (hs:=hz [(6,[.yes]),(1,[.yes]),(2,[.yes]),(1,[.yes]),(1,[.no,.no]),(11,[])]) (ks:=[0,1,2,3,4,5,6,43,44,65,84]) (bs:=[0]) kq (ac h8 (ac h8 (ac h8 (ac h8 (ac h9 (ac h9 an)))))) kq) fun h8 h8p=> fun e=> sj e▸u4 z7 (k:=300) (r:=[]) (hs:=hz [(6,[.no,.no,.no,.no]),(14,[])]) (ks:=[0,1,2,3,4,5,6,43,44,65,84]) (bs:=[0]) kq (ac h8 (ac h8 (ac h8 (ac h8 an)))) kq
noncomputable abbrev zcg (c:Ch) (s0:Bool) (s1:Bool) (s2:Bool):St:=(St.mk [(0,(AV.ag [(AV.i c.kind),(AV.i c.lba),(AV.i c.n),(AV.i c.id),(bys c.d),(exs c.list)])),(1,(AV.pt 0 0)),(2,(AV.b false)),(3,(AV.b s0)),(4,(AV.b s1)),(36,(AV.pt 0 4)),(37,(bys c.d)),(38,(AV.i (c.d.length:Int))),(5,(AV.i (c.d.length:Int))),(39,(AV.pt 0 5)),(40,(exs c.list)),(41,(AV.b s2)),(6,(AV.b s2)),(42,(AV.pt 0 0)),(43,(AV.i c.kind)),(45,(AV.b (c.kind==1))),(44,(AV.b (c.kind==1))),(66,(AV.b (c.kind==2))),(65,(AV.b (c.kind==3))),(67,(AV.b (c.kind==3))),(85,(AV.b (c.kind==4))),(84,(AV.b (c.kind==5))),(86,(AV.b (c.kind==5)))] 182 (AH.mk 1 [(0,(AObj.cells [(AV.i c.kind),(AV.i c.lba),(AV.i c.n),(AV.i c.id),(bys c.d),(exs c.list)]))]) false)
noncomputable abbrev z8h (c:Ch) (s0:Bool) (s1:Bool) (s2:Bool) (s8:Bool):St:=(St.mk [(0,(AV.ag [(AV.i c.kind),(AV.i c.lba),(AV.i c.n),(AV.i c.id),(bys c.d),(exs c.list)])),(1,(AV.pt 0 0)),(2,(AV.b s8)),(3,(AV.b s0)),(4,(AV.b s1)),(5,(AV.i (c.d.length:Int))),(6,(AV.b s2)),(43,(AV.i c.kind)),(44,(AV.b (c.kind==1))),(65,(AV.b (c.kind==3))),(84,(AV.b (c.kind==5)))] 182 (AH.mk 1 [(0,(AObj.cells [(AV.i c.kind),(AV.i c.lba),(AV.i c.n),(AV.i c.id),(bys c.d),(exs c.list)]))]) false)
noncomputable def z7p (c:Ch) (s0:Bool) (s1:Bool) (s2:Bool):Option (Bool):=
 (tb ((c.lba==0)) (tb ((c.n==0)) (tb (s1) (tb (((c.d.length:Int)==0)) (some (((c.list.length:Int)==0))) (some (false))) (some (false))) (some (false))) (some (false)))
theorem zia (c:Ch) (s0:Bool) (s1:Bool) (s2:Bool) (zz:Bool):z7p c s0 s1 s2=some zz→v4 Try.prog cf 1 ((rj Try.prog cf 53 4)) (zcg c s0 s1 s2) (z8h c s0 s1 s2 zz):=by
 unfold z7p
 exact tbE (fun h9 h9p=> tbE (fun h10 h10p=> u6 (fun h11=> tbE (fun h12 h12p=> fun e=> sj e▸u4 z7 (k:=300) (r:=[]) (hs:=hz [(6,[.yes]),(1,[.yes]),(2,[.yes]),(1,[.yes]),(1,[.yes]),(1,[.yes]),(1,[.yes]),(1,[.yes]),(1,[.yes]),(1,[.yes]),(1,[.yes]),(2,[.yes]),(1,[.yes]),(1,[.yes]),(1,[])]) (ks:=[0,1,2,3,4,5,6,43,44,65,84]) (bs:=[0]) kq (ac h9 (ac h9 (ac h9 (ac h9 (ac h10 (ac h10 (ac h11 (ac h11 (ac h11 (ac h12 (ac h12 (ac h12 (ac h12 (ac h12 an)))))))))))))) kq) fun h12 h12p=> fun e=> sj e▸u4 z7 (k:=300) (r:=[]) (hs:=hz [(6,[.yes]),(1,[.yes]),(2,[.yes]),(1,[.yes]),(1,[.yes]),(1,[.yes]),(1,[.yes]),(1,[.yes]),(1,[.yes]),(1,[.no,.no,.no,.no,.no]),(1,[])]) (ks:=[0,1,2,3,4,5,6,43,44,65,84]) (bs:=[0]) kq (ac h9 (ac h9 (ac h9 (ac h9 (ac h10 (ac h10 (ac h11 (ac h11 (ac h11 (ac h12 (ac h12 (ac h12 (ac h12 (ac h12 an)))))))))))))) kq) fun h11=> fun e=> sj e▸u4 z7 (k:=300) (r:=[]) (hs:=hz [(6,[.yes]),(1,[.yes]),(2,[.yes]),(1,[.yes]),(1,[.yes]),(1,[.yes]),(1,[.no,.no,.no]),(7,[])]) (ks:=[0,1,2,3,4,5,6,43,44,65,84]) (bs:=[0]) kq (ac h9 (ac h9 (ac h9 (ac h9 (ac h10 (ac h10 (ac h11 (ac h11 (ac h11 an))))))))) kq) fun h10 h10p=> fun e=> sj e▸u4 z7 (k:=300) (r:=[]) (hs:=hz [(6,[.yes]),(1,[.yes]),(2,[.yes]),(1,[.yes]),(1,[.no,.no]),(11,[])]) (ks:=[0,1,2,3,4,5,6,43,44,65,84]) (bs:=[0]) kq (ac h9 (ac h9 (ac h9 (ac h9 (ac h10 (ac h10 an)))))) kq) fun h9 h9p=> fun e=> sj e▸u4 z7 (k:=300) (r:=[]) (hs:=hz [(6,[.no,.no,.no,.no]),(14,[])]) (ks:=[0,1,2,3,4,5,6,43,44,65,84]) (bs:=[0]) kq (ac h9 (ac h9 (ac h9 (ac h9 an)))) kq
noncomputable abbrev zc2 (c:Ch) (s0:Bool) (s1:Bool) (s2:Bool):St:=(St.mk [(0,(AV.ag [(AV.i c.kind),(AV.i c.lba),(AV.i c.n),(AV.i c.id),(bys c.d),(exs c.list)])),(1,(AV.pt 0 0)),(2,(AV.b false)),(3,(AV.b s0)),(4,(AV.b s1)),(36,(AV.pt 0 4)),(37,(bys c.d)),(38,(AV.i (c.d.length:Int))),(5,(AV.i (c.d.length:Int))),(39,(AV.pt 0 5)),(40,(exs c.list)),(41,(AV.b s2)),(6,(AV.b s2)),(42,(AV.pt 0 0)),(43,(AV.i c.kind)),(45,(AV.b (c.kind==1))),(44,(AV.b (c.kind==1))),(66,(AV.b (c.kind==2))),(65,(AV.b (c.kind==3))),(67,(AV.b (c.kind==3))),(85,(AV.b (c.kind==4))),(84,(AV.b (c.kind==5))),(86,(AV.b (c.kind==5))),(109,(AV.b (c.kind==6))),(108,(AV.b (c.kind==6)))] 182 (AH.mk 1 [(0,(AObj.cells [(AV.i c.kind),(AV.i c.lba),(AV.i c.n),(AV.i c.id),(bys c.d),(exs c.list)]))]) false)
noncomputable abbrev z8k (c:Ch) (s0:Bool) (s1:Bool) (s2:Bool) (s9:Bool):St:=(St.mk [(0,(AV.ag [(AV.i c.kind),(AV.i c.lba),(AV.i c.n),(AV.i c.id),(bys c.d),(exs c.list)])),(1,(AV.pt 0 0)),(2,(AV.b s9)),(3,(AV.b s0)),(4,(AV.b s1)),(5,(AV.i (c.d.length:Int))),(6,(AV.b s2)),(43,(AV.i c.kind)),(44,(AV.b (c.kind==1))),(65,(AV.b (c.kind==3))),(84,(AV.b (c.kind==5))),(108,(AV.b (c.kind==6)))] 182 (AH.mk 1 [(0,(AObj.cells [(AV.i c.kind),(AV.i c.lba),(AV.i c.n),(AV.i c.id),(bys c.d),(exs c.list)]))]) false)
noncomputable def z7g (c:Ch) (s0:Bool) (s1:Bool) (s2:Bool):Option (Bool):=
 (tb ((c.lba==0)) (tb ((c.n==0)) (tb ((c.id==0)) (tb ((decide ((c.d.length:Int)≥1))) (tb ((decide ((c.d.length:Int)≤1000))) (some (((c.list.length:Int)==0))) (some (false))) (some (false))) (some (false))) (some (false))) (some (false)))
theorem zju (c:Ch) (s0:Bool) (s1:Bool) (s2:Bool) (zz:Bool):z7g c s0 s1 s2=some zz→v4 Try.prog cf 1 ((rj Try.prog cf 53 5)) (zc2 c s0 s1 s2) (z8k c s0 s1 s2 zz):=by
 unfold z7g
 exact tbE (fun h10 h10p=> tbE (fun h11 h11p=> tbE (fun h12 h12p=> tbD (fun h13 h13p=> tbD (fun h14 h14p=> fun e=> sj e▸u4 z7 (k:=300) (r:=[]) (hs:=hz [(6,[.yes]),(1,[.yes]),(2,[.yes]),(1,[.yes]),(1,[.yes]),(1,[.yes]),(2,[.yes]),(1,[.yes]),(1,[.yes]),(1,[.yes]),(1,[.yes]),(1,[.yes]),(1,[.yes]),(1,[.yes]),(1,[.yes]),(1,[.yes]),(2,[.yes]),(1,[.yes]),(1,[.yes]),(1,[])]) (ks:=[0,1,2,3,4,5,6,43,44,65,84,108]) (bs:=[0]) kq (ac h10 (ac h10 (ac h10 (ac h10 (ac h11 (ac h11 (ac h11 (ac h11 (ac h12 (ac h12 (ac h12 (ac h13 (ac h13 (ac h13 (ac h14 (ac h14 (ac h14 (ac h14 (ac h14 an))))))))))))))))))) kq) fun h14 h14p=> fun e=> sj e▸u4 z7 (k:=300) (r:=[]) (hs:=hz [(6,[.yes]),(1,[.yes]),(2,[.yes]),(1,[.yes]),(1,[.yes]),(1,[.yes]),(2,[.yes]),(1,[.yes]),(1,[.yes]),(1,[.yes]),(1,[.yes]),(1,[.yes]),(1,[.yes]),(1,[.yes]),(1,[.no,.no,.no,.no,.no]),(1,[])]) (ks:=[0,1,2,3,4,5,6,43,44,65,84,108]) (bs:=[0]) kq (ac h10 (ac h10 (ac h10 (ac h10 (ac h11 (ac h11 (ac h11 (ac h11 (ac h12 (ac h12 (ac h12 (ac h13 (ac h13 (ac h13 (ac h14 (ac h14 (ac h14 (ac h14 (ac h14 an))))))))))))))))))) kq) fun h13 h13p=> fun e=> sj e▸u4 z7 (k:=300) (r:=[]) (hs:=hz [(6,[.yes]),(1,[.yes]),(2,[.yes]),(1,[.yes]),(1,[.yes]),(1,[.yes]),(2,[.yes]),(1,[.yes]),(1,[.yes]),(1,[.yes]),(1,[.yes]),(1,[.no,.no,.no]),(7,[])]) (ks:=[0,1,2,3,4,5,6,43,44,65,84,108]) (bs:=[0]) kq (ac h10 (ac h10 (ac h10 (ac h10 (ac h11 (ac h11 (ac h11 (ac h11 (ac h12 (ac h12 (ac h12 (ac h13 (ac h13 (ac h13 an)))))))))))))) kq) fun h12 h12p=> fun e=> sj e▸u4 z7 (k:=300) (r:=[]) (hs:=hz [(6,[.yes]),(1,[.yes]),(2,[.yes]),(1,[.yes]),(1,[.yes]),(1,[.yes]),(2,[.yes]),(1,[.yes]),(1,[.no,.no,.no]),(11,[])]) (ks:=[0,1,2,3,4,5,6,43,44,65,84,108]) (bs:=[0]) kq (ac h10 (ac h10 (ac h10 (ac h10 (ac h11 (ac h11 (ac h11 (ac h11 (ac h12 (ac h12 (ac h12 an))))))))))) kq) fun h11 h11p=> fun e=> sj e▸u4 z7 (k:=300) (r:=[]) (hs:=hz [(6,[.yes]),(1,[.yes]),(2,[.yes]),(1,[.yes]),(1,[.no,.no,.no,.no]),(15,[])]) (ks:=[0,1,2,3,4,5,6,43,44,65,84,108]) (bs:=[0]) kq (ac h10 (ac h10 (ac h10 (ac h10 (ac h11 (ac h11 (ac h11 (ac h11 an)))))))) kq) fun h10 h10p=> fun e=> sj e▸u4 z7 (k:=300) (r:=[]) (hs:=hz [(6,[.no,.no,.no,.no]),(20,[])]) (ks:=[0,1,2,3,4,5,6,43,44,65,84,108]) (bs:=[0]) kq (ac h10 (ac h10 (ac h10 (ac h10 an)))) kq
noncomputable abbrev zc3 (c:Ch) (s0:Bool) (s1:Bool) (s2:Bool):St:=(St.mk [(0,(AV.ag [(AV.i c.kind),(AV.i c.lba),(AV.i c.n),(AV.i c.id),(bys c.d),(exs c.list)])),(1,(AV.pt 0 0)),(2,(AV.b false)),(3,(AV.b s0)),(4,(AV.b s1)),(36,(AV.pt 0 4)),(37,(bys c.d)),(38,(AV.i (c.d.length:Int))),(5,(AV.i (c.d.length:Int))),(39,(AV.pt 0 5)),(40,(exs c.list)),(41,(AV.b s2)),(6,(AV.b s2)),(42,(AV.pt 0 0)),(43,(AV.i c.kind)),(45,(AV.b (c.kind==1))),(44,(AV.b (c.kind==1))),(66,(AV.b (c.kind==2))),(65,(AV.b (c.kind==3))),(67,(AV.b (c.kind==3))),(85,(AV.b (c.kind==4))),(84,(AV.b (c.kind==5))),(86,(AV.b (c.kind==5))),(109,(AV.b (c.kind==6))),(108,(AV.b (c.kind==6))),(138,(AV.b (c.kind==7))),(137,(AV.b (c.kind==7)))] 182 (AH.mk 1 [(0,(AObj.cells [(AV.i c.kind),(AV.i c.lba),(AV.i c.n),(AV.i c.id),(bys c.d),(exs c.list)]))]) false)
noncomputable abbrev z8e (c:Ch) (s0:Bool) (s1:Bool) (s2:Bool) (s10:Bool):St:=(St.mk [(0,(AV.ag [(AV.i c.kind),(AV.i c.lba),(AV.i c.n),(AV.i c.id),(bys c.d),(exs c.list)])),(1,(AV.pt 0 0)),(2,(AV.b s10)),(3,(AV.b s0)),(4,(AV.b s1)),(5,(AV.i (c.d.length:Int))),(6,(AV.b s2)),(43,(AV.i c.kind)),(44,(AV.b (c.kind==1))),(65,(AV.b (c.kind==3))),(84,(AV.b (c.kind==5))),(108,(AV.b (c.kind==6))),(137,(AV.b (c.kind==7)))] 182 (AH.mk 1 [(0,(AObj.cells [(AV.i c.kind),(AV.i c.lba),(AV.i c.n),(AV.i c.id),(bys c.d),(exs c.list)]))]) false)
noncomputable def z7o (c:Ch) (s0:Bool) (s1:Bool) (s2:Bool):Option (Bool):=
 (tb ((c.lba==0)) (tb ((c.n==0)) (tb ((c.id==0)) (tb (((c.d.length:Int)==0)) (some (((c.list.length:Int)==0))) (some (false))) (some (false))) (some (false))) (some (false)))
theorem zjz (c:Ch) (s0:Bool) (s1:Bool) (s2:Bool) (zz:Bool):z7o c s0 s1 s2=some zz→v4 Try.prog cf 1 ((rj Try.prog cf 53 6)) (zc3 c s0 s1 s2) (z8e c s0 s1 s2 zz):=by
 unfold z7o
 exact tbE (fun h11 h11p=> tbE (fun h12 h12p=> tbE (fun h13 h13p=> tbE (fun h14 h14p=> fun e=> sj e▸u4 z7 (k:=300) (r:=[]) (hs:=hz [(6,[.yes]),(1,[.yes]),(2,[.yes]),(1,[.yes]),(1,[.yes]),(1,[.yes]),(2,[.yes]),(1,[.yes]),(1,[.yes]),(1,[.yes]),(1,[.yes]),(1,[.yes]),(1,[.yes]),(2,[.yes]),(1,[.yes]),(1,[.yes]),(1,[])]) (ks:=[0,1,2,3,4,5,6,43,44,65,84,108,137]) (bs:=[0]) kq (ac h11 (ac h11 (ac h11 (ac h11 (ac h12 (ac h12 (ac h12 (ac h12 (ac h13 (ac h13 (ac h13 (ac h14 (ac h14 (ac h14 (ac h14 (ac h14 an)))))))))))))))) kq) fun h14 h14p=> fun e=> sj e▸u4 z7 (k:=300) (r:=[]) (hs:=hz [(6,[.yes]),(1,[.yes]),(2,[.yes]),(1,[.yes]),(1,[.yes]),(1,[.yes]),(2,[.yes]),(1,[.yes]),(1,[.yes]),(1,[.yes]),(1,[.yes]),(1,[.no,.no,.no,.no,.no]),(1,[])]) (ks:=[0,1,2,3,4,5,6,43,44,65,84,108,137]) (bs:=[0]) kq (ac h11 (ac h11 (ac h11 (ac h11 (ac h12 (ac h12 (ac h12 (ac h12 (ac h13 (ac h13 (ac h13 (ac h14 (ac h14 (ac h14 (ac h14 (ac h14 an)))))))))))))))) kq) fun h13 h13p=> fun e=> sj e▸u4 z7 (k:=300) (r:=[]) (hs:=hz [(6,[.yes]),(1,[.yes]),(2,[.yes]),(1,[.yes]),(1,[.yes]),(1,[.yes]),(2,[.yes]),(1,[.yes]),(1,[.no,.no,.no]),(7,[])]) (ks:=[0,1,2,3,4,5,6,43,44,65,84,108,137]) (bs:=[0]) kq (ac h11 (ac h11 (ac h11 (ac h11 (ac h12 (ac h12 (ac h12 (ac h12 (ac h13 (ac h13 (ac h13 an))))))))))) kq) fun h12 h12p=> fun e=> sj e▸u4 z7 (k:=300) (r:=[]) (hs:=hz [(6,[.yes]),(1,[.yes]),(2,[.yes]),(1,[.yes]),(1,[.no,.no,.no,.no]),(11,[])]) (ks:=[0,1,2,3,4,5,6,43,44,65,84,108,137]) (bs:=[0]) kq (ac h11 (ac h11 (ac h11 (ac h11 (ac h12 (ac h12 (ac h12 (ac h12 an)))))))) kq) fun h11 h11p=> fun e=> sj e▸u4 z7 (k:=300) (r:=[]) (hs:=hz [(6,[.no,.no,.no,.no]),(16,[])]) (ks:=[0,1,2,3,4,5,6,43,44,65,84,108,137]) (bs:=[0]) kq (ac h11 (ac h11 (ac h11 (ac h11 an)))) kq
noncomputable abbrev zci (c:Ch) (s0:Bool) (s1:Bool) (s2:Bool):St:=(St.mk [(0,(AV.ag [(AV.i c.kind),(AV.i c.lba),(AV.i c.n),(AV.i c.id),(bys c.d),(exs c.list)])),(1,(AV.pt 0 0)),(2,(AV.b false)),(3,(AV.b s0)),(4,(AV.b s1)),(36,(AV.pt 0 4)),(37,(bys c.d)),(38,(AV.i (c.d.length:Int))),(5,(AV.i (c.d.length:Int))),(39,(AV.pt 0 5)),(40,(exs c.list)),(41,(AV.b s2)),(6,(AV.b s2)),(42,(AV.pt 0 0)),(43,(AV.i c.kind)),(45,(AV.b (c.kind==1))),(44,(AV.b (c.kind==1))),(66,(AV.b (c.kind==2))),(65,(AV.b (c.kind==3))),(67,(AV.b (c.kind==3))),(85,(AV.b (c.kind==4))),(84,(AV.b (c.kind==5))),(86,(AV.b (c.kind==5))),(109,(AV.b (c.kind==6))),(108,(AV.b (c.kind==6))),(138,(AV.b (c.kind==7))),(137,(AV.b (c.kind==7))),(163,(AV.b (c.kind==8))),(162,(AV.b (c.kind==8)))] 182 (AH.mk 1 [(0,(AObj.cells [(AV.i c.kind),(AV.i c.lba),(AV.i c.n),(AV.i c.id),(bys c.d),(exs c.list)]))]) false)
noncomputable abbrev z8f (c:Ch) (s0:Bool) (s1:Bool) (s2:Bool) (s11:Bool):St:=(St.mk [(0,(AV.ag [(AV.i c.kind),(AV.i c.lba),(AV.i c.n),(AV.i c.id),(bys c.d),(exs c.list)])),(1,(AV.pt 0 0)),(2,(AV.b s11)),(3,(AV.b s0)),(4,(AV.b s1)),(5,(AV.i (c.d.length:Int))),(6,(AV.b s2)),(43,(AV.i c.kind)),(44,(AV.b (c.kind==1))),(65,(AV.b (c.kind==3))),(84,(AV.b (c.kind==5))),(108,(AV.b (c.kind==6))),(137,(AV.b (c.kind==7))),(162,(AV.b (c.kind==8)))] 182 (AH.mk 1 [(0,(AObj.cells [(AV.i c.kind),(AV.i c.lba),(AV.i c.n),(AV.i c.id),(bys c.d),(exs c.list)]))]) false)
noncomputable def z7n (c:Ch) (s0:Bool) (s1:Bool) (s2:Bool):Option (Bool):=
 (tb ((c.lba==0)) (tb ((c.n==0)) (tb (s1) (tb (((c.d.length:Int)==0)) (some (s2)) (some (false))) (some (false))) (some (false))) (some (false)))
theorem zit (c:Ch) (s0:Bool) (s1:Bool) (s2:Bool) (zz:Bool):z7n c s0 s1 s2=some zz→v4 Try.prog cf 1 ((rj Try.prog cf 53 7)) (zci c s0 s1 s2) (z8f c s0 s1 s2 zz):=by
 unfold z7n
 exact tbE (fun h12 h12p=> tbE (fun h13 h13p=> u6 (fun h14=> tbE (fun h15 h15p=> fun e=> sj e▸u4 z7 (k:=300) (r:=[]) (hs:=hz [(6,[.yes]),(1,[.yes]),(2,[.yes]),(1,[.yes]),(1,[.yes]),(1,[.yes]),(1,[.yes]),(1,[.yes]),(1,[.yes]),(1,[.yes]),(1,[.yes]),(1,[])]) (ks:=[0,1,2,3,4,5,6,43,44,65,84,108,137,162]) (bs:=[0]) kq (ac h12 (ac h12 (ac h12 (ac h12 (ac h13 (ac h13 (ac h14 (ac h14 (ac h14 (ac h15 (ac h15 an))))))))))) kq) fun h15 h15p=> fun e=> sj e▸u4 z7 (k:=300) (r:=[]) (hs:=hz [(6,[.yes]),(1,[.yes]),(2,[.yes]),(1,[.yes]),(1,[.yes]),(1,[.yes]),(1,[.yes]),(1,[.yes]),(1,[.yes]),(1,[.no,.no]),(1,[])]) (ks:=[0,1,2,3,4,5,6,43,44,65,84,108,137,162]) (bs:=[0]) kq (ac h12 (ac h12 (ac h12 (ac h12 (ac h13 (ac h13 (ac h14 (ac h14 (ac h14 (ac h15 (ac h15 an))))))))))) kq) fun h14=> fun e=> sj e▸u4 z7 (k:=300) (r:=[]) (hs:=hz [(6,[.yes]),(1,[.yes]),(2,[.yes]),(1,[.yes]),(1,[.yes]),(1,[.yes]),(1,[.no,.no,.no]),(4,[])]) (ks:=[0,1,2,3,4,5,6,43,44,65,84,108,137,162]) (bs:=[0]) kq (ac h12 (ac h12 (ac h12 (ac h12 (ac h13 (ac h13 (ac h14 (ac h14 (ac h14 an))))))))) kq) fun h13 h13p=> fun e=> sj e▸u4 z7 (k:=300) (r:=[]) (hs:=hz [(6,[.yes]),(1,[.yes]),(2,[.yes]),(1,[.yes]),(1,[.no,.no]),(8,[])]) (ks:=[0,1,2,3,4,5,6,43,44,65,84,108,137,162]) (bs:=[0]) kq (ac h12 (ac h12 (ac h12 (ac h12 (ac h13 (ac h13 an)))))) kq) fun h12 h12p=> fun e=> sj e▸u4 z7 (k:=300) (r:=[]) (hs:=hz [(6,[.no,.no,.no,.no]),(11,[])]) (ks:=[0,1,2,3,4,5,6,43,44,65,84,108,137,162]) (bs:=[0]) kq (ac h12 (ac h12 (ac h12 (ac h12 an)))) kq
noncomputable def zb8 (c:Ch):Option (Bool):=
 (tc (z61 c) fun s0=> (tc (z69 c s0) fun s1=> (tc (zdw (c.list)) fun s2=> (tb ((c.kind==1)) (tc (z7m c s0 s1 s2) fun s4=> (some (s4))) (tb ((c.kind==2)) (tc (z7j c s0 s1 s2) fun s5=> (some (s5))) (tb ((c.kind==3)) (tc (z7u c s0 s1 s2) fun s6=> (some (s6))) (tb ((c.kind==4)) (tc (z7i c s0 s1 s2) fun s7=> (some (s7))) (tb ((c.kind==5)) (tc (z7p c s0 s1 s2) fun s8=> (some (s8))) (tb ((c.kind==6)) (tc (z7g c s0 s1 s2) fun s9=> (some (s9))) (tb ((c.kind==7)) (tc (z7o c s0 s1 s2) fun s10=> (some (s10))) (tb ((c.kind==8)) (tc (z7n c s0 s1 s2) fun s11=> (some (s11))) (some (false)))))))))))))
abbrev zrh (c:Ch) (r:Bool):Prop:=z06 Try.prog cf true 53 [Ch.av (c)] (.b (r))
theorem z0z (c:Ch) (r:Bool):zb8 c=some r→zrh c r:=by
 unfold zb8
 exact w7 fun s0 h0=> w7 fun s1 h1=> w7 fun s2 h2=> tbE (fun h3 h3p=> w7 fun s4 h4=> fun e=> sj e▸y8 z7 (k:=300) (r:=[]) (hs:=hz [(2,[.res .normal (j9 c s0),.res .normal (j0 c s0 s1)]),(9,[.fres (.b (s2))]),(6,[.yes,.res .normal (z8b c s0 s1 s2 s4)])]) (raw:=(AV.b s4)) kq (ac (show Ev Try.prog cf ((rj Try.prog cf 53 0)) (z0q c) (.normal,j9 c s0) from (v4.ev (z0w c _ h0) rfl)) (ac (show Ev Try.prog cf ((rj Try.prog cf 53 1)) (z0r c s0) (.normal,j0 c s0 s1) from (v4.ev (z0u c s0 _ h1) rfl)) (ac (z2o (c.list) _ h2).any0 (ac h3 (ac (show Ev Try.prog cf ((rj Try.prog cf 53 2)) (zca c s0 s1 s2) (.normal,z8b c s0 s1 s2 s4) from (v4.ev (zgy c s0 s1 s2 _ h4) rfl)) an))))) tq) fun h3 h3p=> tbE (fun h4 h4p=> w7 fun s5 h5=> fun e=> sj e▸y8 z7 (k:=300) (r:=[]) (hs:=hz [(2,[.res .normal (j9 c s0),.res .normal (j0 c s0 s1)]),(9,[.fres (.b (s2))]),(6,[.no]),(2,[.yes,.yes,.res .normal (z8c c s0 s1 s2 s5)])]) (raw:=(AV.b s5)) kq (ac (show Ev Try.prog cf ((rj Try.prog cf 53 0)) (z0q c) (.normal,j9 c s0) from (v4.ev (z0w c _ h0) rfl)) (ac (show Ev Try.prog cf ((rj Try.prog cf 53 1)) (z0r c s0) (.normal,j0 c s0 s1) from (v4.ev (z0u c s0 _ h1) rfl)) (ac (z2o (c.list) _ h2).any0 (ac h3 (ac h4 (ac h4 (ac (show Ev Try.prog cf ((rj Try.prog cf 53 3)) (zc5 c s0 s1 s2) (.normal,z8c c s0 s1 s2 s5) from (v4.ev (zir c s0 s1 s2 _ h5) rfl)) an))))))) tq) fun h4 h4p=> tbE (fun h5 h5p=> w7 fun s6 h6=> fun e=> sj e▸y8 z7 (k:=300) (r:=[]) (hs:=hz [(2,[.res .normal (j9 c s0),.res .normal (j0 c s0 s1)]),(9,[.fres (.b (s2))]),(6,[.no]),(2,[.no]),(2,[.yes,.res .normal (z86 c s0 s1 s2 s6)])]) (raw:=(AV.b s6)) kq (ac (show Ev Try.prog cf ((rj Try.prog cf 53 0)) (z0q c) (.normal,j9 c s0) from (v4.ev (z0w c _ h0) rfl)) (ac (show Ev Try.prog cf ((rj Try.prog cf 53 1)) (z0r c s0) (.normal,j0 c s0 s1) from (v4.ev (z0u c s0 _ h1) rfl)) (ac (z2o (c.list) _ h2).any0 (ac h3 (ac h4 (ac h5 (ac (show Ev Try.prog cf ((rj Try.prog cf 53 3)) (zc9 c s0 s1 s2) (.normal,z86 c s0 s1 s2 s6) from (v4.ev (zjk c s0 s1 s2 _ h6) rfl)) an))))))) tq) fun h5 h5p=> tbE (fun h6 h6p=> w7 fun s7 h7=> fun e=> sj e▸y8 z7 (k:=300) (r:=[]) (hs:=hz [(2,[.res .normal (j9 c s0),.res .normal (j0 c s0 s1)]),(9,[.fres (.b (s2))]),(6,[.no]),(2,[.no]),(2,[.no]),(2,[.yes,.yes,.res .normal (z8i c s0 s1 s2 s7)])]) (raw:=(AV.b s7)) kq (ac (show Ev Try.prog cf ((rj Try.prog cf 53 0)) (z0q c) (.normal,j9 c s0) from (v4.ev (z0w c _ h0) rfl)) (ac (show Ev Try.prog cf ((rj Try.prog cf 53 1)) (z0r c s0) (.normal,j0 c s0 s1) from (v4.ev (z0u c s0 _ h1) rfl)) (ac (z2o (c.list) _ h2).any0 (ac h3 (ac h4 (ac h5 (ac h6 (ac h6 (ac (show Ev Try.prog cf ((rj Try.prog cf 53 4)) (zc7 c s0 s1 s2) (.normal,z8i c s0 s1 s2 s7) from (v4.ev (zj4 c s0 s1 s2 _ h7) rfl)) an))))))))) tq) fun h6 h6p=> tbE (fun h7 h7p=> w7 fun s8 h8=> fun e=> sj e▸y8 z7 (k:=300) (r:=[]) (hs:=hz [(2,[.res .normal (j9 c s0),.res .normal (j0 c s0 s1)]),(9,[.fres (.b (s2))]),(6,[.no]),(2,[.no]),(2,[.no]),(2,[.no]),(2,[.yes,.res .normal (z8h c s0 s1 s2 s8)])]) (raw:=(AV.b s8)) kq (ac (show Ev Try.prog cf ((rj Try.prog cf 53 0)) (z0q c) (.normal,j9 c s0) from (v4.ev (z0w c _ h0) rfl)) (ac (show Ev Try.prog cf ((rj Try.prog cf 53 1)) (z0r c s0) (.normal,j0 c s0 s1) from (v4.ev (z0u c s0 _ h1) rfl)) (ac (z2o (c.list) _ h2).any0 (ac h3 (ac h4 (ac h5 (ac h6 (ac h7 (ac (show Ev Try.prog cf ((rj Try.prog cf 53 4)) (zcg c s0 s1 s2) (.normal,z8h c s0 s1 s2 s8) from (v4.ev (zia c s0 s1 s2 _ h8) rfl)) an))))))))) tq) fun h7 h7p=> tbE (fun h8 h8p=> w7 fun s9 h9=> fun e=> sj e▸y8 z7 (k:=300) (r:=[]) (hs:=hz [(2,[.res .normal (j9 c s0),.res .normal (j0 c s0 s1)]),(9,[.fres (.b (s2))]),(6,[.no]),(2,[.no]),(2,[.no]),(2,[.no]),(2,[.no]),(2,[.yes,.res .normal (z8k c s0 s1 s2 s9)])]) (raw:=(AV.b s9)) kq (ac (show Ev Try.prog cf ((rj Try.prog cf 53 0)) (z0q c) (.normal,j9 c s0) from (v4.ev (z0w c _ h0) rfl)) (ac (show Ev Try.prog cf ((rj Try.prog cf 53 1)) (z0r c s0) (.normal,j0 c s0 s1) from (v4.ev (z0u c s0 _ h1) rfl)) (ac (z2o (c.list) _ h2).any0 (ac h3 (ac h4 (ac h5 (ac h6 (ac h7 (ac h8 (ac (show Ev Try.prog cf ((rj Try.prog cf 53 5)) (zc2 c s0 s1 s2) (.normal,z8k c s0 s1 s2 s9) from (v4.ev (zju c s0 s1 s2 _ h9) rfl)) an)))))))))) tq) fun h8 h8p=> tbE (fun h9 h9p=> w7 fun s10 h10=> fun e=> sj e▸y8 z7 (k:=300) (r:=[]) (hs:=hz [(2,[.res .normal (j9 c s0),.res .normal (j0 c s0 s1)]),(9,[.fres (.b (s2))]),(6,[.no]),(2,[.no]),(2,[.no]),(2,[.no]),(2,[.no]),(2,[.no]),(2,[.yes,.res .normal (z8e c s0 s1 s2 s10)])]) (raw:=(AV.b s10)) kq (ac (show Ev Try.prog cf ((rj Try.prog cf 53 0)) (z0q c) (.normal,j9 c s0) from (v4.ev (z0w c _ h0) rfl)) (ac (show Ev Try.prog cf ((rj Try.prog cf 53 1)) (z0r c s0) (.normal,j0 c s0 s1) from (v4.ev (z0u c s0 _ h1) rfl)) (ac (z2o (c.list) _ h2).any0 (ac h3 (ac h4 (ac h5 (ac h6 (ac h7 (ac h8 (ac h9 (ac (show Ev Try.prog cf ((rj Try.prog cf 53 6)) (zc3 c s0 s1 s2) (.normal,z8e c s0 s1 s2 s10) from (v4.ev (zjz c s0 s1 s2 _ h10) rfl)) an))))))))))) tq) fun h9 h9p=> tbE (fun h10 h10p=> w7 fun s11 h11=> fun e=> sj e▸y8 z7 (k:=300) (r:=[]) (hs:=hz [(2,[.res .normal (j9 c s0),.res .normal (j0 c s0 s1)]),(9,[.fres (.b (s2))]),(6,[.no]),(2,[.no]),(2,[.no]),(2,[.no]),(2,[.no]),(2,[.no]),(2,[.no]),(2,[.yes,.res .normal (z8f c s0 s1 s2 s11)])]) (raw:=(AV.b s11)) kq (ac (show Ev Try.prog cf ((rj Try.prog cf 53 0)) (z0q c) (.normal,j9 c s0) from (v4.ev (z0w c _ h0) rfl)) (ac (show Ev Try.prog cf ((rj Try.prog cf 53 1)) (z0r c s0) (.normal,j0 c s0 s1) from (v4.ev (z0u c s0 _ h1) rfl)) (ac (z2o (c.list) _ h2).any0 (ac h3 (ac h4 (ac h5 (ac h6 (ac h7 (ac h8 (ac h9 (ac h10 (ac (show Ev Try.prog cf ((rj Try.prog cf 53 7)) (zci c s0 s1 s2) (.normal,z8f c s0 s1 s2 s11) from (v4.ev (zit c s0 s1 s2 _ h11) rfl)) an)))))))))))) tq) fun h10 h10p=> fun e=> sj e▸y8 z7 (k:=300) (r:=[]) (hs:=hz [(2,[.res .normal (j9 c s0),.res .normal (j0 c s0 s1)]),(9,[.fres (.b (s2))]),(6,[.no]),(2,[.no]),(2,[.no]),(2,[.no]),(2,[.no]),(2,[.no]),(2,[.no]),(2,[.no]),(1,[])]) (raw:=(AV.b false)) kq (ac (show Ev Try.prog cf ((rj Try.prog cf 53 0)) (z0q c) (.normal,j9 c s0) from (v4.ev (z0w c _ h0) rfl)) (ac (show Ev Try.prog cf ((rj Try.prog cf 53 1)) (z0r c s0) (.normal,j0 c s0 s1) from (v4.ev (z0u c s0 _ h1) rfl)) (ac (z2o (c.list) _ h2).any0 (ac h3 (ac h4 (ac h5 (ac h6 (ac h7 (ac h8 (ac h9 (ac h10 an))))))))))) tq
end Ab
end Go.Proofs.Ytimcbhhebnikiaa
namespace Go.Proofs.Ytimcbhhebnikiaa
open Go Go.Proofs.Ytimcbhhebnikiaa.Ab
set_option linter.unusedVariables false
set_option linter.unusedSimpArgs false
set_option maxRecDepth 1000000
set_option maxHeartbeats 0
namespace Ab
noncomputable def zbg (s:Sa) (id:Int):Option (Sa×Int):=
 (tb ((decide (id≤s.last))) (some ((s,(112:Int)))) (tb (((s.points.length:Int)==4)) (some ((s,(113:Int)))) (tb ((s.gen==2147483647)) (some ((s,(113:Int)))) (tc (z6s (s)) fun s3=> (tc (z3s (s.map)) fun s4=> (tp ((((List.length (s3.points.flatMap Po.cells))=(s3.points.length*3))∧((s3.points.length+1)≤4294967296))) (tp ((((0:Nat)=0)∧((List.length (s3.map.flatMap Ex.cells))=(s3.map.length*5)))) (tp ((((0:Nat)=0)∧((List.length ((s3.points.flatMap Po.cells)++[(AV.i id),(AV.i s.gen),(AV.rf 6 5 0 s4.length)]))=((s3.points.length+1)*3)))) (some (((Sa.mk s3.blocks (wr (s.gen+1)) s3.map (s3.points++[(Po.mk id s.gen (List.take s4.length s4))]) id s3.staged),(0:Int))))))))))))
abbrev zvk (s:Sa) (id:Int) (r:Sa×Int):Prop:=z06 Try.prog cf false 55 [Sa.av (s),.i (id)] (.tu [Sa.av (r.1),.i (r.2)])
theorem zdb (s:Sa) (id:Int) (r:Sa×Int):zbg s id=some r→zvk s id r:=by
 unfold zbg
 exact tbD (fun h0 h0p=> fun e=> sj e▸y8 z7 (k:=300) (r:=[]) (hs:=hz [(8,[.yes]),(1,[.fc]),(1,[.fc]),(2,[.fc])]) (raw:=(AV.tu [(AV.ag [(AV.i s.blocks),(AV.i s.gen),(exs s.map),(AV.sl s.points.length (s.points.flatMap Po.cells)),(AV.i s.last),(bys s.staged)]),(AV.i 112)])) kq (ac h0 an) tq) fun h0 h0p=> tbE (fun h1 h1p=> fun e=> sj e▸y8 z7 (k:=300) (r:=[]) (hs:=hz [(8,[.no]),(6,[.yes,.yes,.yes,.yes]),(2,[.fc]),(1,[.fc]),(2,[.fc])]) (raw:=(AV.tu [(AV.ag [(AV.i s.blocks),(AV.i s.gen),(exs s.map),(AV.sl s.points.length (s.points.flatMap Po.cells)),(AV.i s.last),(bys s.staged)]),(AV.i 113)])) kq (ac h0 (ac h1 (ac h1 (ac h1 (ac h1 an))))) tq) fun h1 h1p=> tbE (fun h2 h2p=> fun e=> sj e▸y8 z7 (k:=300) (r:=[]) (hs:=hz [(8,[.no]),(6,[.no]),(1,[.no]),(2,[.no]),(1,[.no,.yes]),(1,[.fc]),(1,[.fc]),(2,[.fc])]) (raw:=(AV.tu [(AV.ag [(AV.i s.blocks),(AV.i s.gen),(exs s.map),(AV.sl s.points.length (s.points.flatMap Po.cells)),(AV.i s.last),(bys s.staged)]),(AV.i 113)])) kq (ac h0 (ac h1 (ac h1 (ac h1 (ac h1 (ac h2 an)))))) tq) fun h2 h2p=> w7 fun s3 h3=> w7 fun s4 h4=> x9 fun h5=> x9 fun h6=> x9 fun h7=> fun e=> sj e▸y8 z7 (k:=300) (r:=[]) (hs:=hz [(8,[.no]),(6,[.no]),(1,[.no]),(2,[.no]),(1,[.no,.no]),(1,[.fc]),(1,[.fres (Sa.av (s3))]),(2,[.fc]),(11,[.fres (exs (s4))]),(2,[.fc,.fc,.yes,.yes]),(2,[.fc,.yes]),(3,[.fc]),(6,[.fc]),(1,[.fc]),(1,[.fc]),(2,[.fc,.yes,.yes,.yes,.cellsb ((s3.points.flatMap Po.cells)++[(AV.i id),(AV.i s.gen),(AV.sl s4.length (List.take (s4.length*5) (s4.flatMap Ex.cells)))]) [6],.yes,.yes])]) (raw:=(AV.tu [(AV.ag [(AV.i s3.blocks),(AV.i (wr (s.gen+1))),(exs s3.map),(AV.sl (s3.points.length+1) ((s3.points.flatMap Po.cells)++[(AV.i id),(AV.i s.gen),(AV.sl s4.length (List.take (s4.length*5) (s4.flatMap Ex.cells)))])),(AV.i id),(bys s3.staged)]),(AV.i 0)])) kq (ac h0 (ac h1 (ac h1 (ac h1 (ac h1 (ac h2 (ac (z0f (s) _ h3) (ac (z48 (s.map) _ h4) (ac (tq (p:=(((0:Nat)=0)∧((List.length [(AV.i id),(AV.i s.gen),(AV.rf 6 5 0 s4.length)])=3)))) (ac h5 (ac (show z9 (rg Try.prog 55 0)=true∧w8 (Region.before (rg Try.prog 55 0)) [] 0 [(some [],some []),(some [5],some []),(some [],some []),(some [],some []),(some [0],some []),(some [],some []),(some [0],some []),(some [],some [6]),(some [],some []),(some [],some [7]),(some [3,7],some [3,8]),(some [],some []),(some [5],some [5])]=true from (x5 zwc zxy kq)) (ac h6 (ac (pq (p:=Pl false ((s3.map.flatMap Ex.cells)))) (ac h7 (ac (show z0b (t7 (AH.mk 9 [(8,(AObj.cells ((s3.points.flatMap Po.cells)++[(AV.i id),(AV.i s.gen),(AV.rf 6 5 0 s4.length)]))),(7,(AObj.cells [(AV.i id),(AV.i s.gen),(AV.rf 6 5 0 s4.length)])),(6,(AObj.cells (s4.flatMap Ex.cells))),(5,(AObj.cells [(AV.i s3.blocks),(AV.i (wr (s.gen+1))),(AV.rf 2 5 0 s3.map.length),(AV.rf 8 3 0 (s3.points.length+1)),(AV.i id),(AV.rf 4 1 0 s3.staged.length)])),((((2:Nat)+1)+1),(AObj.cells (List.map AV.y s3.staged))),(3,AObj.dead),(2,(AObj.cells (s3.map.flatMap Ex.cells))),(1,(AObj.cells [(AV.i s3.blocks),(AV.i (wr (s.gen+1))),(AV.rf 2 5 0 s3.map.length),(AV.rf 8 3 0 (s3.points.length+1)),(AV.i id),(AV.rf 4 1 0 s3.staged.length)])),(0,(AObj.cells [(AV.i s.blocks),(AV.i s.gen),(exs s.map),(AV.sl s.points.length (s.points.flatMap Po.cells)),(AV.i s.last),(bys s.staged)]))]) false 9) ((s3.points.flatMap Po.cells)++[(AV.i id),(AV.i s.gen),(AV.rf 6 5 0 s4.length)])=some (((s3.points.flatMap Po.cells)++[(AV.i id),(AV.i s.gen),(AV.sl s4.length (List.take (s4.length*5) (s4.flatMap Ex.cells)))]),[6]) from (zbj (x:=[]) (y:=[6]) (z4x _ _ _ _ pq) (z2s (x:=[]) (y:=[6]) (z3g rfl) (z2s (x:=[]) (y:=[6]) (z3g rfl) (z2s (x:=[6]) (y:=[]) (zhb (cs:=(s4.flatMap Ex.cells)) rfl tq pq) rfl))))) (ac (tq (p:=(((0:Nat)=0)∧((List.length (List.map AV.y s3.staged))=(s3.staged.length*1))))) (ac (pq (p:=Pl false ((List.map AV.y s3.staged)))) an))))))))))))))))) tq
noncomputable abbrev ze9 (s:Sa) (l:List Ex) (s0:List Ex):St:=(St.mk [(0,(AV.ag [(AV.i s.blocks),(AV.i s.gen),(exs s.map),(AV.sl s.points.length (s.points.flatMap Po.cells)),(AV.i s.last),(bys s.staged)])),(1,(exs l)),(2,(AV.pt 0 0)),(4,(AV.pt 1 0)),(5,(AV.i 0)),(11,(exs l)),(12,(AV.rf 2 5 0 s0.length)),(6,(AV.rf 2 5 0 s0.length)),(7,(AV.i 0))] 43 (AH.mk 3 [(2,(AObj.cells (s0.flatMap Ex.cells))),(1,(AObj.cells [(AV.i 0),(AV.i 0),AV.nl,AV.nl,(AV.i 0),AV.nl])),(0,(AObj.cells [(AV.i s.blocks),(AV.i s.gen),(exs s.map),(AV.sl s.points.length (s.points.flatMap Po.cells)),(AV.i s.last),(bys s.staged)]))]) false)
noncomputable abbrev z3w (s:Sa) (l:List Ex) (s0:List Ex) (s1:Int×List Ex):St:=(St.mk [(2,(AV.pt 0 0)),(4,(AV.pt 1 0)),(6,(AV.rf 2 5 0 s0.length)),(7,(AV.i s1.1))] 43 (AH.mk 3 [(2,(AObj.cells (s1.2.flatMap Ex.cells))),(1,(AObj.cells [(AV.i 0),(AV.i 0),AV.nl,AV.nl,(AV.i 0),AV.nl])),(0,(AObj.cells [(AV.i s.blocks),(AV.i s.gen),(exs s.map),(AV.sl s.points.length (s.points.flatMap Po.cells)),(AV.i s.last),(bys s.staged)]))]) false)
noncomputable def z6g (s:Sa) (l:List Ex) (s0:List Ex) (s1:Int×List Ex):Option (Int×List Ex):=
 (tb ((decide (s1.1 < (s0.length:Int)))) (tp ((((0:Int)≤s1.1)∧(s1.1 < (s0.length:Int)))) (tp ((((List.length [(AV.i s.gen)])=1)∧(((((0:Nat)+(s1.1.toNat*5))+3)+(List.length [(AV.i s.gen)]))≤(List.length (s1.2.flatMap Ex.cells))))) (some (((wr (s1.1+1)),(List.set s1.2 s1.1.toNat (Ex.mk (z0 s1.2 s1.1.toNat).lba (z0 s1.2 s1.1.toNat).len (z0 s1.2 s1.1.toNat).kind s.gen (z0 s1.2 s1.1.toNat).d))))))) none)
theorem zc6 (s:Sa) (l:List Ex) (s0:List Ex) (s1 zz:Int×List Ex):z6g s l s0 s1=some zz→v4 Try.prog cf 3 (lp Try.prog 54 0) (z3w s l s0 s1) (z3w s l s0 zz):=by
 unfold z6g
 exact tbD (fun h2 h2p=> x9 fun h3=> x9 fun h4=> fun e=> sj e▸z03 z7 (k:=300) (r:=[]) (hs:=hz [(4,[.yes]),(5,[.yes]),(1,[.yes,.cells ((List.flatMap Ex.cells (List.set s1.2 s1.1.toNat (Ex.mk (z0 s1.2 s1.1.toNat).lba (z0 s1.2 s1.1.toNat).len (z0 s1.2 s1.1.toNat).kind s.gen (z0 s1.2 s1.1.toNat).d))))]),(3,[])]) (ks:=[2,4,6,7]) (st1:=(St.mk [(2,(AV.pt 0 0)),(4,(AV.pt 1 0)),(6,(AV.rf 2 5 0 s0.length)),(7,(AV.i (wr (s1.1+1))))] 43 (AH.mk 3 [(2,(AObj.cells (List.flatMap Ex.cells (List.set s1.2 s1.1.toNat (Ex.mk (z0 s1.2 s1.1.toNat).lba (z0 s1.2 s1.1.toNat).len (z0 s1.2 s1.1.toNat).kind s.gen (z0 s1.2 s1.1.toNat).d))))),(1,(AObj.cells [(AV.i 0),(AV.i 0),AV.nl,AV.nl,(AV.i 0),AV.nl])),(0,(AObj.cells [(AV.i s.blocks),(AV.i s.gen),(exs s.map),(AV.sl s.points.length (s.points.flatMap Po.cells)),(AV.i s.last),(bys s.staged)]))]) false)) kq (ac h2 (ac h3 (ac h4 (ac (show (((List.take (((0:Nat)+(s1.1.toNat*5))+3) (s1.2.flatMap Ex.cells))++[(AV.i s.gen)])++(List.drop ((((0:Nat)+(s1.1.toNat*5))+3)+(List.length [(AV.i s.gen)])) (s1.2.flatMap Ex.cells)))=(List.flatMap Ex.cells (List.set s1.2 s1.1.toNat (Ex.mk (z0 s1.2 s1.1.toNat).lba (z0 s1.2 s1.1.toNat).len (z0 s1.2 s1.1.toNat).kind s.gen (z0 s1.2 s1.1.toNat).d))) from (by rw [show (((0:Nat)+(s1.1.toNat*5))+3)=(s1.1.toNat)*5+3 by omega];exact ze7 _ _ 3 _ ((Ex.mk (z0 s1.2 s1.1.toNat).lba (z0 s1.2 s1.1.toNat).len (z0 s1.2 s1.1.toNat).kind s.gen (z0 s1.2 s1.1.toNat).d)) bq (by simp) rfl)) an)))) (Nat.le_of_ble_eq_true rfl) (Nat.le_of_ble_eq_true rfl) (x0 [] [] kq (cP (cP (.consn kq (.rf rfl) (cE .nil)))) (hQ (hG rfl rfl (.cons (.eqv tq rfl) (.cons (.eqv tq rfl) (.cons .nl0 (.cons .nl0 (.cons (.eqv tq rfl) (.cons .nl0 .nil)))))) (hP .nil))))) fun h2 h2p=> v9
noncomputable def z7s (s:Sa) (l:List Ex):Option (Sa×Int):=
 (tc (z3s (l)) fun s0=> (th (z6g s l s0) (((0:Int),s0)) fun s1=> (tb ((decide (s1.1 < (s0.length:Int)))) none (tp ((((0:Nat)=0)∧((List.length (s1.2.flatMap Ex.cells))=(s0.length*5)))) (tc (zqw (s.blocks) (s.map) (s1.2)) fun s4=> (tb ((s4.2 !=0)) (some ((s,s4.2))) (tc (z6s (s)) fun s6=> (tp ((((0:Nat)=0)∧((List.length (s6.points.flatMap Po.cells))=(s6.points.length*3)))) (some (((Sa.mk s6.blocks s6.gen s4.1 s6.points s6.last s6.staged),(0:Int))))))))))))
abbrev zvo (s:Sa) (l:List Ex) (r:Sa×Int):Prop:=z06 Try.prog cf false 54 [Sa.av (s),exs (l)] (.tu [Sa.av (r.1),.i (r.2)])
theorem z5g (s:Sa) (l:List Ex) (r:Sa×Int):z7s s l=some r→zvo s l r:=by
 unfold z7s
 exact w7 fun s0 h0=> z0m fun s1 h1=> tbD (fun h2 h2p=> v9) fun h2 h2p=> x9 fun h3=> w7 fun s4 h4=> tbN (fun h5 h5p=> fun e=> sj e▸y8 z7 (k:=300) (r:=[]) (hs:=hz [(5,[.fres (exs (s0))]),(2,[.head (z3w s l s0 s1)]),(4,[.no]),(8,[.yes,.yes,.fres (.tu [exs (s4.1),.i (s4.2)])]),(7,[.yes]),(1,[.fc]),(2,[.fc]),(2,[.fc])]) (raw:=(AV.tu [(AV.ag [(AV.i s.blocks),(AV.i s.gen),(exs s.map),(AV.sl s.points.length (s.points.flatMap Po.cells)),(AV.i s.last),(bys s.staged)]),(AV.i s4.2)])) kq (ac (z48 (l) _ h0) (ac (show x4 Try.prog cf (lp Try.prog 54 0) (ze9 s l s0) (z3w s l s0 s1) from (x4.of (zc6 s l s0) (x0 [] [] kq (cP (cP (.consn kq (.rf rfl) (cE .nil)))) (hQ (hG rfl rfl (.cons (.eqv tq rfl) (.cons (.eqv tq rfl) (.cons .nl0 (.cons .nl0 (.cons (.eqv tq rfl) (.cons .nl0 .nil)))))) (hP .nil)))) h1)) (ac h2 (ac h3 (ac (pq (p:=Pl false ((s1.2.flatMap Ex.cells)))) (ac (show z06 Try.prog cf false 84 [(AV.i s.blocks),(exs s.map),(AV.sl s0.length (s1.2.flatMap Ex.cells))] (.tu [exs (s4.1),.i (s4.2)]) from ((znq (s.blocks) (s.map) (s1.2) _ h4).cast tq)) (ac h5 an))))))) tq) fun h5 h5p=> w7 fun s6 h6=> x9 fun h7=> fun e=> sj e▸y8 z7 (k:=300) (r:=[]) (hs:=hz [(5,[.fres (exs (s0))]),(2,[.head (z3w s l s0 s1)]),(4,[.no]),(8,[.yes,.yes,.fres (.tu [exs (s4.1),.i (s4.2)])]),(7,[.no]),(1,[.fc]),(1,[.fres (Sa.av (s6))]),(2,[.fc]),(3,[.fc]),(1,[.fc]),(1,[.fc]),(2,[.fc,.yes,.yes,.yes,.yes])]) (raw:=(AV.tu [(AV.ag [(AV.i s6.blocks),(AV.i s6.gen),(exs s4.1),(AV.sl s6.points.length (s6.points.flatMap Po.cells)),(AV.i s6.last),(bys s6.staged)]),(AV.i 0)])) kq (ac (z48 (l) _ h0) (ac (show x4 Try.prog cf (lp Try.prog 54 0) (ze9 s l s0) (z3w s l s0 s1) from (x4.of (zc6 s l s0) (x0 [] [] kq (cP (cP (.consn kq (.rf rfl) (cE .nil)))) (hQ (hG rfl rfl (.cons (.eqv tq rfl) (.cons (.eqv tq rfl) (.cons .nl0 (.cons .nl0 (.cons (.eqv tq rfl) (.cons .nl0 .nil)))))) (hP .nil)))) h1)) (ac h2 (ac h3 (ac (pq (p:=Pl false ((s1.2.flatMap Ex.cells)))) (ac (show z06 Try.prog cf false 84 [(AV.i s.blocks),(exs s.map),(AV.sl s0.length (s1.2.flatMap Ex.cells))] (.tu [exs (s4.1),.i (s4.2)]) from ((znq (s.blocks) (s.map) (s1.2) _ h4).cast tq)) (ac h5 (ac (z0f (s) _ h6) (ac h7 (ac (pq (p:=Pl false ((s6.points.flatMap Po.cells)))) (ac (tq (p:=(((0:Nat)=0)∧((List.length (List.map AV.y s6.staged))=(s6.staged.length*1))))) (ac (pq (p:=Pl false ((List.map AV.y s6.staged)))) an)))))))))))) tq
noncomputable abbrev za6 (s:Sa) (id:Int) (s0:Sa):St:=(St.mk [(0,(AV.ag [(AV.i s.blocks),(AV.i s.gen),(exs s.map),(AV.sl s.points.length (s.points.flatMap Po.cells)),(AV.i s.last),(bys s.staged)])),(1,(AV.i id)),(2,(AV.pt 0 0)),(4,(AV.pt 1 0)),(5,(AV.i 0)),(8,(AV.ag [(AV.i s.blocks),(AV.i s.gen),(exs s.map),(AV.sl s.points.length (s.points.flatMap Po.cells)),(AV.i s.last),(bys s.staged)])),(9,(AV.ag [(AV.i s0.blocks),(AV.i s0.gen),(AV.rf 2 5 0 s0.map.length),(AV.rf 3 3 0 s0.points.length),(AV.i s0.last),(AV.rf 4 1 0 s0.staged.length)])),(6,(AV.pt 5 0)),(10,(AV.pt 5 3)),(7,(AV.i 0))] 45 (AH.mk 6 [(5,(AObj.cells [(AV.i s0.blocks),(AV.i s0.gen),(AV.rf 2 5 0 s0.map.length),AV.nl,(AV.i s0.last),(AV.rf 4 1 0 s0.staged.length)])),(4,(AObj.cells (List.map AV.y s0.staged))),(3,(AObj.cells (s0.points.flatMap Po.cells))),(2,(AObj.cells (s0.map.flatMap Ex.cells))),(1,(AObj.cells [(AV.i 0),(AV.i 0),AV.nl,AV.nl,(AV.i 0),AV.nl])),(0,(AObj.cells [(AV.i s.blocks),(AV.i s.gen),(exs s.map),(AV.sl s.points.length (s.points.flatMap Po.cells)),(AV.i s.last),(bys s.staged)]))]) false)
noncomputable abbrev z1u (s:Sa) (id:Int) (s0:Sa) (s1:Int×List Po):St:=(St.mk [(1,(AV.i id)),(2,(AV.pt 0 0)),(4,(AV.pt 1 0)),(6,(AV.pt 5 0)),(7,(AV.i s1.1))] 45 (AH.mk 7 [(5,(AObj.cells [(AV.i s0.blocks),(AV.i s0.gen),(AV.rf 2 5 0 s0.map.length),(AV.rf 6 3 0 s1.2.length),(AV.i s0.last),(AV.rf 4 1 0 s0.staged.length)])),(4,(AObj.cells (List.map AV.y s0.staged))),(2,(AObj.cells (s0.map.flatMap Ex.cells))),(1,(AObj.cells [(AV.i 0),(AV.i 0),AV.nl,AV.nl,(AV.i 0),AV.nl])),(0,(AObj.cells [(AV.i s.blocks),(AV.i s.gen),(exs s.map),(AV.sl s.points.length (s.points.flatMap Po.cells)),(AV.i s.last),(bys s.staged)])),(6,(AObj.cells (s1.2.flatMap Po.cells)))]) false)
noncomputable def z1r (s:Sa) (id:Int) (s0:Sa) (s1:Int×List Po):Option (Int×List Po):=
 (tb ((decide (s1.1 < (s.points.length:Int)))) (tp ((((0:Int)≤s1.1)∧(s1.1 < (s.points.length:Int)))) (tb (((w6 s.points s1.1.toNat).id !=id)) (tp ((((List.length (s1.2.flatMap Po.cells))=(s1.2.length*3))∧((s1.2.length+1)≤4294967296))) (some (((wr (s1.1+1)),(s1.2++[(w6 s.points s1.1.toNat)]))))) (some (((wr (s1.1+1)),s1.2))))) none)
theorem z98 (s:Sa) (id:Int) (s0:Sa) (s1 zz:Int×List Po):z1r s id s0 s1=some zz→v4 Try.prog cf 6 (lp Try.prog 56 0) (z1u s id s0 s1) (z1u s id s0 zz):=by
 unfold z1r
 exact tbD (fun h2 h2p=> x9 fun h3=> tbN (fun h4 h4p=> x9 fun h5=> fun e=> sj e▸z03 z7 (k:=300) (r:=[]) (hs:=hz [(6,[.yes]),(4,[.yes]),(1,[.yes,.val ((AV.i (w6 s.points s1.1.toNat).id))]),(2,[.yes]),(7,[.yes,.yes,.cells ((Po.cells (w6 s.points s1.1.toNat)))]),(1,[.fc,.fc,.yes,.yes]),(2,[.fc,.yes]),(3,[])]) (ks:=[1,2,4,6,7]) (st1:=(St.mk [(1,(AV.i id)),(2,(AV.pt 0 0)),(4,(AV.pt 1 0)),(6,(AV.pt 5 0)),(7,(AV.i (wr (s1.1+1))))] 45 (AH.mk 9 [(8,(AObj.cells ((s1.2.flatMap Po.cells)++[(AV.i (w6 s.points s1.1.toNat).id),(AV.i (w6 s.points s1.1.toNat).gen),(exs (w6 s.points s1.1.toNat).map)]))),(7,(AObj.cells [(AV.i (w6 s.points s1.1.toNat).id),(AV.i (w6 s.points s1.1.toNat).gen),(exs (w6 s.points s1.1.toNat).map)])),(5,(AObj.cells [(AV.i s0.blocks),(AV.i s0.gen),(AV.rf 2 5 0 s0.map.length),(AV.rf 8 3 0 (s1.2.length+1)),(AV.i s0.last),(AV.rf 4 1 0 s0.staged.length)])),(4,(AObj.cells (List.map AV.y s0.staged))),(2,(AObj.cells (s0.map.flatMap Ex.cells))),(1,(AObj.cells [(AV.i 0),(AV.i 0),AV.nl,AV.nl,(AV.i 0),AV.nl])),(0,(AObj.cells [(AV.i s.blocks),(AV.i s.gen),(exs s.map),(AV.sl s.points.length (s.points.flatMap Po.cells)),(AV.i s.last),(bys s.staged)])),(6,AObj.dead)]) false)) kq (ac h2 (ac h3 (ac (fq (p:=((1:Nat)≤(List.length (List.drop (s1.1.toNat*3) (s.points.flatMap Po.cells)))))) (ac (show (List.take 1 (List.drop (s1.1.toNat*3) (s.points.flatMap Po.cells)))=[(AV.i (w6 s.points s1.1.toNat).id)] from (by first | exact zn8 _ _ _ bq rfl | (simpa using z2b (s.points) (s1.1.toNat) 0 _ bq rfl))) (ac h4 (ac h3 (ac (fq (p:=((3:Nat)≤(List.length (List.drop (s1.1.toNat*3) (s.points.flatMap Po.cells)))))) (ac (show (List.take 3 (List.drop (s1.1.toNat*3) (s.points.flatMap Po.cells)))=(Po.cells (w6 s.points s1.1.toNat)) from (z02 bq bq)) (ac (tq (p:=(((0:Nat)=0)∧((List.length [(AV.i (w6 s.points s1.1.toNat).id),(AV.i (w6 s.points s1.1.toNat).gen),(exs (w6 s.points s1.1.toNat).map)])=3)))) (ac h5 (ac (show z9 (rg Try.prog 56 0)=true∧w8 (Region.before (rg Try.prog 56 0)) [] 0 [(some [],some []),(some [5],some []),(some [],some []),(some [0],some []),(some [],some []),(some [],some []),(some [],some []),(some [],some [7]),(some [6,7],some [6,8]),(some [],some []),(some [5],some [5])]=true from (x5 zwu zzn kq)) an))))))))))) (Nat.le_of_ble_eq_true rfl) (Nat.le_of_ble_eq_true rfl) (x0 [8] [] kq (cE (cP (cP (cP (cE .nil))))) (hG rfl rfl (.cons (.eqv tq rfl) (.cons (.eqv tq rfl) (.cons (.rf rfl) (.cons (.rfn (n:=(s1.2.length+1)) rfl tq) (.cons (.eqv tq rfl) (.cons (.rf rfl) .nil)))))) (hG rfl rfl (.pl rfl (by simp)) (hG rfl rfl (.pl rfl (by simp)) (hG rfl rfl (.cons (.eqv tq rfl) (.cons (.eqv tq rfl) (.cons .nl0 (.cons .nl0 (.cons (.eqv tq rfl) (.cons .nl0 .nil)))))) (hP (hQ .nil)))))))) fun h4 h4p=> fun e=> sj e▸z03 z7 (k:=300) (r:=[]) (hs:=hz [(6,[.yes]),(4,[.yes]),(1,[.yes,.val ((AV.i (w6 s.points s1.1.toNat).id))]),(2,[.no]),(3,[])]) (ks:=[1,2,4,6,7]) (st1:=(St.mk [(1,(AV.i id)),(2,(AV.pt 0 0)),(4,(AV.pt 1 0)),(6,(AV.pt 5 0)),(7,(AV.i (wr (s1.1+1))))] 45 (AH.mk 7 [(5,(AObj.cells [(AV.i s0.blocks),(AV.i s0.gen),(AV.rf 2 5 0 s0.map.length),(AV.rf 6 3 0 s1.2.length),(AV.i s0.last),(AV.rf 4 1 0 s0.staged.length)])),(4,(AObj.cells (List.map AV.y s0.staged))),(2,(AObj.cells (s0.map.flatMap Ex.cells))),(1,(AObj.cells [(AV.i 0),(AV.i 0),AV.nl,AV.nl,(AV.i 0),AV.nl])),(0,(AObj.cells [(AV.i s.blocks),(AV.i s.gen),(exs s.map),(AV.sl s.points.length (s.points.flatMap Po.cells)),(AV.i s.last),(bys s.staged)])),(6,(AObj.cells (s1.2.flatMap Po.cells)))]) false)) kq (ac h2 (ac h3 (ac (fq (p:=((1:Nat)≤(List.length (List.drop (s1.1.toNat*3) (s.points.flatMap Po.cells)))))) (ac (show (List.take 1 (List.drop (s1.1.toNat*3) (s.points.flatMap Po.cells)))=[(AV.i (w6 s.points s1.1.toNat).id)] from (by first | exact zn8 _ _ _ bq rfl | (simpa using z2b (s.points) (s1.1.toNat) 0 _ bq rfl))) (ac h4 an))))) (Nat.le_of_ble_eq_true rfl) (Nat.le_of_ble_eq_true rfl) (x0 [6] [] kq (cE (cP (cP (cP (cE .nil))))) (hG rfl rfl (.cons (.eqv tq rfl) (.cons (.eqv tq rfl) (.cons (.rf rfl) (.cons (.rfn (n:=s1.2.length) rfl tq) (.cons (.eqv tq rfl) (.cons (.rf rfl) .nil)))))) (hG rfl rfl (.pl rfl (by simp)) (hG rfl rfl (.pl rfl (by simp)) (hG rfl rfl (.cons (.eqv tq rfl) (.cons (.eqv tq rfl) (.cons .nl0 (.cons .nl0 (.cons (.eqv tq rfl) (.cons .nl0 .nil)))))) (hP (hQ .nil)))))))) fun h2 h2p=> v9
noncomputable def z6z (s:Sa) (id:Int):Option (Sa×Int):=
 (tc (z6s (s)) fun s0=> (th (z1r s id s0) (((0:Int),([]:List Po))) fun s1=> (tb ((decide (s1.1 < (s.points.length:Int)))) none (tb (((s1.2.length:Int)==(s.points.length:Int))) (some ((s,(111:Int)))) (tp ((((0:Nat)=0)∧((List.length (s0.map.flatMap Ex.cells))=(s0.map.length*5)))) (some (((Sa.mk s0.blocks s0.gen s0.map s1.2 s0.last s0.staged),(0:Int)))))))))
abbrev zmv (s:Sa) (id:Int) (r:Sa×Int):Prop:=z06 Try.prog cf false 56 [Sa.av (s),.i (id)] (.tu [Sa.av (r.1),.i (r.2)])
theorem zkf (s:Sa) (id:Int) (r:Sa×Int):z6z s id=some r→zmv s id r:=by
 unfold z6z
 exact w7 fun s0 h0=> z0m fun s1 h1=> tbD (fun h2 h2p=> v9) fun h2 h2p=> tbE (fun h3 h3p=> fun e=> sj e▸y8 z7 (k:=300) (r:=[]) (hs:=hz [(4,[.fc]),(1,[.fres (Sa.av (s0))]),(2,[.fc]),(2,[.fc]),(1,[.head (z1u s id s0 s1)]),(6,[.no]),(9,[.yes]),(1,[.fc]),(1,[.fc]),(2,[.fc])]) (raw:=(AV.tu [(AV.ag [(AV.i s.blocks),(AV.i s.gen),(exs s.map),(AV.sl s.points.length (s.points.flatMap Po.cells)),(AV.i s.last),(bys s.staged)]),(AV.i 111)])) kq (ac (z0f (s) _ h0) (ac (show x4 Try.prog cf (lp Try.prog 56 0) (za6 s id s0) (z1u s id s0 s1) from (x4.of (z98 s id s0) (x0 [6] [] kq (cE (cP (cP (cP (cE .nil))))) (hG rfl rfl (.cons (.eqv tq rfl) (.cons (.eqv tq rfl) (.cons (.rf rfl) (.cons (.nln tq) (.cons (.eqv tq rfl) (.cons (.rf rfl) .nil)))))) (hG rfl rfl (.pl rfl (by simp)) (hG rfl rfl (.pl rfl (by simp)) (hG rfl rfl (.cons (.eqv tq rfl) (.cons (.eqv tq rfl) (.cons .nl0 (.cons .nl0 (.cons (.eqv tq rfl) (.cons .nl0 .nil)))))) (hP (.cons (.none rfl (Nat.le_refl _) rfl) .nil))))))) h1)) (ac h2 (ac h3 an)))) tq) fun h3 h3p=> x9 fun h4=> fun e=> sj e▸y8 z7 (k:=300) (r:=[]) (hs:=hz [(4,[.fc]),(1,[.fres (Sa.av (s0))]),(2,[.fc]),(2,[.fc]),(1,[.head (z1u s id s0 s1)]),(6,[.no]),(9,[.no]),(1,[.fc]),(1,[.fc]),(2,[.fc,.yes,.yes,.yes,.yes,.yes,.yes])]) (raw:=(AV.tu [(AV.ag [(AV.i s0.blocks),(AV.i s0.gen),(exs s0.map),(AV.sl s1.2.length (s1.2.flatMap Po.cells)),(AV.i s0.last),(bys s0.staged)]),(AV.i 0)])) kq (ac (z0f (s) _ h0) (ac (show x4 Try.prog cf (lp Try.prog 56 0) (za6 s id s0) (z1u s id s0 s1) from (x4.of (z98 s id s0) (x0 [6] [] kq (cE (cP (cP (cP (cE .nil))))) (hG rfl rfl (.cons (.eqv tq rfl) (.cons (.eqv tq rfl) (.cons (.rf rfl) (.cons (.nln tq) (.cons (.eqv tq rfl) (.cons (.rf rfl) .nil)))))) (hG rfl rfl (.pl rfl (by simp)) (hG rfl rfl (.pl rfl (by simp)) (hG rfl rfl (.cons (.eqv tq rfl) (.cons (.eqv tq rfl) (.cons .nl0 (.cons .nl0 (.cons (.eqv tq rfl) (.cons .nl0 .nil)))))) (hP (.cons (.none rfl (Nat.le_refl _) rfl) .nil))))))) h1)) (ac h2 (ac h3 (ac h4 (ac (pq (p:=Pl false ((s0.map.flatMap Ex.cells)))) (ac (fq (p:=(((0:Nat)=0)∧((List.length (s1.2.flatMap Po.cells))=(s1.2.length*3))))) (ac (pq (p:=Pl false ((s1.2.flatMap Po.cells)))) (ac (tq (p:=(((0:Nat)=0)∧((List.length (List.map AV.y s0.staged))=(s0.staged.length*1))))) (ac (pq (p:=Pl false ((List.map AV.y s0.staged)))) an)))))))))) tq
end Ab
end Go.Proofs.Ytimcbhhebnikiaa
namespace Go.Proofs.Ytimcbhhebnikiaa
open Go Go.Proofs.Ytimcbhhebnikiaa.Ab
set_option linter.unusedVariables false
set_option linter.unusedSimpArgs false
set_option maxRecDepth 1000000
set_option maxHeartbeats 0
namespace Ab
noncomputable def zhx (q:Sa) (c:Ch):Option (Sa×Int):=
 (tc (z8y (q)) fun s0=> (tb ((s0 !=0)) (some (((Sa.mk 0 0 ([]:List Ex) ([]:List Po) 0 ([]:List UInt8)),(110:Int)))) (tc (z6s (q)) fun s2=> (tc (zb8 (c)) fun s3=> (tb ((!s3)) (tp ((((0:Nat)=0)∧((List.length (s2.map.flatMap Ex.cells))=(s2.map.length*5)))) (some ((s2,(100:Int))))) (tb ((c.kind==1)) (tp ((((0:Nat)=0)∧((List.length (s2.map.flatMap Ex.cells))=(s2.map.length*5)))) (tc (z7s (s2) ([(Ex.mk c.lba c.n 2 0 c.d)])) fun s7=> (some ((s7.1,s7.2))))) (tb ((c.kind==2)) (tp ((((0:Nat)=0)∧((List.length (s2.map.flatMap Ex.cells))=(s2.map.length*5)))) (tc (z7s (s2) ([(Ex.mk c.lba c.n 1 0 ([]:List UInt8))])) fun s8=> (some ((s8.1,s8.2))))) (tb ((c.kind==3)) (tp ((((0:Nat)=0)∧((List.length (s2.map.flatMap Ex.cells))=(s2.map.length*5)))) (tc (z7s (s2) ([(Ex.mk c.lba c.n 0 0 ([]:List UInt8))])) fun s9=> (some ((s9.1,s9.2))))) (tb ((c.kind==4)) (tp ((((0:Nat)=0)∧((List.length (s2.map.flatMap Ex.cells))=(s2.map.length*5)))) (tc (zbg (s2) (c.id)) fun s10=> (some ((s10.1,s10.2))))) (tb ((c.kind==5)) (tp ((((0:Nat)=0)∧((List.length (s2.map.flatMap Ex.cells))=(s2.map.length*5)))) (tc (z6z (s2) (c.id)) fun s11=> (some ((s11.1,s11.2))))) (tb ((c.kind==6)) (tb ((decide ((wr ((s2.staged.length:Int)+(c.d.length:Int))) > 4000))) (tp ((((0:Nat)=0)∧((List.length (s2.map.flatMap Ex.cells))=(s2.map.length*5)))) (some ((s2,(113:Int))))) (tp ((((List.length (List.map AV.y s2.staged))=(s2.staged.length*1))∧((s2.staged.length+c.d.length)≤4294967296))) (tp ((((0:Nat)=0)∧((List.length (s2.map.flatMap Ex.cells))=(s2.map.length*5)))) (some (((Sa.mk s2.blocks s2.gen s2.map s2.points s2.last (s2.staged++c.d)),(0:Int))))))) (tb ((c.kind==7)) (tp ((((0:Nat)=0)∧((List.length (s2.map.flatMap Ex.cells))=(s2.map.length*5)))) (some (((Sa.mk s2.blocks s2.gen s2.map s2.points s2.last ([]:List UInt8)),(0:Int))))) (tp ((((0:Nat)=0)∧((List.length (s2.map.flatMap Ex.cells))=(s2.map.length*5)))) (tc (z7s (s2) (c.list)) fun s13=> (tb ((s13.2 !=0)) (some ((s2,s13.2))) (tc (zbg (s13.1) (c.id)) fun s15=> (tb ((s15.2 !=0)) (some ((s2,s15.2))) (some (((Sa.mk s15.1.blocks s15.1.gen s15.1.map s15.1.points s15.1.last ([]:List UInt8)),(0:Int)))))))))))))))))))))
abbrev zzt (q:Sa) (c:Ch) (r:Sa×Int):Prop:=z06 Try.prog cf false 30 [Sa.av (q),Ch.av (c)] (.tu [Sa.av (r.1),.i (r.2)])
theorem zjx (q:Sa) (c:Ch) (r:Sa×Int):zhx q c=some r→zzt q c r:=by
 unfold zhx
 exact w7 fun s0 h0=> tbN (fun h1 h1p=> fun e=> sj e▸y8 z7 (k:=300) (r:=[]) (hs:=hz [(5,[.fc]),(1,[.fres (.i (s0))]),(1,[.yes]),(2,[.fc]),(2,[.fc])]) (raw:=(AV.tu [(AV.ag [(AV.i 0),(AV.i 0),(AV.sl 0 ([]:List AV)),(AV.sl 0 ([]:List AV)),(AV.i 0),(AV.sl 0 ([]:List AV))]),(AV.i 110)])) kq (ac (z0e (q) _ h0).any0 (ac h1 an)) tq) fun h1 h1p=> w7 fun s2 h2=> w7 fun s3 h3=> u6 (fun h4=> x9 fun h5=> fun e=> sj e▸y8 z7 (k:=300) (r:=[]) (hs:=hz [(5,[.fc]),(1,[.fres (.i (s0))]),(1,[.no]),(1,[.fc]),(1,[.fres (Sa.av (s2))]),(2,[.fc]),(1,[.fc]),(1,[.fres (.b (s3))]),(3,[.yes]),(1,[.fc]),(1,[.fc]),(2,[.fc,.yes,.yes,.yes,.yes,.yes,.yes])]) (raw:=(AV.tu [(AV.ag [(AV.i s2.blocks),(AV.i s2.gen),(exs s2.map),(AV.sl s2.points.length (s2.points.flatMap Po.cells)),(AV.i s2.last),(bys s2.staged)]),(AV.i 100)])) kq (ac (z0e (q) _ h0).any0 (ac h1 (ac (z0f (q) _ h2) (ac (z0z (c) _ h3).any0 (ac h4 (ac h5 (ac (pq (p:=Pl false ((s2.map.flatMap Ex.cells)))) (ac (fq (p:=(((0:Nat)=0)∧((List.length (s2.points.flatMap Po.cells))=(s2.points.length*3))))) (ac (pq (p:=Pl false ((s2.points.flatMap Po.cells)))) (ac (tq (p:=(((0:Nat)=0)∧((List.length (List.map AV.y s2.staged))=(s2.staged.length*1))))) (ac (pq (p:=Pl false ((List.map AV.y s2.staged)))) an))))))))))) tq) fun h4=> tbE (fun h5 h5p=> x9 fun h6=> w7 fun s7 h7=> fun e=> sj e▸y8 z7 (k:=300) (r:=[]) (hs:=hz [(5,[.fc]),(1,[.fres (.i (s0))]),(1,[.no]),(1,[.fc]),(1,[.fres (Sa.av (s2))]),(2,[.fc]),(1,[.fc]),(1,[.fres (.b (s3))]),(3,[.no]),(5,[.yes]),(1,[.fc]),(11,[.fc,.fc]),(1,[.yes,.yes,.yes,.yes,.yes,.yes,.yes]),(1,[.fres (.tu [Sa.av (s7.1),.i (s7.2)])]),(3,[.fc]),(2,[.fc])]) (raw:=(AV.tu [(AV.ag [(AV.i s7.1.blocks),(AV.i s7.1.gen),(exs s7.1.map),(AV.sl s7.1.points.length (s7.1.points.flatMap Po.cells)),(AV.i s7.1.last),(bys s7.1.staged)]),(AV.i s7.2)])) kq (ac (z0e (q) _ h0).any0 (ac h1 (ac (z0f (q) _ h2) (ac (z0z (c) _ h3).any0 (ac h4 (ac h5 (ac h6 (ac (pq (p:=Pl false ((s2.map.flatMap Ex.cells)))) (ac (fq (p:=(((0:Nat)=0)∧((List.length (s2.points.flatMap Po.cells))=(s2.points.length*3))))) (ac (pq (p:=Pl false ((s2.points.flatMap Po.cells)))) (ac (tq (p:=(((0:Nat)=0)∧((List.length (List.map AV.y s2.staged))=(s2.staged.length*1))))) (ac (pq (p:=Pl false ((List.map AV.y s2.staged)))) (ac (tq (p:=(((0:Nat)=0)∧((List.length [(AV.i c.lba),(AV.i c.n),(AV.i 2),(AV.i 0),(bys c.d)])=5)))) (ac (z5g (s2) ([(Ex.mk c.lba c.n 2 0 c.d)]) _ h7) an)))))))))))))) tq) fun h5 h5p=> tbE (fun h6 h6p=> x9 fun h7=> w7 fun s8 h8=> fun e=> sj e▸y8 z7 (k:=300) (r:=[]) (hs:=hz [(5,[.fc]),(1,[.fres (.i (s0))]),(1,[.no]),(1,[.fc]),(1,[.fres (Sa.av (s2))]),(2,[.fc]),(1,[.fc]),(1,[.fres (.b (s3))]),(3,[.no]),(5,[.no]),(2,[.yes]),(1,[.fc]),(8,[.fc,.fc]),(1,[.yes,.yes,.yes,.yes,.yes,.yes,.yes]),(1,[.fres (.tu [Sa.av (s8.1),.i (s8.2)])]),(3,[.fc]),(2,[.fc])]) (raw:=(AV.tu [(AV.ag [(AV.i s8.1.blocks),(AV.i s8.1.gen),(exs s8.1.map),(AV.sl s8.1.points.length (s8.1.points.flatMap Po.cells)),(AV.i s8.1.last),(bys s8.1.staged)]),(AV.i s8.2)])) kq (ac (z0e (q) _ h0).any0 (ac h1 (ac (z0f (q) _ h2) (ac (z0z (c) _ h3).any0 (ac h4 (ac h5 (ac h6 (ac h7 (ac (pq (p:=Pl false ((s2.map.flatMap Ex.cells)))) (ac (fq (p:=(((0:Nat)=0)∧((List.length (s2.points.flatMap Po.cells))=(s2.points.length*3))))) (ac (pq (p:=Pl false ((s2.points.flatMap Po.cells)))) (ac (tq (p:=(((0:Nat)=0)∧((List.length (List.map AV.y s2.staged))=(s2.staged.length*1))))) (ac (pq (p:=Pl false ((List.map AV.y s2.staged)))) (ac (tq (p:=(((0:Nat)=0)∧((List.length [(AV.i c.lba),(AV.i c.n),(AV.i (Int.ofNat 1)),(AV.i (Int.ofNat 0)),AV.nl])=5)))) (ac (z5g (s2) ([(Ex.mk c.lba c.n 1 0 ([]:List UInt8))]) _ h8) an))))))))))))))) tq) fun h6 h6p=> tbE (fun h7 h7p=> x9 fun h8=> w7 fun s9 h9=> fun e=> sj e▸y8 z7 (k:=300) (r:=[]) (hs:=hz [(5,[.fc]),(1,[.fres (.i (s0))]),(1,[.no]),(1,[.fc]),(1,[.fres (Sa.av (s2))]),(2,[.fc]),(1,[.fc]),(1,[.fres (.b (s3))]),(3,[.no]),(5,[.no]),(2,[.no]),(2,[.yes]),(1,[.fc]),(8,[.fc,.fc]),(1,[.yes,.yes,.yes,.yes,.yes,.yes,.yes]),(1,[.fres (.tu [Sa.av (s9.1),.i (s9.2)])]),(3,[.fc]),(2,[.fc])]) (raw:=(AV.tu [(AV.ag [(AV.i s9.1.blocks),(AV.i s9.1.gen),(exs s9.1.map),(AV.sl s9.1.points.length (s9.1.points.flatMap Po.cells)),(AV.i s9.1.last),(bys s9.1.staged)]),(AV.i s9.2)])) kq (ac (z0e (q) _ h0).any0 (ac h1 (ac (z0f (q) _ h2) (ac (z0z (c) _ h3).any0 (ac h4 (ac h5 (ac h6 (ac h7 (ac h8 (ac (pq (p:=Pl false ((s2.map.flatMap Ex.cells)))) (ac (fq (p:=(((0:Nat)=0)∧((List.length (s2.points.flatMap Po.cells))=(s2.points.length*3))))) (ac (pq (p:=Pl false ((s2.points.flatMap Po.cells)))) (ac (tq (p:=(((0:Nat)=0)∧((List.length (List.map AV.y s2.staged))=(s2.staged.length*1))))) (ac (pq (p:=Pl false ((List.map AV.y s2.staged)))) (ac (tq (p:=(((0:Nat)=0)∧((List.length [(AV.i c.lba),(AV.i c.n),(AV.i (Int.ofNat 0)),(AV.i (Int.ofNat 0)),AV.nl])=5)))) (ac (z5g (s2) ([(Ex.mk c.lba c.n 0 0 ([]:List UInt8))]) _ h9) an)))))))))))))))) tq) fun h7 h7p=> tbE (fun h8 h8p=> x9 fun h9=> w7 fun s10 h10=> fun e=> sj e▸y8 z7 (k:=300) (r:=[]) (hs:=hz [(5,[.fc]),(1,[.fres (.i (s0))]),(1,[.no]),(1,[.fc]),(1,[.fres (Sa.av (s2))]),(2,[.fc]),(1,[.fc]),(1,[.fres (.b (s3))]),(3,[.no]),(5,[.no]),(2,[.no]),(2,[.no]),(2,[.yes]),(1,[.fc]),(4,[.yes,.yes,.yes,.yes,.yes,.yes,.fres (.tu [Sa.av (s10.1),.i (s10.2)])]),(3,[.fc]),(2,[.fc])]) (raw:=(AV.tu [(AV.ag [(AV.i s10.1.blocks),(AV.i s10.1.gen),(exs s10.1.map),(AV.sl s10.1.points.length (s10.1.points.flatMap Po.cells)),(AV.i s10.1.last),(bys s10.1.staged)]),(AV.i s10.2)])) kq (ac (z0e (q) _ h0).any0 (ac h1 (ac (z0f (q) _ h2) (ac (z0z (c) _ h3).any0 (ac h4 (ac h5 (ac h6 (ac h7 (ac h8 (ac h9 (ac (pq (p:=Pl false ((s2.map.flatMap Ex.cells)))) (ac (fq (p:=(((0:Nat)=0)∧((List.length (s2.points.flatMap Po.cells))=(s2.points.length*3))))) (ac (pq (p:=Pl false ((s2.points.flatMap Po.cells)))) (ac (tq (p:=(((0:Nat)=0)∧((List.length (List.map AV.y s2.staged))=(s2.staged.length*1))))) (ac (pq (p:=Pl false ((List.map AV.y s2.staged)))) (ac (zdb (s2) (c.id) _ h10) an)))))))))))))))) tq) fun h8 h8p=> tbE (fun h9 h9p=> x9 fun h10=> w7 fun s11 h11=> fun e=> sj e▸y8 z7 (k:=300) (r:=[]) (hs:=hz [(5,[.fc]),(1,[.fres (.i (s0))]),(1,[.no]),(1,[.fc]),(1,[.fres (Sa.av (s2))]),(2,[.fc]),(1,[.fc]),(1,[.fres (.b (s3))]),(3,[.no]),(5,[.no]),(2,[.no]),(2,[.no]),(2,[.no]),(2,[.yes]),(1,[.fc]),(4,[.yes,.yes,.yes,.yes,.yes,.yes,.fres (.tu [Sa.av (s11.1),.i (s11.2)])]),(3,[.fc]),(2,[.fc])]) (raw:=(AV.tu [(AV.ag [(AV.i s11.1.blocks),(AV.i s11.1.gen),(exs s11.1.map),(AV.sl s11.1.points.length (s11.1.points.flatMap Po.cells)),(AV.i s11.1.last),(bys s11.1.staged)]),(AV.i s11.2)])) kq (ac (z0e (q) _ h0).any0 (ac h1 (ac (z0f (q) _ h2) (ac (z0z (c) _ h3).any0 (ac h4 (ac h5 (ac h6 (ac h7 (ac h8 (ac h9 (ac h10 (ac (pq (p:=Pl false ((s2.map.flatMap Ex.cells)))) (ac (fq (p:=(((0:Nat)=0)∧((List.length (s2.points.flatMap Po.cells))=(s2.points.length*3))))) (ac (pq (p:=Pl false ((s2.points.flatMap Po.cells)))) (ac (tq (p:=(((0:Nat)=0)∧((List.length (List.map AV.y s2.staged))=(s2.staged.length*1))))) (ac (pq (p:=Pl false ((List.map AV.y s2.staged)))) (ac (zkf (s2) (c.id) _ h11) an))))))))))))))))) tq) fun h9 h9p=> tbE (fun h10 h10p=> tbD (fun h11 h11p=> x9 fun h12=> fun e=> sj e▸y8 z7 (k:=300) (r:=[]) (hs:=hz [(5,[.fc]),(1,[.fres (.i (s0))]),(1,[.no]),(1,[.fc]),(1,[.fres (Sa.av (s2))]),(2,[.fc]),(1,[.fc]),(1,[.fres (.b (s3))]),(3,[.no]),(5,[.no]),(2,[.no]),(2,[.no]),(2,[.no]),(2,[.no]),(2,[.yes]),(10,[.yes]),(1,[.fc]),(1,[.fc]),(2,[.fc,.yes,.yes,.yes,.yes,.yes,.yes])]) (raw:=(AV.tu [(AV.ag [(AV.i s2.blocks),(AV.i s2.gen),(exs s2.map),(AV.sl s2.points.length (s2.points.flatMap Po.cells)),(AV.i s2.last),(bys s2.staged)]),(AV.i 113)])) kq (ac (z0e (q) _ h0).any0 (ac h1 (ac (z0f (q) _ h2) (ac (z0z (c) _ h3).any0 (ac h4 (ac h5 (ac h6 (ac h7 (ac h8 (ac h9 (ac h10 (ac h11 (ac h12 (ac (pq (p:=Pl false ((s2.map.flatMap Ex.cells)))) (ac (fq (p:=(((0:Nat)=0)∧((List.length (s2.points.flatMap Po.cells))=(s2.points.length*3))))) (ac (pq (p:=Pl false ((s2.points.flatMap Po.cells)))) (ac (tq (p:=(((0:Nat)=0)∧((List.length (List.map AV.y s2.staged))=(s2.staged.length*1))))) (ac (pq (p:=Pl false ((List.map AV.y s2.staged)))) an)))))))))))))))))) tq) fun h11 h11p=> x9 fun h12=> x9 fun h13=> fun e=> sj e▸y8 z7 (k:=300) (r:=[]) (hs:=hz [(5,[.fc]),(1,[.fres (.i (s0))]),(1,[.no]),(1,[.fc]),(1,[.fres (Sa.av (s2))]),(2,[.fc]),(1,[.fc]),(1,[.fres (.b (s3))]),(3,[.no]),(5,[.no]),(2,[.no]),(2,[.no]),(2,[.no]),(2,[.no]),(2,[.yes]),(10,[.no]),(6,[.yes,.yes]),(2,[.fc]),(1,[.fc]),(1,[.fc]),(2,[.fc,.yes,.yes,.yes,.yes,.yes,.yes])]) (raw:=(AV.tu [(AV.ag [(AV.i s2.blocks),(AV.i s2.gen),(exs s2.map),(AV.sl s2.points.length (s2.points.flatMap Po.cells)),(AV.i s2.last),(AV.sl (s2.staged.length+c.d.length) ((List.map AV.y s2.staged)++(List.map AV.y c.d)))]),(AV.i 0)])) kq (ac (z0e (q) _ h0).any0 (ac h1 (ac (z0f (q) _ h2) (ac (z0z (c) _ h3).any0 (ac h4 (ac h5 (ac h6 (ac h7 (ac h8 (ac h9 (ac h10 (ac h11 (ac (tq (p:=((List.length (List.map AV.y c.d))=(c.d.length*1)))) (ac h12 (ac h13 (ac (pq (p:=Pl false ((s2.map.flatMap Ex.cells)))) (ac (fq (p:=(((0:Nat)=0)∧((List.length (s2.points.flatMap Po.cells))=(s2.points.length*3))))) (ac (pq (p:=Pl false ((s2.points.flatMap Po.cells)))) (ac (tq (p:=(((0:Nat)=0)∧((List.length ((List.map AV.y s2.staged)++(List.map AV.y c.d)))=((s2.staged.length+c.d.length)*1))))) (ac (pq (p:=Pl false (((List.map AV.y s2.staged)++(List.map AV.y c.d))))) an)))))))))))))))))))) tq) fun h10 h10p=> tbE (fun h11 h11p=> x9 fun h12=> fun e=> sj e▸y8 z7 (k:=300) (r:=[]) (hs:=hz [(5,[.fc]),(1,[.fres (.i (s0))]),(1,[.no]),(1,[.fc]),(1,[.fres (Sa.av (s2))]),(2,[.fc]),(1,[.fc]),(1,[.fres (.b (s3))]),(3,[.no]),(5,[.no]),(2,[.no]),(2,[.no]),(2,[.no]),(2,[.no]),(2,[.no]),(2,[.yes]),(2,[.fc]),(1,[.fc]),(1,[.fc]),(2,[.fc,.yes,.yes,.yes,.yes])]) (raw:=(AV.tu [(AV.ag [(AV.i s2.blocks),(AV.i s2.gen),(exs s2.map),(AV.sl s2.points.length (s2.points.flatMap Po.cells)),(AV.i s2.last),(AV.sl 0 ([]:List AV))]),(AV.i 0)])) kq (ac (z0e (q) _ h0).any0 (ac h1 (ac (z0f (q) _ h2) (ac (z0z (c) _ h3).any0 (ac h4 (ac h5 (ac h6 (ac h7 (ac h8 (ac h9 (ac h10 (ac h11 (ac h12 (ac (pq (p:=Pl false ((s2.map.flatMap Ex.cells)))) (ac (fq (p:=(((0:Nat)=0)∧((List.length (s2.points.flatMap Po.cells))=(s2.points.length*3))))) (ac (pq (p:=Pl false ((s2.points.flatMap Po.cells)))) an)))))))))))))))) tq) fun h11 h11p=> x9 fun h12=> w7 fun s13 h13=> tbN (fun h14 h14p=> fun e=> sj e▸y8 z7 (k:=300) (r:=[]) (hs:=hz [(5,[.fc]),(1,[.fres (.i (s0))]),(1,[.no]),(1,[.fc]),(1,[.fres (Sa.av (s2))]),(2,[.fc]),(1,[.fc]),(1,[.fres (.b (s3))]),(3,[.no]),(5,[.no]),(2,[.no]),(2,[.no]),(2,[.no]),(2,[.no]),(2,[.no]),(2,[.no]),(1,[.fc]),(4,[.yes,.yes,.yes,.yes,.yes,.yes,.fres (.tu [Sa.av (s13.1),.i (s13.2)])]),(5,[.fc]),(3,[.yes]),(1,[.fc]),(2,[.fc]),(2,[.fc,.yes,.yes,.yes,.yes,.yes,.yes])]) (raw:=(AV.tu [(AV.ag [(AV.i s2.blocks),(AV.i s2.gen),(exs s2.map),(AV.sl s2.points.length (s2.points.flatMap Po.cells)),(AV.i s2.last),(bys s2.staged)]),(AV.i s13.2)])) kq (ac (z0e (q) _ h0).any0 (ac h1 (ac (z0f (q) _ h2) (ac (z0z (c) _ h3).any0 (ac h4 (ac h5 (ac h6 (ac h7 (ac h8 (ac h9 (ac h10 (ac h11 (ac h12 (ac (pq (p:=Pl false ((s2.map.flatMap Ex.cells)))) (ac (fq (p:=(((0:Nat)=0)∧((List.length (s2.points.flatMap Po.cells))=(s2.points.length*3))))) (ac (pq (p:=Pl false ((s2.points.flatMap Po.cells)))) (ac (tq (p:=(((0:Nat)=0)∧((List.length (List.map AV.y s2.staged))=(s2.staged.length*1))))) (ac (pq (p:=Pl false ((List.map AV.y s2.staged)))) (ac (z5g (s2) (c.list) _ h13) (ac h14 (ac h12 (ac (pq (p:=Pl false ((s2.map.flatMap Ex.cells)))) (ac (fq (p:=(((0:Nat)=0)∧((List.length (s2.points.flatMap Po.cells))=(s2.points.length*3))))) (ac (pq (p:=Pl false ((s2.points.flatMap Po.cells)))) (ac (tq (p:=(((0:Nat)=0)∧((List.length (List.map AV.y s2.staged))=(s2.staged.length*1))))) (ac (pq (p:=Pl false ((List.map AV.y s2.staged)))) an)))))))))))))))))))))))))) tq) fun h14 h14p=> w7 fun s15 h15=> tbN (fun h16 h16p=> fun e=> sj e▸y8 z7 (k:=300) (r:=[]) (hs:=hz [(5,[.fc]),(1,[.fres (.i (s0))]),(1,[.no]),(1,[.fc]),(1,[.fres (Sa.av (s2))]),(2,[.fc]),(1,[.fc]),(1,[.fres (.b (s3))]),(3,[.no]),(5,[.no]),(2,[.no]),(2,[.no]),(2,[.no]),(2,[.no]),(2,[.no]),(2,[.no]),(1,[.fc]),(4,[.yes,.yes,.yes,.yes,.yes,.yes,.fres (.tu [Sa.av (s13.1),.i (s13.2)])]),(5,[.fc]),(3,[.no]),(1,[.fc]),(4,[.fres (.tu [Sa.av (s15.1),.i (s15.2)])]),(5,[.fc]),(3,[.yes]),(1,[.fc]),(2,[.fc]),(2,[.fc,.yes,.yes,.yes,.yes,.yes,.yes])]) (raw:=(AV.tu [(AV.ag [(AV.i s2.blocks),(AV.i s2.gen),(exs s2.map),(AV.sl s2.points.length (s2.points.flatMap Po.cells)),(AV.i s2.last),(bys s2.staged)]),(AV.i s15.2)])) kq (ac (z0e (q) _ h0).any0 (ac h1 (ac (z0f (q) _ h2) (ac (z0z (c) _ h3).any0 (ac h4 (ac h5 (ac h6 (ac h7 (ac h8 (ac h9 (ac h10 (ac h11 (ac h12 (ac (pq (p:=Pl false ((s2.map.flatMap Ex.cells)))) (ac (fq (p:=(((0:Nat)=0)∧((List.length (s2.points.flatMap Po.cells))=(s2.points.length*3))))) (ac (pq (p:=Pl false ((s2.points.flatMap Po.cells)))) (ac (tq (p:=(((0:Nat)=0)∧((List.length (List.map AV.y s2.staged))=(s2.staged.length*1))))) (ac (pq (p:=Pl false ((List.map AV.y s2.staged)))) (ac (z5g (s2) (c.list) _ h13) (ac h14 (ac (zdb (s13.1) (c.id) _ h15) (ac h16 (ac h12 (ac (pq (p:=Pl false ((s2.map.flatMap Ex.cells)))) (ac (fq (p:=(((0:Nat)=0)∧((List.length (s2.points.flatMap Po.cells))=(s2.points.length*3))))) (ac (pq (p:=Pl false ((s2.points.flatMap Po.cells)))) (ac (tq (p:=(((0:Nat)=0)∧((List.length (List.map AV.y s2.staged))=(s2.staged.length*1))))) (ac (pq (p:=Pl false ((List.map AV.y s2.staged)))) an)))))))))))))))))))))))))))) tq) fun h16 h16p=> fun e=> sj e▸y8 z7 (k:=300) (r:=[]) (hs:=hz [(5,[.fc]),(1,[.fres (.i (s0))]),(1,[.no]),(1,[.fc]),(1,[.fres (Sa.av (s2))]),(2,[.fc]),(1,[.fc]),(1,[.fres (.b (s3))]),(3,[.no]),(5,[.no]),(2,[.no]),(2,[.no]),(2,[.no]),(2,[.no]),(2,[.no]),(2,[.no]),(1,[.fc]),(4,[.yes,.yes,.yes,.yes,.yes,.yes,.fres (.tu [Sa.av (s13.1),.i (s13.2)])]),(5,[.fc]),(3,[.no]),(1,[.fc]),(4,[.fres (.tu [Sa.av (s15.1),.i (s15.2)])]),(5,[.fc]),(3,[.no]),(2,[.fc]),(1,[.fc]),(1,[.fc]),(2,[.fc])]) (raw:=(AV.tu [(AV.ag [(AV.i s15.1.blocks),(AV.i s15.1.gen),(exs s15.1.map),(AV.sl s15.1.points.length (s15.1.points.flatMap Po.cells)),(AV.i s15.1.last),(AV.sl 0 ([]:List AV))]),(AV.i 0)])) kq (ac (z0e (q) _ h0).any0 (ac h1 (ac (z0f (q) _ h2) (ac (z0z (c) _ h3).any0 (ac h4 (ac h5 (ac h6 (ac h7 (ac h8 (ac h9 (ac h10 (ac h11 (ac h12 (ac (pq (p:=Pl false ((s2.map.flatMap Ex.cells)))) (ac (fq (p:=(((0:Nat)=0)∧((List.length (s2.points.flatMap Po.cells))=(s2.points.length*3))))) (ac (pq (p:=Pl false ((s2.points.flatMap Po.cells)))) (ac (tq (p:=(((0:Nat)=0)∧((List.length (List.map AV.y s2.staged))=(s2.staged.length*1))))) (ac (pq (p:=Pl false ((List.map AV.y s2.staged)))) (ac (z5g (s2) (c.list) _ h13) (ac h14 (ac (zdb (s13.1) (c.id) _ h15) (ac h16 an)))))))))))))))))))))) tq
end Ab
end Go.Proofs.Ytimcbhhebnikiaa
namespace Go.Proofs.Ytimcbhhebnikiaa
open Go Go.Proofs.Ytimcbhhebnikiaa.Ab
set_option linter.unusedVariables false
set_option linter.unusedSimpArgs false
set_option maxRecDepth 1000000
set_option maxHeartbeats 0
namespace Ab
noncomputable abbrev zfk (s:Sa) (l:List Ch):St:=(St.mk [(0,(AV.ag [(AV.i s.blocks),(AV.i s.gen),(exs s.map),(AV.sl s.points.length (s.points.flatMap Po.cells)),(AV.i s.last),(bys s.staged)])),(1,(AV.sl l.length (l.flatMap Ch.cells))),(2,(AV.pt 0 0)),(4,(AV.pt 1 0)),(5,(AV.i 0)),(6,(AV.i 0)),(7,(AV.i 0))] 35 (AH.mk 2 [(1,(AObj.cells [(AV.i 0),(AV.i 0),AV.nl,AV.nl,(AV.i 0),AV.nl])),(0,(AObj.cells [(AV.i s.blocks),(AV.i s.gen),(exs s.map),(AV.sl s.points.length (s.points.flatMap Po.cells)),(AV.i s.last),(bys s.staged)]))]) false)
noncomputable abbrev z4t (s:Sa) (l:List Ch) (s0:Int×Int×Int×List Ex×List Po×Int×List UInt8):St:=(St.mk [(1,(AV.sl l.length (l.flatMap Ch.cells))),(2,(AV.pt 0 0)),(4,(AV.pt 1 0)),(7,(AV.i s0.1))] 35 (AH.mk 2 [(1,(AObj.cells [(AV.i 0),(AV.i 0),AV.nl,AV.nl,(AV.i 0),AV.nl])),(0,(AObj.cells [(AV.i s0.2.1),(AV.i s0.2.2.1),(exs s0.2.2.2.1),(pos s0.2.2.2.2.1),(AV.i s0.2.2.2.2.2.1),(bys s0.2.2.2.2.2.2)]))]) false)
noncomputable def z1a (s:Sa) (l:List Ch) (s0:Int×Int×Int×List Ex×List Po×Int×List UInt8):Option (Int×Int×Int×List Ex×List Po×Int×List UInt8):=
 (tb ((decide (s0.1 < (l.length:Int)))) (tp ((((0:Int)≤s0.1)∧(s0.1 < (l.length:Int)))) (tc (zhx ((Sa.mk s0.2.1 s0.2.2.1 s0.2.2.2.1 s0.2.2.2.2.1 s0.2.2.2.2.2.1 s0.2.2.2.2.2.2)) ((z1k l s0.1.toNat))) fun s3=> (tb ((s3.2 !=0)) none (some (((wr (s0.1+1)),(s3.1.blocks,(s3.1.gen,(s3.1.map,(s3.1.points,(s3.1.last,s3.1.staged))))))))))) none)
theorem zdq (s:Sa) (l:List Ch) (s0 zz:Int×Int×Int×List Ex×List Po×Int×List UInt8):z1a s l s0=some zz→v4 Try.prog cf 2 (lp Try.prog 28 0) (z4t s l s0) (z4t s l zz):=by
 unfold z1a
 exact tbD (fun h1 h1p=> x9 fun h2=> w7 fun s3 h3=> tbN (fun h4 h4p=> v9) fun h4 h4p=> fun e=> sj e▸u4 z7 (k:=300) (r:=[]) (hs:=hz [(4,[.yes]),(1,[.fc]),(2,[.yes,.yes,.cells ((Ch.cells (z1k l s0.1.toNat)))]),(1,[.fres (.tu [Sa.av (s3.1),.i (s3.2)])]),(5,[.fc]),(1,[.yes]),(2,[.no]),(1,[.fc]),(1,[.fc]),(3,[])]) (ks:=[1,2,4,7]) (bs:=[1,0]) kq (ac h1 (ac h2 (ac (fq (p:=((6:Nat)≤(List.length (List.drop (s0.1.toNat*6) (l.flatMap Ch.cells)))))) (ac (show (List.take 6 (List.drop (s0.1.toNat*6) (l.flatMap Ch.cells)))=(Ch.cells (z1k l s0.1.toNat)) from (z8w bq bq)) (ac (zjx ((Sa.mk s0.2.1 s0.2.2.1 s0.2.2.2.1 s0.2.2.2.2.1 s0.2.2.2.2.2.1 s0.2.2.2.2.2.2)) ((z1k l s0.1.toNat)) _ h3) (ac (show z9 (rg Try.prog 28 0)=true∧w8 (Region.before (rg Try.prog 28 0)) [] 0 [(some [0],some []),(some [],some []),(some [],some []),(some [],some []),(some [],some []),(some [],some []),(some [],some []),(some [],some []),(some [],some []),(some [],some [2]),(some [2],some [2]),(some [],some [])]=true from (x5 zoa zpn kq)) (ac h4 an))))))) kq) fun h1 h1p=> v9
noncomputable def ziy (s:Sa) (l:List Ch):Option (Sa×Int×Int):=
 (th (z1a s l) (((0:Int),(s.blocks,(s.gen,(s.map,(s.points,(s.last,s.staged))))))) fun s0=> (tb ((decide (s0.1 < (l.length:Int)))) (tp ((((0:Int)≤s0.1)∧(s0.1 < (l.length:Int)))) (tc (zhx ((Sa.mk s0.2.1 s0.2.2.1 s0.2.2.2.1 s0.2.2.2.2.1 s0.2.2.2.2.2.1 s0.2.2.2.2.2.2)) ((z1k l s0.1.toNat))) fun s3=> (tb ((s3.2 !=0)) (some ((s3.1,(s0.1,s3.2)))) none))) (tc (z6s ((Sa.mk s0.2.1 s0.2.2.1 s0.2.2.2.1 s0.2.2.2.2.1 s0.2.2.2.2.2.1 s0.2.2.2.2.2.2))) fun s2=> (tp ((((0:Nat)=0)∧((List.length (s2.map.flatMap Ex.cells))=(s2.map.length*5)))) (some ((s2,((l.length:Int),(0:Int)))))))))
abbrev zz0 (s:Sa) (l:List Ch) (r:Sa×Int×Int):Prop:=z06 Try.prog cf false 28 [Sa.av (s),chs (l)] (.tu [Sa.av (r.1),.i (r.2.1),.i (r.2.2)])
theorem zlu (s:Sa) (l:List Ch) (r:Sa×Int×Int):ziy s l=some r→zz0 s l r:=by
 unfold ziy
 exact z0m fun s0 h0=> tbD (fun h1 h1p=> x9 fun h2=> w7 fun s3 h3=> tbN (fun h4 h4p=> fun e=> sj e▸y8 z7 (k:=300) (r:=[]) (hs:=hz [(5,[.head (z4t s l s0)]),(4,[.yes]),(1,[.fc]),(2,[.yes,.yes,.cells ((Ch.cells (z1k l s0.1.toNat)))]),(1,[.fres (.tu [Sa.av (s3.1),.i (s3.2)])]),(5,[.fc]),(1,[.yes]),(2,[.yes]),(1,[.fc]),(3,[.fc]),(3,[.fc])]) (raw:=(AV.tu [(AV.ag [(AV.i s3.1.blocks),(AV.i s3.1.gen),(exs s3.1.map),(AV.sl s3.1.points.length (s3.1.points.flatMap Po.cells)),(AV.i s3.1.last),(bys s3.1.staged)]),(AV.i s0.1),(AV.i s3.2)])) kq (ac (show x4 Try.prog cf (lp Try.prog 28 0) (zfk s l) (z4t s l s0) from (x4.of (zdq s l) (x0 [] [] kq (cE (cP (cP (cE .nil)))) (hG rfl rfl (.cons (.eqv tq rfl) (.cons (.eqv tq rfl) (.cons .nl0 (.cons .nl0 (.cons (.eqv tq rfl) (.cons .nl0 .nil)))))) (hG rfl rfl (.cons (.eqv tq rfl) (.cons (.eqv tq rfl) (.cons (.eqv tq rfl) (.cons (.eqv tq rfl) (.cons (.eqv tq rfl) (.cons (.eqv tq rfl) .nil)))))) .nil))) h0)) (ac h1 (ac h2 (ac (fq (p:=((6:Nat)≤(List.length (List.drop (s0.1.toNat*6) (l.flatMap Ch.cells)))))) (ac (show (List.take 6 (List.drop (s0.1.toNat*6) (l.flatMap Ch.cells)))=(Ch.cells (z1k l s0.1.toNat)) from (z8w bq bq)) (ac (zjx ((Sa.mk s0.2.1 s0.2.2.1 s0.2.2.2.1 s0.2.2.2.2.1 s0.2.2.2.2.2.1 s0.2.2.2.2.2.2)) ((z1k l s0.1.toNat)) _ h3) (ac (show z9 (rg Try.prog 28 0)=true∧w8 (Region.before (rg Try.prog 28 0)) [] 0 [(some [0],some []),(some [],some []),(some [],some []),(some [],some []),(some [],some []),(some [],some []),(some [],some []),(some [],some []),(some [],some []),(some [],some [2]),(some [2],some [2]),(some [],some [])]=true from (x5 zoa zpn kq)) (ac h4 an)))))))) tq) fun h4 h4p=> v9) fun h1 h1p=> w7 fun s2 h2=> x9 fun h3=> fun e=> sj e▸y8 z7 (k:=300) (r:=[]) (hs:=hz [(5,[.head (z4t s l s0)]),(4,[.no]),(1,[.fc]),(1,[.fres (Sa.av (s2))]),(3,[.fc]),(3,[.fc,.yes,.yes,.yes,.yes,.yes,.yes])]) (raw:=(AV.tu [(AV.ag [(AV.i s2.blocks),(AV.i s2.gen),(exs s2.map),(AV.sl s2.points.length (s2.points.flatMap Po.cells)),(AV.i s2.last),(bys s2.staged)]),(AV.i (l.length:Int)),(AV.i 0)])) kq (ac (show x4 Try.prog cf (lp Try.prog 28 0) (zfk s l) (z4t s l s0) from (x4.of (zdq s l) (x0 [] [] kq (cE (cP (cP (cE .nil)))) (hG rfl rfl (.cons (.eqv tq rfl) (.cons (.eqv tq rfl) (.cons .nl0 (.cons .nl0 (.cons (.eqv tq rfl) (.cons .nl0 .nil)))))) (hG rfl rfl (.cons (.eqv tq rfl) (.cons (.eqv tq rfl) (.cons (.eqv tq rfl) (.cons (.eqv tq rfl) (.cons (.eqv tq rfl) (.cons (.eqv tq rfl) .nil)))))) .nil))) h0)) (ac h1 (ac (z0f ((Sa.mk s0.2.1 s0.2.2.1 s0.2.2.2.1 s0.2.2.2.2.1 s0.2.2.2.2.2.1 s0.2.2.2.2.2.2)) _ h2) (ac h3 (ac (pq (p:=Pl false ((s2.map.flatMap Ex.cells)))) (ac (fq (p:=(((0:Nat)=0)∧((List.length (s2.points.flatMap Po.cells))=(s2.points.length*3))))) (ac (pq (p:=Pl false ((s2.points.flatMap Po.cells)))) (ac (tq (p:=(((0:Nat)=0)∧((List.length (List.map AV.y s2.staged))=(s2.staged.length*1))))) (ac (pq (p:=Pl false ((List.map AV.y s2.staged)))) an))))))))) tq
end Ab
end Go.Proofs.Ytimcbhhebnikiaa
namespace Go.Proofs.Ytimcbhhebnikiaa
open Go Go.Proofs.Ytimcbhhebnikiaa.Ab
set_option linter.unusedVariables false
set_option linter.unusedSimpArgs false
namespace Ab
theorem zsw (l:List Ex):zdw l=some (decide (Fo l)):=by
 unfold zdw
 rw [x8]
 by_cases hl:(l.length:Int) > 64
 · rw [if_pos hl];exact z4p fun g=> by have:=g.2;omega
 rw [if_neg hl]
 have h0:((0:Int),(0:Int))=(z8p l 0,((0:Nat):Int)):=by simp [z8p]
 rw [h0]
 have:=fun f hs hf he=> z91 (α:=Bool) (step:=z1h l) (f:=f) (some false) (some true) (fun i=> (z8p l i,(i:Int))) l.length (FP l) (∀i,i < l.length→FP l i) Iff.rfl hs hf he
 rw [this _ ?_ ?_ ?_]
 · by_cases h:∀i,i < l.length→FP l i
   · rw [if_pos h];exact zrm ⟨h,by omega⟩
   · rw [if_neg h];exact z4p fun g:Fo l=> h g.1
 · intro i hi _ hp
   unfold z1h
   have h1:=hp.1
   have h2:=hp.2
   have h3:=z01 h1
   simp only [x8,z08,z2p,x6,Int.toNat_natCast]
   rw [if_pos (by omega),y9 (by omega),z8g h1,z2w,if_neg (by omega),u7 (by omega) (by omega),u7 (by omega) (by omega),ziw]
   rfl
 · intro i hi _ hp
   unfold z1h
   simp only [x8,z08,z2p,x6,Int.toNat_natCast]
   by_cases h1:Ck (z0 l i)
   · have h2:(z0 l i).lba < z8p l i:=by
      rcases Int.lt_or_le (z0 l i).lba (z8p l i) with g | g
      · exact g
      · exact absurd ⟨h1,g⟩ hp
     refine ⟨?_,?_⟩ <;> rw [if_pos (by omega),y9 (by omega),z8g h1,z2w,if_pos h2]
   · refine ⟨?_,?_⟩ <;> rw [if_pos (by omega),y9 (by omega),z5e h1,z7e]
 · intro _
   unfold z1h
   simp only [x8]
   rw [if_neg (by omega),if_neg (by omega)]
   exact ⟨rfl,rfl⟩
theorem z7w (a b:Int):(a==b)=decide (a=b):=rfl
theorem y2m (c:Ch):z61 c=some (decide (0≤c.lba∧c.lba≤64∧1≤c.n∧c.n≤64 - c.lba)):=by
 unfold z61
 simp only [x8]
 by_cases h:0≤c.lba∧c.lba≤64
 · rw [u7 (x:=64 - c.lba) (by omega) (by omega)]
   simp only [z39]
 · simp only [z39]
   exact congrArg some (decide_eq_decide.2 (by omega))
theorem y2g (c:Ch) (s0:Bool):z69 c s0=some (decide (1≤c.id∧c.id≤2147483647)):=by
 unfold z69
 simp only [x8,z39]
 exact congrArg some (decide_eq_decide.2 (by omega))
theorem zpg (c:Ch):zb8 c=some (decide (CkH c)):=by
 unfold zb8
 simp only [y2m,y2g,x6,zsw,z0j]
 have w2:0≤c.n→c.n≤64→wr (32*c.n)=32*c.n:=fun h1 h2=> u7 (by omega) (by omega)
 by_cases k1:c.kind=1
 · rw [if_pos k1]
   unfold z7m
   simp only [x8,z0j,z7w,z39,x6]
   congr 1
   refine decide_eq_decide.2 ?_
   rw [ztf k1]
   by_cases hp:0≤c.lba∧c.lba≤64∧1≤c.n∧c.n≤64 - c.lba
   · rw [w2 (by omega) (by omega)];omega
   · omega
 rw [if_neg k1]
 by_cases k2:c.kind=2
 · rw [if_pos k2]
   unfold z7j
   simp only [x8,z0j,z7w,z39,x6]
   congr 1
   refine decide_eq_decide.2 ?_
   rw [zza k2];omega
 rw [if_neg k2]
 by_cases k3:c.kind=3
 · rw [if_pos k3]
   unfold z7u
   simp only [x8,z0j,z7w,z39,x6]
   congr 1
   refine decide_eq_decide.2 ?_
   rw [zzg k3];omega
 rw [if_neg k3]
 by_cases k4:c.kind=4
 · rw [if_pos k4]
   unfold z7i
   simp only [x8,z0j,z7w,z39,x6]
   congr 1
   refine decide_eq_decide.2 ?_
   rw [y1o k4];omega
 rw [if_neg k4]
 by_cases k5:c.kind=5
 · rw [if_pos k5]
   unfold z7p
   simp only [x8,z0j,z7w,z39,x6]
   congr 1
   refine decide_eq_decide.2 ?_
   rw [y1k k5];omega
 rw [if_neg k5]
 by_cases k6:c.kind=6
 · rw [if_pos k6]
   unfold z7g
   simp only [x8,z0j,z7w,z39,x6]
   congr 1
   refine decide_eq_decide.2 ?_
   rw [y1x k6];omega
 rw [if_neg k6]
 by_cases k7:c.kind=7
 · rw [if_pos k7]
   unfold z7o
   simp only [x8,z0j,z7w,z39,x6]
   congr 1
   refine decide_eq_decide.2 ?_
   rw [y1u k7];omega
 rw [if_neg k7]
 by_cases k8:c.kind=8
 · rw [if_pos k8]
   unfold z7n
   simp only [x8,z0j,z7w,z39,x6]
   congr 1
   refine decide_eq_decide.2 ?_
   rw [zxo k8]
   constructor
   · rintro ⟨a,b,d,e,f⟩;exact ⟨⟨a,b⟩,d,by omega,f⟩
   · rintro ⟨⟨a,b⟩,d,e,f⟩;exact ⟨a,b,d,by omega,f⟩
 · rw [if_neg k8]
   exact z4p fun g=> by have:=zdl g;omega
theorem zwl {b:Int} {m o:List Ex} (hm:m.length≤1000) (ho:o.length≤1000):zqw b m o=some (zaa b m o):=by
 unfold zqw zaa
 rw [zjr b m (by omega),x6,z08]
 by_cases hk:Mk b m
 case neg=> rw [zmm hk,z7e,if_neg hk]
 have hb:=z2g hk
 rw [zys hk,z2w,if_pos hk]
 have h':=z28 o (z4b b)
 rw [z5o (α:=List Ex×Int) (step:=z29 b m o true) (some (m,81)) (tc (z57 b (m++o)) fun s9=> tc (zv3 s9) fun s10=> some (s10,0)) o.length (fun i=> z4b b (z0 o i)) (∀x∈o,z4b b x) h']
 · by_cases hf:∀x∈o,z4b b x
   · rw [if_pos hf,if_pos hf,zrw hk hf (by omega),x6]
     have hp:=zgo o m hk hf
     have hlen:=(z34 hp).2.1
     rw [zzz _ (by omega),x6,zqk hp]
   · rw [if_neg hf,if_neg hf]
 · intro i hi hq
   unfold z29
   have hck:=hq.1
   have hfit:=hq.2
   have p:=z01 hck
   have hw:wr ((z0 o i).lba+(z0 o i).len)=(z0 o i).lba+(z0 o i).len:=u7 (by omega) (by omega)
   simp only [x8,z08,z2p,x6,Int.toNat_natCast,hw]
   rw [if_pos (by omega),y9 (by omega),z8g hck,z2w,if_neg (by omega),u7 (by omega) (by omega)]
 · intro i hi hq
   unfold z29
   by_cases hck:Ck (z0 o i)
   · have p:=z01 hck
     have hw:wr ((z0 o i).lba+(z0 o i).len)=(z0 o i).lba+(z0 o i).len:=u7 (by have:=hck;unfold Ck at this;omega) (by have:=hck;unfold Ck at this;omega)
     simp only [x8,z08,z2p,x6,Int.toNat_natCast,hw]
     have hfit:(z0 o i).lba+(z0 o i).len > b:=by
      rcases Int.lt_or_le b ((z0 o i).lba+(z0 o i).len) with g | g
      · exact g
      · exact absurd ⟨hck,g⟩ hq
     refine ⟨?_,?_⟩ <;> rw [if_pos (by omega),y9 (by omega),z8g hck,z2w,if_pos hfit]
   · simp only [x8,z08,z2p,x6,Int.toNat_natCast]
     refine ⟨?_,?_⟩ <;> rw [if_pos (by omega),y9 (by omega),z5e hck,z7e]
 · unfold z29
   simp only [x8]
   refine ⟨by rw [if_neg (by omega)],?_⟩
   rw [if_neg (by omega),y9 (u0 _),y9 (by omega),y9 (u0 _),y9 ⟨u0 _,by omega⟩,y9 ⟨by trivial,by rw [List.length_append,u0,u0];omega⟩]
theorem z9s {s:Sa} {o:List Ex} (hs:SOk s) (ho:Sx o):z7s s o=some (lyS s o):=by
 have hz:=zrx hs
 unfold z7s
 rw [z5z ho,x6]
 refine (zav s.gen o (by have:=ho.1;omega) _).trans ?_
 simp only [x8]
 rw [if_neg (by omega),y9 ⟨by trivial,by rw [u0];simp⟩,zwl (by have:=hz.1.1;omega) (by rw [List.length_map];exact ho.1),x6,z1m]
 unfold lyS
 by_cases h0:(zaa s.blocks s.map (o.map (gn s.gen))).2=0
 · rw [if_pos h0,if_pos h0,z71 hz,zfj hs,x6,y9 ⟨by trivial,z0h _⟩]
 · rw [if_neg h0,if_neg h0]
theorem zh1 {s:Sa} (hs:SOk s) (id:Int):zbg s id=some (mkS s id):=by
 have hz:=zrx hs
 have hw:wr (s.gen+1)=s.gen+1:=by have:=hs;unfold SOk at this;exact u7 (by omega) (by omega)
 unfold zbg mkS
 simp only [x8,z0j]
 by_cases h1:id≤s.last
 · rw [if_pos h1,if_pos h1]
 rw [if_neg h1,if_neg h1]
 by_cases h2:s.points.length=4
 · rw [if_pos (by omega),if_pos h2]
 rw [if_neg (by omega),if_neg h2]
 by_cases h3:s.gen=2147483647
 · rw [if_pos h3,if_pos h3]
 rw [if_neg h3,if_neg h3,z71 hz,zfj hs,x6,z5z hz.1,x6,y9 ⟨z0h _,by have:=hz.2.1;omega⟩,y9 ⟨by trivial,u0 _⟩,y9 ⟨by trivial,by rw [List.length_append,z0h];simp;omega⟩,hw,List.take_length]
theorem ztd (id:Int):∀(l:List Po),l.Pairwise (fun a b=> a.id≠b.id)→l.filter (fun p=> p.id !=id)=if ixP l id < l.length then l.take (ixP l id)++l.drop (ixP l id+1) else l
 | [],_=> by simp
 | p::l,h=> by
   rw [List.pairwise_cons] at h
   have ih:=ztd id l h.2
   by_cases hp:p.id=id
   · have e:ixP (p::l) id=0:=by unfold ixP;rw [List.findIdx_cons];simp [hp]
     rw [e,if_pos (by simp),List.filter_cons_of_neg (by simp [hp])]
     have:l.filter (fun p=> p.id !=id)=l:=List.filter_eq_self.2 fun q hq=> by
      have:=h.1 q hq
      rw [hp] at this
      simp only [bne_iff_ne,ne_eq]
      exact fun g=> this g.symm
     rw [this];simp
   · have e:ixP (p::l) id=ixP l id+1:=by
      unfold ixP
      rw [List.findIdx_cons]
      have:(p.id==id)=false:=by simp [hp]
      rw [this];rfl
     rw [e,List.filter_cons_of_pos (by simp [hp]),ih]
     simp only [List.length_cons]
     by_cases g:ixP l id < l.length
     · rw [if_pos g,if_pos (by omega)];rfl
     · rw [if_neg g,if_neg (by omega)]
theorem zk5 {s:Sa} (hs:SOk s) (id:Int):z6z s id=some (drS s id):=by
 have hz:=zrx hs
 have hpl:=hz.2.1
 have hpw:s.points.Pairwise (fun a b=> a.id≠b.id):=List.pairwise_iff_getElem.2 fun i j hi hj hij=> by
  have:=zxb hs j hij hj
  rw [zwy _ hi,zwy _ hj] at this
  omega
 have hdi:=ztd id s.points hpw
 have hfl:∀i,((s.points.take i).filter fun p=> p.id !=id).length≤i:=fun i=> Nat.le_trans (List.length_filter_le _ _) (by rw [List.length_take];omega)
 unfold z6z
 rw [z71 hz,zfj hs,x6]
 rw [z6v (S:=fun i=> ((i:Int),(s.points.take i).filter fun p=> p.id !=id)) (k:=s.points.length) (by simp) ?_ ?_]
 · simp only [x8,z0j]
   rw [if_neg (by omega),List.take_length,hdi]
   unfold drS
   have hle:ixP s.points id≤s.points.length:=List.findIdx_le_length
   by_cases g:ixP s.points id < s.points.length
   · rw [if_pos g,if_pos g,if_neg (by rw [List.length_append,List.length_take,List.length_drop];omega),y9 ⟨by trivial,u0 _⟩]
   · rw [if_neg g,if_neg g,if_pos rfl]
 · intro i hi
   have:=hfl i
   unfold z1r
   simp only [x8,z1m,Int.toNat_natCast]
   rw [if_pos (by omega),y9 (by omega),u7 (by omega) (by omega),zod _ _ hi,List.filter_append]
   by_cases g:(w6 s.points i).id=id
   · rw [if_pos g];simp [g]
   · rw [if_neg g,y9 ⟨z0h _,by omega⟩];simp [g]
 · unfold z1r
   simp only [x8]
   rw [if_neg (by omega)]
theorem zi3 {s:Sa} {c:Ch} (hz:Sz s) (hc:Hz c):zhx s c=some (doS s c):=by
 unfold zhx
 rw [zfx hz,x6,z1m]
 by_cases hs:SOk s
 case neg=> rw [z9q hs,if_neg (by omega),zws hs];rfl
 rw [zvf hs,if_pos rfl,z71 hz,zfj hs,x6,zpg,x6,z08,x8]
 simp only [x8,z0j]
 by_cases hk:CkH c
 case neg=> rw [if_neg hk,y9 ⟨by trivial,u0 _⟩,zxr hs hk]
 rw [if_pos hk,zzl hs hk]
 have kk:=zdl hk
 have hone:∀x:Ex,x.d.length≤1000000→Sx [x]:=fun x hx=> by
  refine ⟨by simp,fun y hy=> ?_⟩
  have e:y=x:=by simpa using hy
  rw [e];exact hx
 have hst:=hz.2.2.2
 have hcd:=hc.1
 unfold doK
 by_cases k1:c.kind=1
 · rw [if_pos k1,if_pos k1,y9 ⟨by trivial,u0 _⟩,z9s hs (hone _ hc.1),x6]
 rw [if_neg k1,if_neg k1]
 by_cases k2:c.kind=2
 · rw [if_pos k2,if_pos k2,y9 ⟨by trivial,u0 _⟩,z9s hs (hone _ (by simp)),x6]
 rw [if_neg k2,if_neg k2]
 by_cases k3:c.kind=3
 · rw [if_pos k3,if_pos k3,y9 ⟨by trivial,u0 _⟩,z9s hs (hone _ (by simp)),x6]
 rw [if_neg k3,if_neg k3]
 by_cases k4:c.kind=4
 · rw [if_pos k4,if_pos k4,y9 ⟨by trivial,u0 _⟩,zh1 hs,x6]
 rw [if_neg k4,if_neg k4]
 by_cases k5:c.kind=5
 · rw [if_pos k5,if_pos k5,y9 ⟨by trivial,u0 _⟩,zk5 hs,x6]
 rw [if_neg k5,if_neg k5]
 by_cases k6:c.kind=6
 · rw [if_pos k6,if_pos k6,u7 (by omega) (by omega)]
   unfold stS
   by_cases h1:(c.d.length:Int) > 4000 - (s.staged.length:Int)
   · rw [if_pos (by omega),if_pos h1,y9 ⟨by trivial,u0 _⟩]
   · rw [if_neg (by omega),if_neg h1,y9 ⟨by simp,by omega⟩,y9 ⟨by trivial,u0 _⟩]
 rw [if_neg k6,if_neg k6]
 by_cases k7:c.kind=7
 · rw [if_pos k7,if_pos k7,y9 ⟨by trivial,u0 _⟩]
   rfl
 rw [if_neg k7,if_neg k7,y9 ⟨by trivial,u0 _⟩,z9s hs hc.2,x6,z1m]
 unfold apS
 by_cases h0:(lyS s c.list).2=0
 case neg=> rw [if_neg h0,if_neg h0]
 rw [if_pos h0,if_pos h0,zh1 (ly_ok hs c.list),x6,z1m]
 by_cases h1:(mkS (lyS s c.list).1 c.id).2=0
 · rw [if_pos h1,if_pos h1];rfl
 · rw [if_neg h1,if_neg h1]
end Ab
end Go.Proofs.Ytimcbhhebnikiaa
namespace Go.Proofs.Ytimcbhhebnikiaa
open Go Go.Proofs.Ytimcbhhebnikiaa.Ab
set_option linter.unusedVariables false
set_option linter.unusedSimpArgs false
set_option maxRecDepth 1000000
set_option maxHeartbeats 0
namespace Ab
def aw11:Option Bool:=some true
theorem zvt:zu2 Try.prog cf 4000 11 []=some (.b true):=by kernel_rfl
theorem zgq (r:Bool):aw11=some r→z06 Try.prog cf true 11 [] (.b r):=fun h=> by
 cases h
 exact z06.of_bool zvt
end Ab
end Go.Proofs.Ytimcbhhebnikiaa
namespace Go.Proofs.Ytimcbhhebnikiaa
open Go Go.Proofs.Ytimcbhhebnikiaa.Ab
set_option linter.unusedVariables false
set_option linter.unusedSimpArgs false
set_option maxRecDepth 1000000
set_option maxHeartbeats 0
namespace Ab
noncomputable def z9j (s:Sa) (l:List Ch):Option (Bool):=
 (tc (aw11) fun s0=> (tc (zon (s)) fun s1=> (tb ((!s1)) (some (s0)) (tc (changes (l)) fun s3=> (tb ((!s3)) (some (s0)) (tc (zyb (s) (l)) fun s5=> (tc (ziy (s) (l)) fun s6=> (tc (zbq (s5.1) (s6.1)) fun s7=> (tb ((decide ((l.length:Int) > 0))) (tc (sDo (s) ((z1k l 0))) fun s9=> (tc (zhx (s) ((z1k l 0))) fun s10=> (tb (s7) (tc (zbq (s9.1) (s10.1)) fun s12=> (tb (s12) (tb (s0) (tb ((s9.2==s10.2)) (tb ((s5.2.1==s6.2.1)) (some ((s5.2.2==s6.2.2))) none) none) none) none)) none))) (tb (s0) (tb (s7) (tb ((s5.2.1==s6.2.1)) (some ((s5.2.2==s6.2.2))) none) none) none))))))))))
abbrev zmz (s:Sa) (l:List Ch) (r:Bool):Prop:=z06 Try.prog cf false 5 [Sa.av (s),chs (l)] (.b (r))
theorem zk6 (s:Sa) (l:List Ch) (r:Bool):z9j s l=some r→zmz s l r:=by
 unfold z9j
 exact w7 fun s0 h0=> w7 fun s1 h1=> u6 (fun h2=> fun e=> sj e▸y8 z7 (k:=300) (r:=[]) (hs:=hz [(3,[.fres (.b (s0))]),(2,[.fc]),(1,[.fres (.b (s1))]),(2,[.yes,.yes,.yes,.yes]),(3,[])]) (raw:=(AV.b s0)) kq (ac (zgq  _ h0).any0 (ac (zdx (s) _ h1).any0 (ac h2 (ac h2 (ac h2 (ac h2 an)))))) tq) fun h2=> w7 fun s3 h3=> u6 (fun h4=> fun e=> sj e▸y8 z7 (k:=300) (r:=[]) (hs:=hz [(3,[.fres (.b (s0))]),(2,[.fc]),(1,[.fres (.b (s1))]),(2,[.no]),(1,[.no]),(1,[.fres (.b (s3)),.no]),(1,[.no,.yes]),(2,[])]) (raw:=(AV.b s0)) kq (ac (zgq  _ h0).any0 (ac (zdx (s) _ h1).any0 (ac h2 (ac h2 (ac (zco (l) _ h3).any0 (ac h2 (ac h2 (ac h4 an)))))))) tq) fun h4=> w7 fun s5 h5=> w7 fun s6 h6=> w7 fun s7 h7=> tbD (fun h8 h8p=> w7 fun s9 h9=> w7 fun s10 h10=> u6 (fun h11=> w7 fun s12 h12=> u6 (fun h13=> u6 (fun h14=> tbE (fun h15 h15p=> tbE (fun h16 h16p=> fun e=> sj e▸y8 z7 (k:=300) (r:=[]) (hs:=hz [(3,[.fres (.b (s0))]),(2,[.fc]),(1,[.fres (.b (s1))]),(2,[.no]),(1,[.no]),(1,[.fres (.b (s3)),.no]),(1,[.no,.no]),(1,[.fc]),(2,[.fres (.tu [Sa.av (s5.1),.i (s5.2.1),.i (s5.2.2)])]),(6,[.fc]),(3,[.fc]),(2,[.fres (.tu [Sa.av (s6.1),.i (s6.2.1),.i (s6.2.2)])]),(6,[.fc]),(3,[.fc]),(1,[.fc]),(1,[.fres (.b (s7))]),(4,[.yes]),(1,[.fc]),(1,[.yes,.yes,.cells ((Ch.cells (z1k l 0)))]),(1,[.fres (.tu [Sa.av (s9.1),.i (s9.2)])]),(5,[.fc]),(1,[.yes]),(1,[.fc]),(1,[.yes,.yes,.cells ((Ch.cells (z1k l 0)))]),(1,[.fres (.tu [Sa.av (s10.1),.i (s10.2)])]),(5,[.fc]),(1,[.yes]),(2,[.yes]),(1,[.fc,.yes]),(1,[.fc,.yes]),(1,[.fres (.b (s12)),.yes]),(1,[.yes]),(1,[.yes]),(1,[.yes]),(1,[.yes]),(3,[.yes]),(1,[.yes]),(1,[.yes]),(1,[.yes]),(1,[.yes]),(1,[.yes]),(1,[.yes]),(1,[.yes]),(1,[.yes]),(1,[.yes]),(1,[])]) (raw:=(AV.b (s5.2.2==s6.2.2))) kq (ac (zgq  _ h0).any0 (ac (zdx (s) _ h1).any0 (ac h2 (ac h2 (ac (zco (l) _ h3).any0 (ac h2 (ac h2 (ac h4 (ac (ztc (s) (l) _ h5) (ac (zlu (s) (l) _ h6) (ac (zcz (s5.1) (s6.1) _ h7).any0 (ac h8 (ac (fq (p:=(((0:Int)≤0)∧((0:Int) < (l.length:Int))))) (ac (fq (p:=((6:Nat)≤(List.length (l.flatMap Ch.cells))))) (ac (show (List.take 6 (l.flatMap Ch.cells))=(Ch.cells (z1k l 0)) from (by have h:=zmn (l) 0 bq;rwa [Nat.zero_mul,List.drop_zero] at h)) (ac (zse (s) ((z1k l 0)) _ h9) (ac (show z9 (rg Try.prog 5 0)=true∧w8 (Region.before (rg Try.prog 5 0)) [] 0 [(some [0],some []),(some [],some []),(some [],some []),(some [],some []),(some [],some []),(some [],some []),(some [],some []),(some [],some []),(some [],some [3]),(some [3],some [3]),(some [],some [])]=true from (x5 y13 y19 kq)) (ac (fq (p:=(((0:Int)≤0)∧((0:Int) < (l.length:Int))))) (ac (fq (p:=((6:Nat)≤(List.length (l.flatMap Ch.cells))))) (ac (show (List.take 6 (l.flatMap Ch.cells))=(Ch.cells (z1k l 0)) from (by have h:=zmn (l) 0 bq;rwa [Nat.zero_mul,List.drop_zero] at h)) (ac (zjx (s) ((z1k l 0)) _ h10) (ac (show z9 (rg Try.prog 5 1)=true∧w8 (Region.before (rg Try.prog 5 1)) [] 0 [(some [0],some []),(some [],some []),(some [],some []),(some [],some []),(some [],some []),(some [],some []),(some [],some []),(some [],some []),(some [],some [4]),(some [4],some [4]),(some [],some [])]=true from (x5 zzs y0l kq)) (ac h11 (ac h11 (ac h11 (ac (zcz (s9.1) (s10.1) _ h12).any0 (ac h11 (ac h13 (ac h13 (ac h13 (ac h13 (ac h14 (ac h14 (ac h15 (ac h15 (ac h15 (ac h15 (ac h16 (ac h16 (ac h16 (ac h16 an))))))))))))))))))))))))))))))))))))))))) tq) fun h16 h16p=> v9) fun h15 h15p=> v9) fun h14=> v9) fun h13=> v9) fun h11=> v9) fun h8 h8p=> u6 (fun h9=> u6 (fun h10=> tbE (fun h11 h11p=> fun e=> sj e▸y8 z7 (k:=300) (r:=[]) (hs:=hz [(3,[.fres (.b (s0))]),(2,[.fc]),(1,[.fres (.b (s1))]),(2,[.no]),(1,[.no]),(1,[.fres (.b (s3)),.no]),(1,[.no,.no]),(1,[.fc]),(2,[.fres (.tu [Sa.av (s5.1),.i (s5.2.1),.i (s5.2.2)])]),(6,[.fc]),(3,[.fc]),(2,[.fres (.tu [Sa.av (s6.1),.i (s6.2.1),.i (s6.2.2)])]),(6,[.fc]),(3,[.fc]),(1,[.fc]),(1,[.fres (.b (s7))]),(4,[.no]),(2,[.yes]),(1,[.yes]),(1,[.yes]),(1,[.yes]),(1,[.yes]),(1,[.yes]),(1,[.yes]),(1,[.yes]),(1,[.yes]),(1,[.yes]),(1,[])]) (raw:=(AV.b (s5.2.2==s6.2.2))) kq (ac (zgq  _ h0).any0 (ac (zdx (s) _ h1).any0 (ac h2 (ac h2 (ac (zco (l) _ h3).any0 (ac h2 (ac h2 (ac h4 (ac (ztc (s) (l) _ h5) (ac (zlu (s) (l) _ h6) (ac (zcz (s5.1) (s6.1) _ h7).any0 (ac h8 (ac h9 (ac h9 (ac h10 (ac h10 (ac h10 (ac h10 (ac h11 (ac h11 (ac h11 (ac h11 an)))))))))))))))))))))) tq) fun h11 h11p=> v9) fun h10=> v9) fun h9=> v9
end Ab
end Go.Proofs.Ytimcbhhebnikiaa
namespace Go.Proofs.Ytimcbhhebnikiaa
open Go Go.Proofs.Ytimcbhhebnikiaa.Ab
set_option linter.unusedVariables false
set_option linter.unusedSimpArgs false
namespace Ab
theorem zv8 {s:Sa} {l:List Ch} (hz:Sz s) (hl:l.length≤1000000) (hc:∀c∈l,Hz c):ziy s l=some (zc0 s l 0):=by
 have hat:∀i,i < l.length→Hz (z1k l i):=(zeg l Hz).2 hc
 unfold ziy
 have key:∀f,(∀(i:Nat) (t:Sa),i≤l.length→Sz t→(i=l.length∨(i < l.length∧(doS t (z1k l i)).2≠0))→f (tp7 (i:Int) t)=some (zc0 t (l.drop i) (i:Int)))→th (z1a s l) (tp7 0 s) f=some (zc0 s l 0):=by
  intro f hf
  have:=zw7 (step:=z1a s l) (f:=f) (s0:=tp7 0 s) (fun q=> some (zc0 ⟨q.2.1,q.2.2.1,q.2.2.2.1,q.2.2.2.2.1,q.2.2.2.2.2.1,q.2.2.2.2.2.2⟩ (l.drop q.1.toNat) q.1)) (fun q=> ∃(i:Nat) (t:Sa),q=tp7 (i:Int) t∧i≤l.length∧Sz t) (fun q=> l.length - q.1.toNat) ⟨0,s,rfl,by omega,hz⟩ ?_
  · rw [this];rfl
  · rintro q ⟨i,t,rfl,hi,ht⟩
    by_cases h:i < l.length
    · have hdo:=zi3 ht (hat i h)
      by_cases h0:(doS t (z1k l i)).2=0
      · refine .inl ⟨tp7 ((i:Int)+1) (doS t (z1k l i)).1,?_,⟨i+1,_,rfl,by omega,zgt ht (hat i h)⟩,?_,?_⟩
        · unfold z1a
          simp only [tp7,x8,Int.toNat_natCast]
          rw [if_pos (by omega),y9 (by omega),hdo,x6,z1m,if_pos h0,u7 (by omega) (by omega)]
        · simp only [tp7];omega
        · simp only [tp7,Int.toNat_natCast]
          rw [show ((i:Int)+1).toNat=i+1 by omega,zbv ⟨0,0,0,0,[],[]⟩ l i h]
          show _=some (zc0 t (z1k l i::l.drop (i+1)) (i:Int))
          rw [z92,if_pos h0]
      · refine .inr ⟨?_,?_⟩
        · unfold z1a
          simp only [tp7,x8,Int.toNat_natCast]
          rw [if_pos (by omega),y9 (by omega),hdo,x6,z1m,if_neg h0]
        · rw [hf i t hi ht (.inr ⟨h,h0⟩)];simp only [tp7,Int.toNat_natCast]
    · refine .inr ⟨?_,?_⟩
      · unfold z1a
        simp only [tp7,x8]
        rw [if_neg (by omega)]
      · rw [hf i t hi ht (.inl (by omega))];simp only [tp7,Int.toNat_natCast]
 refine key _ fun i t hi ht h=> ?_
 simp only [tp7,x8,Int.toNat_natCast]
 rcases h with h | ⟨h,h0⟩
 · subst h
   rw [if_neg (by omega),z71 ht,x6,y9 ⟨by trivial,u0 _⟩,List.drop_length]
   rfl
 · rw [if_pos (by omega),y9 (by omega),zi3 ht (hat i h),x6,z1m,if_neg h0,zbv ⟨0,0,0,0,[],[]⟩ l i h]
   show _=some (zc0 t (z1k l i::l.drop (i+1)) (i:Int))
   rw [z92,if_neg h0]
theorem zwr:aw11=some true:=rfl
theorem zfz (s:Sa) (l:List Ch):z9j s l=some true:=by
 unfold z9j
 rw [zwr,x6,zxj,x6,z08,x8]
 by_cases hf:zk3 s
 case neg=> rw [if_neg hf]
 rw [if_pos hf,zs1,x6,z08,x8]
 by_cases hl:zwd l
 case neg=> rw [if_neg hl]
 have hz:=y0f hf
 have hx:=zzx hl
 have hn:=hl.1
 rw [if_pos hl,y14 hz (by omega) hx,x6,zv8 hz (by omega) hx,x6,zi1 _ _ (y1j (zu6 l s 0 hz hx)),x6,decide_eq_true rfl]
 simp only [x8]
 by_cases h0:(l.length:Int) > 0
 · have hc:Hz (z1k l 0):=(zeg l Hz).2 hx 0 (by omega)
   rw [if_pos h0,zsu hz hc,x6,zi3 hz hc,x6,z2w,zi1 _ _ (y1j (zgt hz hc)),x6,decide_eq_true rfl]
   simp only [z2w,z0j,if_true,beq_self_eq_true]
 · rw [if_neg h0]
   simp only [z2w,z0j,if_true,beq_self_eq_true]
theorem stateDoes_call (s:Sa) (l:List Ch) (_:Sa.ok s) (_:Ln l∧∀x∈l,Ch.ok x):z06 Try.prog cf false 5 [s.av,chs l] (.b true):=zk6 s l true (zfz s l)
end Ab
end Go.Proofs.Ytimcbhhebnikiaa
