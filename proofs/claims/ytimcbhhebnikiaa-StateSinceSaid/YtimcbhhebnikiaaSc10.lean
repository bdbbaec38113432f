/- The law 'StateSince': it returns true, and nothing that was there changes. No condition. (Part 10 of 12.) -/
import Derived.Test.YtimcbhhebnikiaaSc9
import Derived.Test.YtimcbhhebnikiaaRows
namespace Go.Proofs.Ytimcbhhebnikiaa
open Go Go.Proofs.Ytimcbhhebnikiaa.Ab
set_option linter.unusedVariables false
set_option linter.unusedSimpArgs false
set_option maxRecDepth 1000000
set_option maxHeartbeats 0
namespace Ab
noncomputable abbrev zfs (blocks:Int) (l:List Ex) (over_:List Ex) (s0:Bool) (s2:List Ex) (s4:List Ex×Int):St:=(St.mk [(0,(AV.i blocks)),(1,(exs l)),(2,(exs over_)),(6,AV.nl),(7,(AV.i 0)),(12,(AV.i blocks)),(13,(exs l)),(14,(AV.b s0)),(15,(AV.b (!s0))),(16,(exs l)),(17,(exs s2)),(8,(exs s4.1)),(9,(AV.i 1)),(18,(AV.i 0)),(19,(exs over_)),(20,(AV.i (over_.length:Int))),(21,(AV.b ((0:Int)==(over_.length:Int)))),(24,(AV.i blocks)),(25,(exs s2)),(26,(exs over_)),(27,(AV.i 0)),(28,(AV.ip (over_.flatMap Ex.cells))),(29,(AV.ag (xc (z0 over_ 0)))),(30,(AV.tu [(exs s4.1),(AV.i s4.2)])),(23,(AV.tu [(exs s4.1),(AV.i s4.2)])),(31,(exs s4.1)),(32,(AV.i s4.2)),(10,(exs s4.1)),(11,(AV.i s4.2)),(33,(AV.i s4.2)),(34,(AV.b (s4.2 !=(0:Int)))),(38,(exs s4.1)),(39,(AV.i 0)),(40,(AV.i 1))] 41 (AH.mk 0 ([]:List (Prod Nat AObj))) false)
noncomputable abbrev z5d (blocks:Int) (l:List Ex) (over_:List Ex) (s0:Bool) (s2:List Ex) (s4:List Ex×Int) (s6:List Ex×Int):St:=(St.mk [(0,(AV.i blocks)),(1,(exs l)),(2,(exs over_)),(15,(AV.b (!s0))),(8,(exs s6.1)),(9,(AV.i s6.2))] 41 (AH.mk 0 ([]:List (Prod Nat AObj))) false)
noncomputable def z23 (blocks:Int) (l:List Ex) (over_:List Ex) (s0:Bool) (s2:List Ex) (s4:List Ex×Int) (s6:List Ex×Int):Option (List Ex×Int):=
 (tb ((s6.2==(over_.length:Int))) none (tp ((((0:Int)≤s6.2)∧(s6.2 < (over_.length:Int)))) (tc (zlw (blocks) (s6.1) ((z0 over_ s6.2.toNat))) fun s9=> (tb ((s9.2 !=(0:Int))) none (some ((s9.1,(wr (s6.2+(1:Int))))))))))
theorem zdq (blocks:Int) (l:List Ex) (over_:List Ex) (s0:Bool) (s2:List Ex) (s4:List Ex×Int) (s6 zz:List Ex×Int):z23 blocks l over_ s0 s2 s4 s6=some zz→zik Try.prog cf 0 (sc Try.prog 105 0) (sr Try.prog 105 0 0) (z5d blocks l over_ s0 s2 s4 s6) (z5d blocks l over_ s0 s2 s4 zz):=by
 unfold z23
 exact tbE (fun h7 h7p=> v9) fun h7 h7p=> w7 fun h8=> w9 fun s9 h9=> tbN (fun h10 h10p=> v9) fun h10 h10p=> by intro e;injection e with e;subst e;exact zvi z9 (l:=0) kq (k:=300) (r:=[]) (hs:=hz [(4,[.no]),(4,[.yes,.yes,.cells ((Ex.cells (z0 over_ s6.2.toNat)))]),(1,[.fres (.tu [exs (s9.1),.i (s9.2)])]),(7,[.no]),(5,[])]) (ks:=[0,1,2,15,8,9]) (bs:=[]) kq (ac h7 (ac h8 (ac (fq (p:=((5:Nat)≤(List.length (List.drop (s6.2.toNat*5) (over_.flatMap Ex.cells)))))) (ac (show (List.take 5 (List.drop (s6.2.toNat*5) (over_.flatMap Ex.cells)))=(Ex.cells (z0 over_ s6.2.toNat)) from (v4 bq bq)) (ac (za9 (blocks) (s6.1) ((z0 over_ s6.2.toNat)) _ h9) (ac h10 an)))))) kq
noncomputable def zla (blocks:Int) (l:List Ex) (over_:List Ex):Option (List Ex×Int):=
 (tc (z7k (blocks) (l)) fun s0=> (tb ((!s0)) (some ((([]:List Ex),(80:Int)))) (tc (zc5 (l)) fun s2=> (tb (((0:Int)==(over_.length:Int))) (some ((s2,(0:Int)))) (tc (zlw (blocks) (s2) ((z0 over_ 0))) fun s4=> (tb ((s4.2 !=(0:Int))) (tc (zc5 (l)) fun s6=> (some ((s6,s4.2)))) (th (z23 blocks l over_ s0 s2 s4) ((s4.1,(1:Int))) fun s6=> (tb ((s6.2==(over_.length:Int))) (some ((s6.1,(0:Int)))) (tp ((((0:Int)≤s6.2)∧(s6.2 < (over_.length:Int)))) (tc (zlw (blocks) (s6.1) ((z0 over_ s6.2.toNat))) fun s9=> (tb ((s9.2 !=(0:Int))) (tc (zc5 (l)) fun s11=> (some ((s11,s9.2)))) none)))))))))))
abbrev zva (blocks:Int) (l:List Ex) (over_:List Ex) (r:List Ex×Int):Prop:=z0n Try.prog cf false 105 [.i (blocks),exs (l),exs (over_)] (.tu [exs (r.1),.i (r.2)])
theorem z3y (blocks:Int) (l:List Ex) (over_:List Ex) (r:List Ex×Int):zla blocks l over_=some r→zva blocks l over_ r:=by
 unfold zla
 exact w9 fun s0 h0=> j9 (fun h1=> by intro e;injection e with e;subst e;exact x6 z9 (k:=300) (r:=[]) (hs:=hz [(5,[.fres (.b (s0))]),(1,[.yes]),(2,[])]) (raw:=(AV.tu [(AV.sl 0 ([]:List AV)),(AV.i 80)])) kq (ac (z10 (blocks) (l) _ h0).any0 (ac h1 an)) tq) fun h1=> w9 fun s2 h2=> tbE (fun h3 h3p=> by intro e;injection e with e;subst e;exact x6 z9 (k:=300) (r:=[]) (hs:=hz [(5,[.fres (.b (s0))]),(1,[.no]),(2,[.fres (exs (s2))]),(6,[.yes]),(3,[])]) (raw:=(AV.tu [(exs s2),(AV.i 0)])) kq (ac (z10 (blocks) (l) _ h0).any0 (ac h1 (ac (z4j (l) _ h2) (ac h3 an)))) tq) fun h3 h3p=> w9 fun s4 h4=> tbN (fun h5 h5p=> w9 fun s6 h6=> by intro e;injection e with e;subst e;exact x6 z9 (k:=300) (r:=[]) (hs:=hz [(5,[.fres (.b (s0))]),(1,[.no]),(2,[.fres (exs (s2))]),(6,[.no]),(4,[.yes,.yes,.cells ((Ex.cells (z0 over_ 0)))]),(1,[.fres (.tu [exs (s4.1),.i (s4.2)])]),(7,[.yes]),(2,[.fres (exs (s6))]),(3,[])]) (raw:=(AV.tu [(exs s6),(AV.i s4.2)])) kq (ac (z10 (blocks) (l) _ h0).any0 (ac h1 (ac (z4j (l) _ h2) (ac h3 (ac (fq (p:=(((0:Int)≤(0:Int))∧((0:Int) < (over_.length:Int))))) (ac (fq (p:=((5:Nat)≤(List.length (over_.flatMap Ex.cells))))) (ac (show (List.take 5 (over_.flatMap Ex.cells))=(Ex.cells (z0 over_ 0)) from (by have h:=zcu (over_) 0 bq;rwa [Nat.zero_mul,List.drop_zero] at h)) (ac (za9 (blocks) (s2) ((z0 over_ 0)) _ h4) (ac h5 (ac (z4j (l) _ h6) an)))))))))) tq) fun h5 h5p=> z0w fun s6 h6=> tbE (fun h7 h7p=> by intro e;injection e with e;subst e;exact x6 z9 (k:=300) (r:=[]) (hs:=hz [(5,[.fres (.b (s0))]),(1,[.no]),(2,[.fres (exs (s2))]),(6,[.no]),(4,[.yes,.yes,.cells ((Ex.cells (z0 over_ 0)))]),(1,[.fres (.tu [exs (s4.1),.i (s4.2)])]),(7,[.no]),(5,[.head (z5d blocks l over_ s0 s2 s4 s6)]),(4,[.yes]),(3,[])]) (raw:=(AV.tu [(exs s6.1),(AV.i 0)])) kq (ac (z10 (blocks) (l) _ h0).any0 (ac h1 (ac (z4j (l) _ h2) (ac h3 (ac (fq (p:=(((0:Int)≤(0:Int))∧((0:Int) < (over_.length:Int))))) (ac (fq (p:=((5:Nat)≤(List.length (over_.flatMap Ex.cells))))) (ac (show (List.take 5 (over_.flatMap Ex.cells))=(Ex.cells (z0 over_ 0)) from (by have h:=zcu (over_) 0 bq;rwa [Nat.zero_mul,List.drop_zero] at h)) (ac (za9 (blocks) (s2) ((z0 over_ 0)) _ h4) (ac h5 (ac (show z77 Try.prog cf (sc Try.prog 105 0) (sr Try.prog 105 0 0) (zfs blocks l over_ s0 s2 s4) (z5d blocks l over_ s0 s2 s4 s6) from (z77.of (zdq blocks l over_ s0 s2 s4) (x0 [] [] kq (.consn kq (.eqv tq rfl) (.consn kq (.eqv tq rfl) (.consn kq (.eqv tq rfl) (.consn kq (.eqv tq rfl) (.consn (x:=(exs s4.1)) kq (.eqv tq rfl) (.consn kq (.eqv tq rfl) .nil)))))) .nil) h6)) (ac h7 an))))))))))) tq) fun h7 h7p=> w7 fun h8=> w9 fun s9 h9=> tbN (fun h10 h10p=> w9 fun s11 h11=> by intro e;injection e with e;subst e;exact x6 z9 (k:=300) (r:=[]) (hs:=hz [(5,[.fres (.b (s0))]),(1,[.no]),(2,[.fres (exs (s2))]),(6,[.no]),(4,[.yes,.yes,.cells ((Ex.cells (z0 over_ 0)))]),(1,[.fres (.tu [exs (s4.1),.i (s4.2)])]),(7,[.no]),(5,[.head (z5d blocks l over_ s0 s2 s4 s6)]),(4,[.no]),(4,[.yes,.yes,.cells ((Ex.cells (z0 over_ s6.2.toNat)))]),(1,[.fres (.tu [exs (s9.1),.i (s9.2)])]),(7,[.yes]),(2,[.fres (exs (s11))]),(3,[])]) (raw:=(AV.tu [(exs s11),(AV.i s9.2)])) kq (ac (z10 (blocks) (l) _ h0).any0 (ac h1 (ac (z4j (l) _ h2) (ac h3 (ac (fq (p:=(((0:Int)≤(0:Int))∧((0:Int) < (over_.length:Int))))) (ac (fq (p:=((5:Nat)≤(List.length (over_.flatMap Ex.cells))))) (ac (show (List.take 5 (over_.flatMap Ex.cells))=(Ex.cells (z0 over_ 0)) from (by have h:=zcu (over_) 0 bq;rwa [Nat.zero_mul,List.drop_zero] at h)) (ac (za9 (blocks) (s2) ((z0 over_ 0)) _ h4) (ac h5 (ac (show z77 Try.prog cf (sc Try.prog 105 0) (sr Try.prog 105 0 0) (zfs blocks l over_ s0 s2 s4) (z5d blocks l over_ s0 s2 s4 s6) from (z77.of (zdq blocks l over_ s0 s2 s4) (x0 [] [] kq (.consn kq (.eqv tq rfl) (.consn kq (.eqv tq rfl) (.consn kq (.eqv tq rfl) (.consn kq (.eqv tq rfl) (.consn (x:=(exs s4.1)) kq (.eqv tq rfl) (.consn kq (.eqv tq rfl) .nil)))))) .nil) h6)) (ac h7 (ac h8 (ac (fq (p:=((5:Nat)≤(List.length (List.drop (s6.2.toNat*5) (over_.flatMap Ex.cells)))))) (ac (show (List.take 5 (List.drop (s6.2.toNat*5) (over_.flatMap Ex.cells)))=(Ex.cells (z0 over_ s6.2.toNat)) from (v4 bq bq)) (ac (za9 (blocks) (s6.1) ((z0 over_ s6.2.toNat)) _ h9) (ac h10 (ac (z4j (l) _ h11) an))))))))))))))))) tq) fun h10 h10p=> v9
end Ab
end Go.Proofs.Ytimcbhhebnikiaa
namespace Go.Proofs.Ytimcbhhebnikiaa
open Go Go.Proofs.Ytimcbhhebnikiaa.Ab
set_option linter.unusedVariables false
set_option linter.unusedSimpArgs false
set_option maxRecDepth 1000000
set_option maxHeartbeats 0
namespace Ab
noncomputable abbrev zjj (s:Sa) (c:Ch) (s0:Int) (s2:Bool) (s4:Sa) (s6:List Ex):St:=(St.mk [(0,(AV.pt 6 0)),(1,(AV.rf 9 5 0 1)),(4,(AV.i 0)),(9,(AV.rf 9 5 0 1)),(10,(AV.rf 10 5 0 s6.length)),(5,(AV.rf 10 5 0 s6.length)),(11,(AV.rf 10 5 0 s6.length)),(12,(AV.i (s6.length:Int))),(13,(AV.i 0))] 45 (AH.mk 11 [(10,(AObj.cells (s6.flatMap Ex.cells))),(9,(AObj.ro [(AV.i c.lba),(AV.i c.n),(AV.i 2),(AV.i 0),(bys c.d)])),(8,(AObj.cells [(AV.i c.kind),(AV.i c.lba),(AV.i c.n),(AV.i c.id),(bys c.d),(exs c.list)])),(7,(AObj.map [((AV.i 1),(AV.fn (75:Nat) ([]:List AV))),((AV.i 2),(AV.fn (76:Nat) ([]:List AV))),((AV.i 3),(AV.fn (77:Nat) ([]:List AV))),((AV.i 4),(AV.fn (78:Nat) ([]:List AV))),((AV.i 5),(AV.fn (79:Nat) ([]:List AV))),((AV.i 6),(AV.fn (80:Nat) ([]:List AV))),((AV.i 7),(AV.fn (81:Nat) ([]:List AV))),((AV.i 8),(AV.fn (82:Nat) ([]:List AV)))])),(6,(AObj.cells [(AV.i s4.blocks),(AV.i s4.gen),(AV.rf 3 5 0 s4.map.length),(AV.rf 4 3 0 s4.points.length),(AV.i s4.last),(AV.rf 5 1 0 s4.staged.length)])),(5,(AObj.cells (List.map AV.y s4.staged))),(4,(AObj.cells (s4.points.flatMap Po.cells))),(3,(AObj.cells (s4.map.flatMap Ex.cells))),(2,(AObj.cells [(AV.i 0),(AV.i 0),AV.nl,AV.nl,(AV.i 0),AV.nl])),(1,(AObj.cells [(AV.i c.kind),(AV.i c.lba),(AV.i c.n),(AV.i c.id),(bys c.d),(exs c.list)])),(0,(AObj.cells [(AV.i s.blocks),(AV.i s.gen),(exs s.map),(AV.sl s.points.length (s.points.flatMap Po.cells)),(AV.i s.last),(bys s.staged)]))]) false)
noncomputable abbrev z6v (s:Sa) (c:Ch) (s0:Int) (s2:Bool) (s4:Sa) (s6:List Ex) (s7:Int×List Ex):St:=(St.mk [(0,(AV.pt 6 0)),(5,(AV.rf 10 5 0 s6.length)),(12,(AV.i (s6.length:Int))),(13,(AV.i s7.1))] 45 (AH.mk 11 [(10,(AObj.cells (s7.2.flatMap Ex.cells))),(9,(AObj.ro [(AV.i c.lba),(AV.i c.n),(AV.i 2),(AV.i 0),(bys c.d)])),(8,(AObj.cells [(AV.i c.kind),(AV.i c.lba),(AV.i c.n),(AV.i c.id),(bys c.d),(exs c.list)])),(6,(AObj.cells [(AV.i s4.blocks),(AV.i s4.gen),(AV.rf 3 5 0 s4.map.length),(AV.rf 4 3 0 s4.points.length),(AV.i s4.last),(AV.rf 5 1 0 s4.staged.length)])),(5,(AObj.cells (List.map AV.y s4.staged))),(4,(AObj.cells (s4.points.flatMap Po.cells))),(3,(AObj.cells (s4.map.flatMap Ex.cells))),(2,(AObj.cells [(AV.i 0),(AV.i 0),AV.nl,AV.nl,(AV.i 0),AV.nl])),(1,(AObj.cells [(AV.i c.kind),(AV.i c.lba),(AV.i c.n),(AV.i c.id),(bys c.d),(exs c.list)])),(0,(AObj.cells [(AV.i s.blocks),(AV.i s.gen),(exs s.map),(AV.sl s.points.length (s.points.flatMap Po.cells)),(AV.i s.last),(bys s.staged)]))]) false)
noncomputable def z8b (s:Sa) (c:Ch) (s0:Int) (s2:Bool) (s4:Sa) (s6:List Ex) (s7:Int×List Ex):Option (Int×List Ex):=
 (tb ((decide (s7.1 < (s6.length:Int)))) (tp ((((0:Int)≤s7.1)∧(s7.1 < (s6.length:Int)))) (tp ((((List.length [(AV.i s4.gen)])=(1:Nat))∧(((((0:Nat)+(s7.1.toNat*5))+(3:Nat))+(List.length [(AV.i s4.gen)]))≤(List.length (s7.2.flatMap Ex.cells))))) (some (((wr (s7.1+(1:Int))),(List.set s7.2 s7.1.toNat (Ex.mk (z0 s7.2 s7.1.toNat).lba (z0 s7.2 s7.1.toNat).len (z0 s7.2 s7.1.toNat).kind s4.gen (z0 s7.2 s7.1.toNat).d))))))) none)
theorem zg9 (s:Sa) (c:Ch) (s0:Int) (s2:Bool) (s4:Sa) (s6:List Ex) (s7 zz:Int×List Ex):z8b s c s0 s2 s4 s6 s7=some zz→u7 Try.prog cf 11 (lp Try.prog 97 0) (z6v s c s0 s2 s4 s6 s7) (z6v s c s0 s2 s4 s6 zz):=by
 unfold z8b
 exact tbD (fun h8 h8p=> w7 fun h9=> w7 fun h10=> by intro e;injection e with e;subst e;exact d4 z9 (k:=300) (r:=[]) (hs:=hz [(1,[.yes]),(9,[.yes]),(1,[.yes,.cells ((List.flatMap Ex.cells (List.set s7.2 s7.1.toNat (Ex.mk (z0 s7.2 s7.1.toNat).lba (z0 s7.2 s7.1.toNat).len (z0 s7.2 s7.1.toNat).kind s4.gen (z0 s7.2 s7.1.toNat).d))))]),(2,[])]) (ks:=[0,5,12,13]) (st1:=(St.mk [(0,(AV.pt 6 0)),(5,(AV.rf 10 5 0 s6.length)),(12,(AV.i (s6.length:Int))),(13,(AV.i (wr (s7.1+(1:Int)))))] 45 (AH.mk 11 [(10,(AObj.cells (List.flatMap Ex.cells (List.set s7.2 s7.1.toNat (Ex.mk (z0 s7.2 s7.1.toNat).lba (z0 s7.2 s7.1.toNat).len (z0 s7.2 s7.1.toNat).kind s4.gen (z0 s7.2 s7.1.toNat).d))))),(9,(AObj.ro [(AV.i c.lba),(AV.i c.n),(AV.i 2),(AV.i 0),(bys c.d)])),(8,(AObj.cells [(AV.i c.kind),(AV.i c.lba),(AV.i c.n),(AV.i c.id),(bys c.d),(exs c.list)])),(6,(AObj.cells [(AV.i s4.blocks),(AV.i s4.gen),(AV.rf 3 5 0 s4.map.length),(AV.rf 4 3 0 s4.points.length),(AV.i s4.last),(AV.rf 5 1 0 s4.staged.length)])),(5,(AObj.cells (List.map AV.y s4.staged))),(4,(AObj.cells (s4.points.flatMap Po.cells))),(3,(AObj.cells (s4.map.flatMap Ex.cells))),(2,(AObj.cells [(AV.i 0),(AV.i 0),AV.nl,AV.nl,(AV.i 0),AV.nl])),(1,(AObj.cells [(AV.i c.kind),(AV.i c.lba),(AV.i c.n),(AV.i c.id),(bys c.d),(exs c.list)])),(0,(AObj.cells [(AV.i s.blocks),(AV.i s.gen),(exs s.map),(AV.sl s.points.length (s.points.flatMap Po.cells)),(AV.i s.last),(bys s.staged)]))]) false)) kq (ac h8 (ac h9 (ac h10 (ac (show (((List.take (((0:Nat)+(s7.1.toNat*5))+(3:Nat)) (s7.2.flatMap Ex.cells))++[(AV.i s4.gen)])++(List.drop ((((0:Nat)+(s7.1.toNat*5))+(3:Nat))+(List.length [(AV.i s4.gen)])) (s7.2.flatMap Ex.cells)))=(List.flatMap Ex.cells (List.set s7.2 s7.1.toNat (Ex.mk (z0 s7.2 s7.1.toNat).lba (z0 s7.2 s7.1.toNat).len (z0 s7.2 s7.1.toNat).kind s4.gen (z0 s7.2 s7.1.toNat).d))) from (by rw [show (((0:Nat)+(s7.1.toNat*5))+(3:Nat))=(s7.1.toNat)*5+3 by omega];exact zcn _ _ 3 _ ((Ex.mk (z0 s7.2 s7.1.toNat).lba (z0 s7.2 s7.1.toNat).len (z0 s7.2 s7.1.toNat).kind s4.gen (z0 s7.2 s7.1.toNat).d)) bq (by simp) rfl)) an)))) (Nat.le_of_ble_eq_true rfl) (Nat.le_of_ble_eq_true rfl) (x0 [] [] kq (.consn kq (.pt rfl) (.consn kq (.rf rfl) (.consn kq (.eqv tq rfl) (.consn kq (.eqv tq rfl) .nil)))) (.cons (.old rfl rfl (.cells (.pl tq pq))) (.cons (.old rfl rfl (.ro (.pl rfl (by simp)))) (.cons (.old rfl rfl (.cells (.pl rfl pq))) (.cons (.old rfl rfl (.cells (.cons (.eqv tq rfl) (.cons (.eqv tq rfl) (.cons (.rf rfl) (.cons (.rf rfl) (.cons (.eqv tq rfl) (.cons (.rf rfl) .nil)))))))) (.cons (.old rfl rfl (.cells (.pl rfl (by simp)))) (.cons (.old rfl rfl (.cells (.pl rfl (by simp)))) (.cons (.old rfl rfl (.cells (.pl rfl (by simp)))) (.cons (.old rfl rfl (.cells (.cons (.eqv tq rfl) (.cons (.eqv tq rfl) (.cons .nl0 (.cons .nl0 (.cons (.eqv tq rfl) (.cons .nl0 .nil)))))))) (.cons (.old rfl rfl (.cells (.pl rfl pq))) (.cons (.old rfl rfl (.cells (.pl rfl pq))) .nil)))))))))))) fun h8 h8p=> v9
noncomputable abbrev zjs (s:Sa) (c:Ch) (s0:Int) (s2:Bool) (s4:Sa) (s7:List Ex):St:=(St.mk [(0,(AV.pt 6 0)),(1,(AV.rf 9 5 0 1)),(4,(AV.i 0)),(9,(AV.rf 9 5 0 1)),(10,(AV.rf 10 5 0 s7.length)),(5,(AV.rf 10 5 0 s7.length)),(11,(AV.rf 10 5 0 s7.length)),(12,(AV.i (s7.length:Int))),(13,(AV.i 0))] 45 (AH.mk 11 [(10,(AObj.cells (s7.flatMap Ex.cells))),(9,(AObj.ro [(AV.i c.lba),(AV.i c.n),(AV.i 1),(AV.i 0),AV.nl])),(8,(AObj.cells [(AV.i c.kind),(AV.i c.lba),(AV.i c.n),(AV.i c.id),(bys c.d),(exs c.list)])),(7,(AObj.map [((AV.i 1),(AV.fn (75:Nat) ([]:List AV))),((AV.i 2),(AV.fn (76:Nat) ([]:List AV))),((AV.i 3),(AV.fn (77:Nat) ([]:List AV))),((AV.i 4),(AV.fn (78:Nat) ([]:List AV))),((AV.i 5),(AV.fn (79:Nat) ([]:List AV))),((AV.i 6),(AV.fn (80:Nat) ([]:List AV))),((AV.i 7),(AV.fn (81:Nat) ([]:List AV))),((AV.i 8),(AV.fn (82:Nat) ([]:List AV)))])),(6,(AObj.cells [(AV.i s4.blocks),(AV.i s4.gen),(AV.rf 3 5 0 s4.map.length),(AV.rf 4 3 0 s4.points.length),(AV.i s4.last),(AV.rf 5 1 0 s4.staged.length)])),(5,(AObj.cells (List.map AV.y s4.staged))),(4,(AObj.cells (s4.points.flatMap Po.cells))),(3,(AObj.cells (s4.map.flatMap Ex.cells))),(2,(AObj.cells [(AV.i 0),(AV.i 0),AV.nl,AV.nl,(AV.i 0),AV.nl])),(1,(AObj.cells [(AV.i c.kind),(AV.i c.lba),(AV.i c.n),(AV.i c.id),(bys c.d),(exs c.list)])),(0,(AObj.cells [(AV.i s.blocks),(AV.i s.gen),(exs s.map),(AV.sl s.points.length (s.points.flatMap Po.cells)),(AV.i s.last),(bys s.staged)]))]) false)
noncomputable abbrev z6r (s:Sa) (c:Ch) (s0:Int) (s2:Bool) (s4:Sa) (s7:List Ex) (s8:Int×List Ex):St:=(St.mk [(0,(AV.pt 6 0)),(5,(AV.rf 10 5 0 s7.length)),(12,(AV.i (s7.length:Int))),(13,(AV.i s8.1))] 45 (AH.mk 11 [(10,(AObj.cells (s8.2.flatMap Ex.cells))),(9,(AObj.ro [(AV.i c.lba),(AV.i c.n),(AV.i (Int.ofNat 1)),(AV.i (Int.ofNat 0)),AV.nl])),(8,(AObj.cells [(AV.i c.kind),(AV.i c.lba),(AV.i c.n),(AV.i c.id),(bys c.d),(exs c.list)])),(6,(AObj.cells [(AV.i s4.blocks),(AV.i s4.gen),(AV.rf 3 5 0 s4.map.length),(AV.rf 4 3 0 s4.points.length),(AV.i s4.last),(AV.rf 5 1 0 s4.staged.length)])),(5,(AObj.cells (List.map AV.y s4.staged))),(4,(AObj.cells (s4.points.flatMap Po.cells))),(3,(AObj.cells (s4.map.flatMap Ex.cells))),(2,(AObj.cells [(AV.i 0),(AV.i 0),AV.nl,AV.nl,(AV.i 0),AV.nl])),(1,(AObj.cells [(AV.i c.kind),(AV.i c.lba),(AV.i c.n),(AV.i c.id),(bys c.d),(exs c.list)])),(0,(AObj.cells [(AV.i s.blocks),(AV.i s.gen),(exs s.map),(AV.sl s.points.length (s.points.flatMap Po.cells)),(AV.i s.last),(bys s.staged)]))]) false)
noncomputable def z85 (s:Sa) (c:Ch) (s0:Int) (s2:Bool) (s4:Sa) (s7:List Ex) (s8:Int×List Ex):Option (Int×List Ex):=
 (tb ((decide (s8.1 < (s7.length:Int)))) (tp ((((0:Int)≤s8.1)∧(s8.1 < (s7.length:Int)))) (tp ((((List.length [(AV.i s4.gen)])=(1:Nat))∧(((((0:Nat)+(s8.1.toNat*5))+(3:Nat))+(List.length [(AV.i s4.gen)]))≤(List.length (s8.2.flatMap Ex.cells))))) (some (((wr (s8.1+(1:Int))),(List.set s8.2 s8.1.toNat (Ex.mk (z0 s8.2 s8.1.toNat).lba (z0 s8.2 s8.1.toNat).len (z0 s8.2 s8.1.toNat).kind s4.gen (z0 s8.2 s8.1.toNat).d))))))) none)
theorem zh0 (s:Sa) (c:Ch) (s0:Int) (s2:Bool) (s4:Sa) (s7:List Ex) (s8 zz:Int×List Ex):z85 s c s0 s2 s4 s7 s8=some zz→u7 Try.prog cf 11 (lp Try.prog 97 0) (z6r s c s0 s2 s4 s7 s8) (z6r s c s0 s2 s4 s7 zz):=by
 unfold z85
 exact tbD (fun h9 h9p=> w7 fun h10=> w7 fun h11=> by intro e;injection e with e;subst e;exact d4 z9 (k:=300) (r:=[]) (hs:=hz [(1,[.yes]),(9,[.yes]),(1,[.yes,.cells ((List.flatMap Ex.cells (List.set s8.2 s8.1.toNat (Ex.mk (z0 s8.2 s8.1.toNat).lba (z0 s8.2 s8.1.toNat).len (z0 s8.2 s8.1.toNat).kind s4.gen (z0 s8.2 s8.1.toNat).d))))]),(2,[])]) (ks:=[0,5,12,13]) (st1:=(St.mk [(0,(AV.pt 6 0)),(5,(AV.rf 10 5 0 s7.length)),(12,(AV.i (s7.length:Int))),(13,(AV.i (wr (s8.1+(1:Int)))))] 45 (AH.mk 11 [(10,(AObj.cells (List.flatMap Ex.cells (List.set s8.2 s8.1.toNat (Ex.mk (z0 s8.2 s8.1.toNat).lba (z0 s8.2 s8.1.toNat).len (z0 s8.2 s8.1.toNat).kind s4.gen (z0 s8.2 s8.1.toNat).d))))),(9,(AObj.ro [(AV.i c.lba),(AV.i c.n),(AV.i 1),(AV.i 0),AV.nl])),(8,(AObj.cells [(AV.i c.kind),(AV.i c.lba),(AV.i c.n),(AV.i c.id),(bys c.d),(exs c.list)])),(6,(AObj.cells [(AV.i s4.blocks),(AV.i s4.gen),(AV.rf 3 5 0 s4.map.length),(AV.rf 4 3 0 s4.points.length),(AV.i s4.last),(AV.rf 5 1 0 s4.staged.length)])),(5,(AObj.cells (List.map AV.y s4.staged))),(4,(AObj.cells (s4.points.flatMap Po.cells))),(3,(AObj.cells (s4.map.flatMap Ex.cells))),(2,(AObj.cells [(AV.i 0),(AV.i 0),AV.nl,AV.nl,(AV.i 0),AV.nl])),(1,(AObj.cells [(AV.i c.kind),(AV.i c.lba),(AV.i c.n),(AV.i c.id),(bys c.d),(exs c.list)])),(0,(AObj.cells [(AV.i s.blocks),(AV.i s.gen),(exs s.map),(AV.sl s.points.length (s.points.flatMap Po.cells)),(AV.i s.last),(bys s.staged)]))]) false)) kq (ac h9 (ac h10 (ac h11 (ac (show (((List.take (((0:Nat)+(s8.1.toNat*5))+(3:Nat)) (s8.2.flatMap Ex.cells))++[(AV.i s4.gen)])++(List.drop ((((0:Nat)+(s8.1.toNat*5))+(3:Nat))+(List.length [(AV.i s4.gen)])) (s8.2.flatMap Ex.cells)))=(List.flatMap Ex.cells (List.set s8.2 s8.1.toNat (Ex.mk (z0 s8.2 s8.1.toNat).lba (z0 s8.2 s8.1.toNat).len (z0 s8.2 s8.1.toNat).kind s4.gen (z0 s8.2 s8.1.toNat).d))) from (by rw [show (((0:Nat)+(s8.1.toNat*5))+(3:Nat))=(s8.1.toNat)*5+3 by omega];exact zcn _ _ 3 _ ((Ex.mk (z0 s8.2 s8.1.toNat).lba (z0 s8.2 s8.1.toNat).len (z0 s8.2 s8.1.toNat).kind s4.gen (z0 s8.2 s8.1.toNat).d)) bq (by simp) rfl)) an)))) (Nat.le_of_ble_eq_true rfl) (Nat.le_of_ble_eq_true rfl) (x0 [] [] kq (.consn kq (.pt rfl) (.consn kq (.rf rfl) (.consn kq (.eqv tq rfl) (.consn kq (.eqv tq rfl) .nil)))) (.cons (.old rfl rfl (.cells (.pl tq pq))) (.cons (.old rfl rfl (.ro (.pl0 rfl))) (.cons (.old rfl rfl (.cells (.pl rfl pq))) (.cons (.old rfl rfl (.cells (.cons (.eqv tq rfl) (.cons (.eqv tq rfl) (.cons (.rf rfl) (.cons (.rf rfl) (.cons (.eqv tq rfl) (.cons (.rf rfl) .nil)))))))) (.cons (.old rfl rfl (.cells (.pl rfl (by simp)))) (.cons (.old rfl rfl (.cells (.pl rfl (by simp)))) (.cons (.old rfl rfl (.cells (.pl rfl (by simp)))) (.cons (.old rfl rfl (.cells (.cons (.eqv tq rfl) (.cons (.eqv tq rfl) (.cons .nl0 (.cons .nl0 (.cons (.eqv tq rfl) (.cons .nl0 .nil)))))))) (.cons (.old rfl rfl (.cells (.pl rfl pq))) (.cons (.old rfl rfl (.cells (.pl rfl pq))) .nil)))))))))))) fun h9 h9p=> v9
noncomputable abbrev zjd (s:Sa) (c:Ch) (s0:Int) (s2:Bool) (s4:Sa) (s8:List Ex):St:=(St.mk [(0,(AV.pt 6 0)),(1,(AV.rf 9 5 0 1)),(4,(AV.i 0)),(9,(AV.rf 9 5 0 1)),(10,(AV.rf 10 5 0 s8.length)),(5,(AV.rf 10 5 0 s8.length)),(11,(AV.rf 10 5 0 s8.length)),(12,(AV.i (s8.length:Int))),(13,(AV.i 0))] 45 (AH.mk 11 [(10,(AObj.cells (s8.flatMap Ex.cells))),(9,(AObj.ro [(AV.i c.lba),(AV.i c.n),(AV.i 0),(AV.i 0),AV.nl])),(8,(AObj.cells [(AV.i c.kind),(AV.i c.lba),(AV.i c.n),(AV.i c.id),(bys c.d),(exs c.list)])),(7,(AObj.map [((AV.i 1),(AV.fn (75:Nat) ([]:List AV))),((AV.i 2),(AV.fn (76:Nat) ([]:List AV))),((AV.i 3),(AV.fn (77:Nat) ([]:List AV))),((AV.i 4),(AV.fn (78:Nat) ([]:List AV))),((AV.i 5),(AV.fn (79:Nat) ([]:List AV))),((AV.i 6),(AV.fn (80:Nat) ([]:List AV))),((AV.i 7),(AV.fn (81:Nat) ([]:List AV))),((AV.i 8),(AV.fn (82:Nat) ([]:List AV)))])),(6,(AObj.cells [(AV.i s4.blocks),(AV.i s4.gen),(AV.rf 3 5 0 s4.map.length),(AV.rf 4 3 0 s4.points.length),(AV.i s4.last),(AV.rf 5 1 0 s4.staged.length)])),(5,(AObj.cells (List.map AV.y s4.staged))),(4,(AObj.cells (s4.points.flatMap Po.cells))),(3,(AObj.cells (s4.map.flatMap Ex.cells))),(2,(AObj.cells [(AV.i 0),(AV.i 0),AV.nl,AV.nl,(AV.i 0),AV.nl])),(1,(AObj.cells [(AV.i c.kind),(AV.i c.lba),(AV.i c.n),(AV.i c.id),(bys c.d),(exs c.list)])),(0,(AObj.cells [(AV.i s.blocks),(AV.i s.gen),(exs s.map),(AV.sl s.points.length (s.points.flatMap Po.cells)),(AV.i s.last),(bys s.staged)]))]) false)
noncomputable abbrev z6k (s:Sa) (c:Ch) (s0:Int) (s2:Bool) (s4:Sa) (s8:List Ex) (s9:Int×List Ex):St:=(St.mk [(0,(AV.pt 6 0)),(5,(AV.rf 10 5 0 s8.length)),(12,(AV.i (s8.length:Int))),(13,(AV.i s9.1))] 45 (AH.mk 11 [(10,(AObj.cells (s9.2.flatMap Ex.cells))),(9,(AObj.ro [(AV.i c.lba),(AV.i c.n),(AV.i (Int.ofNat 0)),(AV.i (Int.ofNat 0)),AV.nl])),(8,(AObj.cells [(AV.i c.kind),(AV.i c.lba),(AV.i c.n),(AV.i c.id),(bys c.d),(exs c.list)])),(6,(AObj.cells [(AV.i s4.blocks),(AV.i s4.gen),(AV.rf 3 5 0 s4.map.length),(AV.rf 4 3 0 s4.points.length),(AV.i s4.last),(AV.rf 5 1 0 s4.staged.length)])),(5,(AObj.cells (List.map AV.y s4.staged))),(4,(AObj.cells (s4.points.flatMap Po.cells))),(3,(AObj.cells (s4.map.flatMap Ex.cells))),(2,(AObj.cells [(AV.i 0),(AV.i 0),AV.nl,AV.nl,(AV.i 0),AV.nl])),(1,(AObj.cells [(AV.i c.kind),(AV.i c.lba),(AV.i c.n),(AV.i c.id),(bys c.d),(exs c.list)])),(0,(AObj.cells [(AV.i s.blocks),(AV.i s.gen),(exs s.map),(AV.sl s.points.length (s.points.flatMap Po.cells)),(AV.i s.last),(bys s.staged)]))]) false)
noncomputable def z7j (s:Sa) (c:Ch) (s0:Int) (s2:Bool) (s4:Sa) (s8:List Ex) (s9:Int×List Ex):Option (Int×List Ex):=
 (tb ((decide (s9.1 < (s8.length:Int)))) (tp ((((0:Int)≤s9.1)∧(s9.1 < (s8.length:Int)))) (tp ((((List.length [(AV.i s4.gen)])=(1:Nat))∧(((((0:Nat)+(s9.1.toNat*5))+(3:Nat))+(List.length [(AV.i s4.gen)]))≤(List.length (s9.2.flatMap Ex.cells))))) (some (((wr (s9.1+(1:Int))),(List.set s9.2 s9.1.toNat (Ex.mk (z0 s9.2 s9.1.toNat).lba (z0 s9.2 s9.1.toNat).len (z0 s9.2 s9.1.toNat).kind s4.gen (z0 s9.2 s9.1.toNat).d))))))) none)
theorem zfx (s:Sa) (c:Ch) (s0:Int) (s2:Bool) (s4:Sa) (s8:List Ex) (s9 zz:Int×List Ex):z7j s c s0 s2 s4 s8 s9=some zz→u7 Try.prog cf 11 (lp Try.prog 97 0) (z6k s c s0 s2 s4 s8 s9) (z6k s c s0 s2 s4 s8 zz):=by
 unfold z7j
 exact tbD (fun h10 h10p=> w7 fun h11=> w7 fun h12=> by intro e;injection e with e;subst e;exact d4 z9 (k:=300) (r:=[]) (hs:=hz [(1,[.yes]),(9,[.yes]),(1,[.yes,.cells ((List.flatMap Ex.cells (List.set s9.2 s9.1.toNat (Ex.mk (z0 s9.2 s9.1.toNat).lba (z0 s9.2 s9.1.toNat).len (z0 s9.2 s9.1.toNat).kind s4.gen (z0 s9.2 s9.1.toNat).d))))]),(2,[])]) (ks:=[0,5,12,13]) (st1:=(St.mk [(0,(AV.pt 6 0)),(5,(AV.rf 10 5 0 s8.length)),(12,(AV.i (s8.length:Int))),(13,(AV.i (wr (s9.1+(1:Int)))))] 45 (AH.mk 11 [(10,(AObj.cells (List.flatMap Ex.cells (List.set s9.2 s9.1.toNat (Ex.mk (z0 s9.2 s9.1.toNat).lba (z0 s9.2 s9.1.toNat).len (z0 s9.2 s9.1.toNat).kind s4.gen (z0 s9.2 s9.1.toNat).d))))),(9,(AObj.ro [(AV.i c.lba),(AV.i c.n),(AV.i 0),(AV.i 0),AV.nl])),(8,(AObj.cells [(AV.i c.kind),(AV.i c.lba),(AV.i c.n),(AV.i c.id),(bys c.d),(exs c.list)])),(6,(AObj.cells [(AV.i s4.blocks),(AV.i s4.gen),(AV.rf 3 5 0 s4.map.length),(AV.rf 4 3 0 s4.points.length),(AV.i s4.last),(AV.rf 5 1 0 s4.staged.length)])),(5,(AObj.cells (List.map AV.y s4.staged))),(4,(AObj.cells (s4.points.flatMap Po.cells))),(3,(AObj.cells (s4.map.flatMap Ex.cells))),(2,(AObj.cells [(AV.i 0),(AV.i 0),AV.nl,AV.nl,(AV.i 0),AV.nl])),(1,(AObj.cells [(AV.i c.kind),(AV.i c.lba),(AV.i c.n),(AV.i c.id),(bys c.d),(exs c.list)])),(0,(AObj.cells [(AV.i s.blocks),(AV.i s.gen),(exs s.map),(AV.sl s.points.length (s.points.flatMap Po.cells)),(AV.i s.last),(bys s.staged)]))]) false)) kq (ac h10 (ac h11 (ac h12 (ac (show (((List.take (((0:Nat)+(s9.1.toNat*5))+(3:Nat)) (s9.2.flatMap Ex.cells))++[(AV.i s4.gen)])++(List.drop ((((0:Nat)+(s9.1.toNat*5))+(3:Nat))+(List.length [(AV.i s4.gen)])) (s9.2.flatMap Ex.cells)))=(List.flatMap Ex.cells (List.set s9.2 s9.1.toNat (Ex.mk (z0 s9.2 s9.1.toNat).lba (z0 s9.2 s9.1.toNat).len (z0 s9.2 s9.1.toNat).kind s4.gen (z0 s9.2 s9.1.toNat).d))) from (by rw [show (((0:Nat)+(s9.1.toNat*5))+(3:Nat))=(s9.1.toNat)*5+3 by omega];exact zcn _ _ 3 _ ((Ex.mk (z0 s9.2 s9.1.toNat).lba (z0 s9.2 s9.1.toNat).len (z0 s9.2 s9.1.toNat).kind s4.gen (z0 s9.2 s9.1.toNat).d)) bq (by simp) rfl)) an)))) (Nat.le_of_ble_eq_true rfl) (Nat.le_of_ble_eq_true rfl) (x0 [] [] kq (.consn kq (.pt rfl) (.consn kq (.rf rfl) (.consn kq (.eqv tq rfl) (.consn kq (.eqv tq rfl) .nil)))) (.cons (.old rfl rfl (.cells (.pl tq pq))) (.cons (.old rfl rfl (.ro (.pl0 rfl))) (.cons (.old rfl rfl (.cells (.pl rfl pq))) (.cons (.old rfl rfl (.cells (.cons (.eqv tq rfl) (.cons (.eqv tq rfl) (.cons (.rf rfl) (.cons (.rf rfl) (.cons (.eqv tq rfl) (.cons (.rf rfl) .nil)))))))) (.cons (.old rfl rfl (.cells (.pl rfl (by simp)))) (.cons (.old rfl rfl (.cells (.pl rfl (by simp)))) (.cons (.old rfl rfl (.cells (.pl rfl (by simp)))) (.cons (.old rfl rfl (.cells (.cons (.eqv tq rfl) (.cons (.eqv tq rfl) (.cons .nl0 (.cons .nl0 (.cons (.eqv tq rfl) (.cons .nl0 .nil)))))))) (.cons (.old rfl rfl (.cells (.pl rfl pq))) (.cons (.old rfl rfl (.cells (.pl rfl pq))) .nil)))))))))))) fun h10 h10p=> v9
noncomputable abbrev zdc (s:Sa) (c:Ch) (s0:Int) (s2:Bool) (s4:Sa):St:=(St.mk [(0,(AV.rf 4 3 0 s4.points.length)),(1,(AV.fn (99:Nat) [(AV.pt 8 0)])),(4,(AV.i 0)),(6,(AV.rf 4 3 0 s4.points.length)),(7,(AV.i (s4.points.length:Int))),(8,(AV.i 0))] 19 (AH.mk 9 [(8,(AObj.cells [(AV.i c.kind),(AV.i c.lba),(AV.i c.n),(AV.i c.id),(bys c.d),(exs c.list)])),(7,(AObj.map [((AV.i 1),(AV.fn (75:Nat) ([]:List AV))),((AV.i 2),(AV.fn (76:Nat) ([]:List AV))),((AV.i 3),(AV.fn (77:Nat) ([]:List AV))),((AV.i 4),(AV.fn (78:Nat) ([]:List AV))),((AV.i 5),(AV.fn (79:Nat) ([]:List AV))),((AV.i 6),(AV.fn (80:Nat) ([]:List AV))),((AV.i 7),(AV.fn (81:Nat) ([]:List AV))),((AV.i 8),(AV.fn (82:Nat) ([]:List AV)))])),(6,(AObj.cells [(AV.i s4.blocks),(AV.i s4.gen),(AV.rf 3 5 0 s4.map.length),(AV.rf 4 3 0 s4.points.length),(AV.i s4.last),(AV.rf 5 1 0 s4.staged.length)])),(5,(AObj.cells (List.map AV.y s4.staged))),(4,(AObj.cells (s4.points.flatMap Po.cells))),(3,(AObj.cells (s4.map.flatMap Ex.cells))),(2,(AObj.cells [(AV.i 0),(AV.i 0),AV.nl,AV.nl,(AV.i 0),AV.nl])),(1,(AObj.cells [(AV.i c.kind),(AV.i c.lba),(AV.i c.n),(AV.i c.id),(bys c.d),(exs c.list)])),(0,(AObj.cells [(AV.i s.blocks),(AV.i s.gen),(exs s.map),(AV.sl s.points.length (s.points.flatMap Po.cells)),(AV.i s.last),(bys s.staged)]))]) false)
noncomputable abbrev z4s (s:Sa) (c:Ch) (s0:Int) (s2:Bool) (s4:Sa) (s10:Int):St:=(St.mk [(0,(AV.rf 4 3 0 s4.points.length)),(1,(AV.fn (99:Nat) [(AV.pt 8 0)])),(7,(AV.i (s4.points.length:Int))),(8,(AV.i s10))] 19 (AH.mk 9 [(8,(AObj.cells [(AV.i c.kind),(AV.i c.lba),(AV.i c.n),(AV.i c.id),(bys c.d),(exs c.list)])),(6,(AObj.cells [(AV.i s4.blocks),(AV.i s4.gen),(AV.rf 3 5 0 s4.map.length),(AV.rf 4 3 0 s4.points.length),(AV.i s4.last),(AV.rf 5 1 0 s4.staged.length)])),(5,(AObj.cells (List.map AV.y s4.staged))),(4,(AObj.cells (s4.points.flatMap Po.cells))),(3,(AObj.cells (s4.map.flatMap Ex.cells))),(2,(AObj.cells [(AV.i 0),(AV.i 0),AV.nl,AV.nl,(AV.i 0),AV.nl])),(1,(AObj.cells [(AV.i c.kind),(AV.i c.lba),(AV.i c.n),(AV.i c.id),(bys c.d),(exs c.list)])),(0,(AObj.cells [(AV.i s.blocks),(AV.i s.gen),(exs s.map),(AV.sl s.points.length (s.points.flatMap Po.cells)),(AV.i s.last),(bys s.staged)]))]) false)
noncomputable def z3l (s:Sa) (c:Ch) (s0:Int) (s2:Bool) (s4:Sa) (s10:Int):Option (Int):=
 (tb ((decide (s10 < (s4.points.length:Int)))) (tp ((((0:Int)≤s10)∧(s10 < (s4.points.length:Int)))) (tb (((u0 s4.points s10.toNat).id==c.id)) none (some ((wr (s10+(1:Int))))))) none)
theorem zax (s:Sa) (c:Ch) (s0:Int) (s2:Bool) (s4:Sa) (s10 zz:Int):z3l s c s0 s2 s4 s10=some zz→u7 Try.prog cf 9 (lp Try.prog 98 0) (z4s s c s0 s2 s4 s10) (z4s s c s0 s2 s4 zz):=by
 unfold z3l
 exact tbD (fun h11 h11p=> w7 fun h12=> tbE (fun h13 h13p=> v9) fun h13 h13p=> by intro e;injection e with e;subst e;exact d4 z9 (k:=300) (r:=[]) (hs:=hz [(1,[.yes]),(5,[.yes,.yes,.cells ((Po.cells (u0 s4.points s10.toNat)))]),(11,[.no]),(2,[])]) (ks:=[0,1,7,8]) (st1:=(St.mk [(0,(AV.rf 4 3 0 s4.points.length)),(1,(AV.fn (99:Nat) [(AV.pt 8 0)])),(7,(AV.i (s4.points.length:Int))),(8,(AV.i (wr (s10+(1:Int)))))] 19 (AH.mk 10 [(9,(AObj.cells [(AV.i (u0 s4.points s10.toNat).id),(AV.i (u0 s4.points s10.toNat).gen),(exs (u0 s4.points s10.toNat).map)])),(8,(AObj.cells [(AV.i c.kind),(AV.i c.lba),(AV.i c.n),(AV.i c.id),(bys c.d),(exs c.list)])),(6,(AObj.cells [(AV.i s4.blocks),(AV.i s4.gen),(AV.rf 3 5 0 s4.map.length),(AV.rf 4 3 0 s4.points.length),(AV.i s4.last),(AV.rf 5 1 0 s4.staged.length)])),(5,(AObj.cells (List.map AV.y s4.staged))),(4,(AObj.cells (s4.points.flatMap Po.cells))),(3,(AObj.cells (s4.map.flatMap Ex.cells))),(2,(AObj.cells [(AV.i 0),(AV.i 0),AV.nl,AV.nl,(AV.i 0),AV.nl])),(1,(AObj.cells [(AV.i c.kind),(AV.i c.lba),(AV.i c.n),(AV.i c.id),(bys c.d),(exs c.list)])),(0,(AObj.cells [(AV.i s.blocks),(AV.i s.gen),(exs s.map),(AV.sl s.points.length (s.points.flatMap Po.cells)),(AV.i s.last),(bys s.staged)]))]) false)) kq (ac h11 (ac h12 (ac (fq (p:=((((0:Nat)+(s10.toNat*3))+(3:Nat))≤(List.length (s4.points.flatMap Po.cells))))) (ac (show (List.take 3 (List.drop ((0:Nat)+(s10.toNat*3)) (s4.points.flatMap Po.cells)))=(Po.cells (u0 s4.points s10.toNat)) from (z1d bq bq)) (ac h13 an))))) (Nat.le_of_ble_eq_true rfl) (Nat.le_of_ble_eq_true rfl) (x0 [] [] kq (.consn kq (.rf rfl) (.consn kq (.fn (.cons (.pt rfl) .nil)) (.consn kq (.eqv tq rfl) (.consn kq (.eqv tq rfl) .nil)))) (.cons (.old rfl rfl (.cells (.pl rfl pq))) (.cons (.old rfl rfl (.cells (.cons (.eqv tq rfl) (.cons (.eqv tq rfl) (.cons (.rf rfl) (.cons (.rf rfl) (.cons (.eqv tq rfl) (.cons (.rf rfl) .nil)))))))) (.cons (.old rfl rfl (.cells (.pl rfl (by simp)))) (.cons (.old rfl rfl (.cells (.pl rfl (by simp)))) (.cons (.old rfl rfl (.cells (.pl rfl (by simp)))) (.cons (.old rfl rfl (.cells (.cons (.eqv tq rfl) (.cons (.eqv tq rfl) (.cons .nl0 (.cons .nl0 (.cons (.eqv tq rfl) (.cons .nl0 .nil)))))))) (.cons (.old rfl rfl (.cells (.pl rfl pq))) (.cons (.old rfl rfl (.cells (.pl rfl pq))) .nil)))))))))) fun h11 h11p=> v9
noncomputable abbrev z7s (s:Sa) (c:Ch) (s0:Int) (s2:Bool) (s4:Sa) (s13:List Ex):St:=(St.mk [(0,(AV.pt 6 0)),(1,(exs c.list)),(4,(AV.i 0)),(9,(exs c.list)),(10,(AV.rf 9 5 0 s13.length)),(5,(AV.rf 9 5 0 s13.length)),(11,(AV.rf 9 5 0 s13.length)),(12,(AV.i (s13.length:Int))),(13,(AV.i 0))] 45 (AH.mk 10 [(9,(AObj.cells (s13.flatMap Ex.cells))),(8,(AObj.cells [(AV.i c.kind),(AV.i c.lba),(AV.i c.n),(AV.i c.id),(bys c.d),(exs c.list)])),(7,(AObj.map [((AV.i 1),(AV.fn (75:Nat) ([]:List AV))),((AV.i 2),(AV.fn (76:Nat) ([]:List AV))),((AV.i 3),(AV.fn (77:Nat) ([]:List AV))),((AV.i 4),(AV.fn (78:Nat) ([]:List AV))),((AV.i 5),(AV.fn (79:Nat) ([]:List AV))),((AV.i 6),(AV.fn (80:Nat) ([]:List AV))),((AV.i 7),(AV.fn (81:Nat) ([]:List AV))),((AV.i 8),(AV.fn (82:Nat) ([]:List AV)))])),(6,(AObj.cells [(AV.i s4.blocks),(AV.i s4.gen),(AV.rf 3 5 0 s4.map.length),(AV.rf 4 3 0 s4.points.length),(AV.i s4.last),(AV.rf 5 1 0 s4.staged.length)])),(5,(AObj.cells (List.map AV.y s4.staged))),(4,(AObj.cells (s4.points.flatMap Po.cells))),(3,(AObj.cells (s4.map.flatMap Ex.cells))),(2,(AObj.cells [(AV.i 0),(AV.i 0),AV.nl,AV.nl,(AV.i 0),AV.nl])),(1,(AObj.cells [(AV.i c.kind),(AV.i c.lba),(AV.i c.n),(AV.i c.id),(bys c.d),(exs c.list)])),(0,(AObj.cells [(AV.i s.blocks),(AV.i s.gen),(exs s.map),(AV.sl s.points.length (s.points.flatMap Po.cells)),(AV.i s.last),(bys s.staged)]))]) false)
noncomputable abbrev z29 (s:Sa) (c:Ch) (s0:Int) (s2:Bool) (s4:Sa) (s13:List Ex) (s14:Int×List Ex):St:=(St.mk [(0,(AV.pt 6 0)),(5,(AV.rf 9 5 0 s13.length)),(12,(AV.i (s13.length:Int))),(13,(AV.i s14.1))] 45 (AH.mk 10 [(9,(AObj.cells (s14.2.flatMap Ex.cells))),(8,(AObj.cells [(AV.i c.kind),(AV.i c.lba),(AV.i c.n),(AV.i c.id),(bys c.d),(exs c.list)])),(6,(AObj.cells [(AV.i s4.blocks),(AV.i s4.gen),(AV.rf 3 5 0 s4.map.length),(AV.rf 4 3 0 s4.points.length),(AV.i s4.last),(AV.rf 5 1 0 s4.staged.length)])),(5,(AObj.cells (List.map AV.y s4.staged))),(4,(AObj.cells (s4.points.flatMap Po.cells))),(3,(AObj.cells (s4.map.flatMap Ex.cells))),(2,(AObj.cells [(AV.i 0),(AV.i 0),AV.nl,AV.nl,(AV.i 0),AV.nl])),(1,(AObj.cells [(AV.i c.kind),(AV.i c.lba),(AV.i c.n),(AV.i c.id),(bys c.d),(exs c.list)])),(0,(AObj.cells [(AV.i s.blocks),(AV.i s.gen),(exs s.map),(AV.sl s.points.length (s.points.flatMap Po.cells)),(AV.i s.last),(bys s.staged)]))]) false)
noncomputable def z82 (s:Sa) (c:Ch) (s0:Int) (s2:Bool) (s4:Sa) (s13:List Ex) (s14:Int×List Ex):Option (Int×List Ex):=
 (tb ((decide (s14.1 < (s13.length:Int)))) (tp ((((0:Int)≤s14.1)∧(s14.1 < (s13.length:Int)))) (tp ((((List.length [(AV.i s4.gen)])=(1:Nat))∧(((((0:Nat)+(s14.1.toNat*5))+(3:Nat))+(List.length [(AV.i s4.gen)]))≤(List.length (s14.2.flatMap Ex.cells))))) (some (((wr (s14.1+(1:Int))),(List.set s14.2 s14.1.toNat (Ex.mk (z0 s14.2 s14.1.toNat).lba (z0 s14.2 s14.1.toNat).len (z0 s14.2 s14.1.toNat).kind s4.gen (z0 s14.2 s14.1.toNat).d))))))) none)
theorem z6g (s:Sa) (c:Ch) (s0:Int) (s2:Bool) (s4:Sa) (s13:List Ex) (s14 zz:Int×List Ex):z82 s c s0 s2 s4 s13 s14=some zz→u7 Try.prog cf 10 (lp Try.prog 97 0) (z29 s c s0 s2 s4 s13 s14) (z29 s c s0 s2 s4 s13 zz):=by
 unfold z82
 exact tbD (fun h15 h15p=> w7 fun h16=> w7 fun h17=> by intro e;injection e with e;subst e;exact d4 z9 (k:=300) (r:=[]) (hs:=hz [(1,[.yes]),(9,[.yes]),(1,[.yes,.cells ((List.flatMap Ex.cells (List.set s14.2 s14.1.toNat (Ex.mk (z0 s14.2 s14.1.toNat).lba (z0 s14.2 s14.1.toNat).len (z0 s14.2 s14.1.toNat).kind s4.gen (z0 s14.2 s14.1.toNat).d))))]),(2,[])]) (ks:=[0,5,12,13]) (st1:=(St.mk [(0,(AV.pt 6 0)),(5,(AV.rf 9 5 0 s13.length)),(12,(AV.i (s13.length:Int))),(13,(AV.i (wr (s14.1+(1:Int)))))] 45 (AH.mk 10 [(9,(AObj.cells (List.flatMap Ex.cells (List.set s14.2 s14.1.toNat (Ex.mk (z0 s14.2 s14.1.toNat).lba (z0 s14.2 s14.1.toNat).len (z0 s14.2 s14.1.toNat).kind s4.gen (z0 s14.2 s14.1.toNat).d))))),(8,(AObj.cells [(AV.i c.kind),(AV.i c.lba),(AV.i c.n),(AV.i c.id),(bys c.d),(exs c.list)])),(6,(AObj.cells [(AV.i s4.blocks),(AV.i s4.gen),(AV.rf 3 5 0 s4.map.length),(AV.rf 4 3 0 s4.points.length),(AV.i s4.last),(AV.rf 5 1 0 s4.staged.length)])),(5,(AObj.cells (List.map AV.y s4.staged))),(4,(AObj.cells (s4.points.flatMap Po.cells))),(3,(AObj.cells (s4.map.flatMap Ex.cells))),(2,(AObj.cells [(AV.i 0),(AV.i 0),AV.nl,AV.nl,(AV.i 0),AV.nl])),(1,(AObj.cells [(AV.i c.kind),(AV.i c.lba),(AV.i c.n),(AV.i c.id),(bys c.d),(exs c.list)])),(0,(AObj.cells [(AV.i s.blocks),(AV.i s.gen),(exs s.map),(AV.sl s.points.length (s.points.flatMap Po.cells)),(AV.i s.last),(bys s.staged)]))]) false)) kq (ac h15 (ac h16 (ac h17 (ac (show (((List.take (((0:Nat)+(s14.1.toNat*5))+(3:Nat)) (s14.2.flatMap Ex.cells))++[(AV.i s4.gen)])++(List.drop ((((0:Nat)+(s14.1.toNat*5))+(3:Nat))+(List.length [(AV.i s4.gen)])) (s14.2.flatMap Ex.cells)))=(List.flatMap Ex.cells (List.set s14.2 s14.1.toNat (Ex.mk (z0 s14.2 s14.1.toNat).lba (z0 s14.2 s14.1.toNat).len (z0 s14.2 s14.1.toNat).kind s4.gen (z0 s14.2 s14.1.toNat).d))) from (by rw [show (((0:Nat)+(s14.1.toNat*5))+(3:Nat))=(s14.1.toNat)*5+3 by omega];exact zcn _ _ 3 _ ((Ex.mk (z0 s14.2 s14.1.toNat).lba (z0 s14.2 s14.1.toNat).len (z0 s14.2 s14.1.toNat).kind s4.gen (z0 s14.2 s14.1.toNat).d)) bq (by simp) rfl)) an)))) (Nat.le_of_ble_eq_true rfl) (Nat.le_of_ble_eq_true rfl) (x0 [] [] kq (.consn kq (.pt rfl) (.consn kq (.rf rfl) (.consn kq (.eqv tq rfl) (.consn kq (.eqv tq rfl) .nil)))) (.cons (.old rfl rfl (.cells (.pl tq pq))) (.cons (.old rfl rfl (.cells (.pl rfl pq))) (.cons (.old rfl rfl (.cells (.cons (.eqv tq rfl) (.cons (.eqv tq rfl) (.cons (.rf rfl) (.cons (.rf rfl) (.cons (.eqv tq rfl) (.cons (.rf rfl) .nil)))))))) (.cons (.old rfl rfl (.cells (.pl rfl (by simp)))) (.cons (.old rfl rfl (.cells (.pl rfl (by simp)))) (.cons (.old rfl rfl (.cells (.pl rfl (by simp)))) (.cons (.old rfl rfl (.cells (.cons (.eqv tq rfl) (.cons (.eqv tq rfl) (.cons .nl0 (.cons .nl0 (.cons (.eqv tq rfl) (.cons .nl0 .nil)))))))) (.cons (.old rfl rfl (.cells (.pl rfl pq))) (.cons (.old rfl rfl (.cells (.pl rfl pq))) .nil))))))))))) fun h15 h15p=> v9
noncomputable def sDo (s:Sa) (c:Ch):Option (Sa×Int):=
 (tc (z9h (s)) fun s0=> (tb ((s0 !=(0:Int))) (some (((Sa.mk 0 0 ([]:List Ex) ([]:List Po) 0 ([]:List UInt8)),(110:Int)))) (tc (zep (c)) fun s2=> (tb ((!s2)) (tc (z3v (s)) fun s4=> (tp ((((0:Nat)=(0:Nat))∧((List.length (s4.map.flatMap Ex.cells))=(s4.map.length*5)))) (some ((s4,(100:Int)))))) (tc (z3v (s)) fun s4=> (tb ((decide ((1:Int)=c.kind))) (tc (z27 ([(Ex.mk c.lba c.n 2 0 c.d)])) fun s6=> (th (z8b s c s0 s2 s4 s6) (((0:Int),s6)) fun s7=> (tb ((decide (s7.1 < (s6.length:Int)))) none (tp ((((0:Nat)=(0:Nat))∧((List.length (s4.map.flatMap Ex.cells))=(s4.map.length*5)))) (tp ((((0:Nat)=(0:Nat))∧((List.length (s7.2.flatMap Ex.cells))=(s6.length*5)))) (tc (zla (s4.blocks) (s4.map) (s7.2)) fun s11=> (tb ((s11.2==(0:Int))) (some (((Sa.mk s4.blocks s4.gen s11.1 s4.points s4.last s4.staged),(0:Int)))) (tc (z3v (s)) fun s13=> (some ((s13,s11.2))))))))))) (tb ((decide ((2:Int)=c.kind))) (tc (z27 ([(Ex.mk c.lba c.n 1 0 ([]:List UInt8))])) fun s7=> (th (z85 s c s0 s2 s4 s7) (((0:Int),s7)) fun s8=> (tb ((decide (s8.1 < (s7.length:Int)))) none (tp ((((0:Nat)=(0:Nat))∧((List.length (s4.map.flatMap Ex.cells))=(s4.map.length*5)))) (tp ((((0:Nat)=(0:Nat))∧((List.length (s8.2.flatMap Ex.cells))=(s7.length*5)))) (tc (zla (s4.blocks) (s4.map) (s8.2)) fun s12=> (tb ((s12.2==(0:Int))) (some (((Sa.mk s4.blocks s4.gen s12.1 s4.points s4.last s4.staged),(0:Int)))) (tc (z3v (s)) fun s14=> (some ((s14,s12.2))))))))))) (tb ((decide ((3:Int)=c.kind))) (tc (z27 ([(Ex.mk c.lba c.n 0 0 ([]:List UInt8))])) fun s8=> (th (z7j s c s0 s2 s4 s8) (((0:Int),s8)) fun s9=> (tb ((decide (s9.1 < (s8.length:Int)))) none (tp ((((0:Nat)=(0:Nat))∧((List.length (s4.map.flatMap Ex.cells))=(s4.map.length*5)))) (tp ((((0:Nat)=(0:Nat))∧((List.length (s9.2.flatMap Ex.cells))=(s8.length*5)))) (tc (zla (s4.blocks) (s4.map) (s9.2)) fun s13=> (tb ((s13.2==(0:Int))) (some (((Sa.mk s4.blocks s4.gen s13.1 s4.points s4.last s4.staged),(0:Int)))) (tc (z3v (s)) fun s15=> (some ((s15,s13.2))))))))))) (tb ((decide ((4:Int)=c.kind))) (tb ((decide (c.id≤s4.last))) (tc (z3v (s)) fun s10=> (tp ((((0:Nat)=(0:Nat))∧((List.length (s10.map.flatMap Ex.cells))=(s10.map.length*5)))) (some ((s10,(112:Int)))))) (tb (((s4.points.length:Int)==(4:Int))) (tc (z3v (s)) fun s11=> (tp ((((0:Nat)=(0:Nat))∧((List.length (s11.map.flatMap Ex.cells))=(s11.map.length*5)))) (some ((s11,(113:Int)))))) (tb ((s4.gen==(2147483647:Int))) (tc (z3v (s)) fun s12=> (tp ((((0:Nat)=(0:Nat))∧((List.length (s12.map.flatMap Ex.cells))=(s12.map.length*5)))) (some ((s12,(113:Int)))))) (tp ((((0:Nat)=(0:Nat))∧((List.length (s4.map.flatMap Ex.cells))=(s4.map.length*5)))) (tc (z27 (s4.map)) fun s13=> (tp ((((List.length (s4.points.flatMap Po.cells))=(s4.points.length*3))∧((s4.points.length+(1:Nat))≤(4294967296:Nat)))) (tp ((((0:Nat)=(0:Nat))∧((List.length ((s4.points.flatMap Po.cells)++[(AV.i c.id),(AV.i s4.gen),(AV.rf 9 5 0 s13.length)]))=((s4.points.length+(1:Nat))*3)))) (some (((Sa.mk s4.blocks (wr (s4.gen+(1:Int))) s4.map (s4.points++[(Po.mk c.id s4.gen (List.take s13.length s13))]) c.id s4.staged),(0:Int))))))))))) (tb ((decide ((5:Int)=c.kind))) (th (z3l s c s0 s2 s4) ((0:Int)) fun s10=> (tb ((decide (s10 < (s4.points.length:Int)))) (tp ((((0:Int)≤s10)∧(s10 < (s4.points.length:Int)))) (tb (((u0 s4.points s10.toNat).id==c.id)) (tb ((decide (s10 < (0:Int)))) (tc (z3v (s)) fun s15=> (some ((s15,(111:Int))))) (tp ((s4.points.length≤(4294967296:Nat))) (tp (((List.length (s4.points.flatMap Po.cells))=(s4.points.length*3))) (tp (((wr (s10+(1:Int)))=(s10+(1:Int)))) (tp ((((0:Nat)=(0:Nat))∧((List.length (s4.map.flatMap Ex.cells))=(s4.map.length*5)))) (tp ((((0:Nat)=(0:Nat))∧((List.length (List.flatMap Po.cells ((List.take s10.toNat s4.points)++(List.drop (s10.toNat+(1:Nat)) s4.points))))=((s4.points.length - (1:Nat))*3)))) (some (((Sa.mk s4.blocks s4.gen s4.map ((List.take s10.toNat s4.points)++(List.drop (s10.toNat+(1:Nat)) s4.points)) s4.last s4.staged),(0:Int)))))))))) none)) (tc (z3v (s)) fun s12=> (tp ((((0:Nat)=(0:Nat))∧((List.length (s12.map.flatMap Ex.cells))=(s12.map.length*5)))) (some ((s12,(111:Int)))))))) (tb ((decide ((6:Int)=c.kind))) (tb ((decide ((c.d.length:Int) > (wr ((4000:Int) - (s4.staged.length:Int)))))) (tc (z3v (s)) fun s12=> (tp ((((0:Nat)=(0:Nat))∧((List.length (s12.map.flatMap Ex.cells))=(s12.map.length*5)))) (some ((s12,(113:Int)))))) (tp ((((List.length (List.map AV.y s4.staged))=(s4.staged.length*1))∧((s4.staged.length+c.d.length)≤(4294967296:Nat)))) (tp ((((0:Nat)=(0:Nat))∧((List.length (s4.map.flatMap Ex.cells))=(s4.map.length*5)))) (some (((Sa.mk s4.blocks s4.gen s4.map s4.points s4.last (s4.staged++c.d)),(0:Int))))))) (tb ((decide ((7:Int)=c.kind))) (tp ((((0:Nat)=(0:Nat))∧((List.length (s4.map.flatMap Ex.cells))=(s4.map.length*5)))) (some (((Sa.mk s4.blocks s4.gen s4.map s4.points s4.last ([]:List UInt8)),(0:Int))))) (tb ((decide ((8:Int)=c.kind))) (tc (z27 (c.list)) fun s13=> (th (z82 s c s0 s2 s4 s13) (((0:Int),s13)) fun s14=> (tb ((decide (s14.1 < (s13.length:Int)))) none (tp ((((0:Nat)=(0:Nat))∧((List.length (s4.map.flatMap Ex.cells))=(s4.map.length*5)))) (tp ((((0:Nat)=(0:Nat))∧((List.length (s14.2.flatMap Ex.cells))=(s13.length*5)))) (tc (zla (s4.blocks) (s4.map) (s14.2)) fun s18=> (tb ((s18.2==(0:Int))) (tb ((decide (c.id≤s4.last))) (tc (z3v (s)) fun s21=> (some ((s21,(112:Int))))) (tb (((s4.points.length:Int)==(4:Int))) (tc (z3v (s)) fun s22=> (some ((s22,(113:Int))))) (tb ((s4.gen==(2147483647:Int))) (tc (z3v (s)) fun s23=> (some ((s23,(113:Int))))) (tc (z27 (s18.1)) fun s23=> (tp ((((List.length (s4.points.flatMap Po.cells))=(s4.points.length*3))∧((s4.points.length+(1:Nat))≤(4294967296:Nat)))) (tp ((((0:Nat)=(0:Nat))∧((List.length ((s4.points.flatMap Po.cells)++[(AV.i c.id),(AV.i s4.gen),(AV.rf 11 5 0 s23.length)]))=((s4.points.length+(1:Nat))*3)))) (some (((Sa.mk s4.blocks (wr (s4.gen+(1:Int))) s18.1 (s4.points++[(Po.mk c.id s4.gen (List.take s23.length s23))]) c.id ([]:List UInt8)),(0:Int)))))))))) (tc (z3v (s)) fun s20=> (some ((s20,s18.2))))))))))) none)))))))))))))
abbrev sDo_G (s:Sa) (c:Ch) (r:Sa×Int):Prop:=z0n Try.prog cf false 29 [Sa.av (s),Ch.av (c)] (.tu [Sa.av (r.1),.i (r.2)])
theorem z80 (s:Sa) (c:Ch) (r:Sa×Int):sDo s c=some r→sDo_G s c r:=by
 unfold sDo
 exact w9 fun s0 h0=> tbN (fun h1 h1p=> by intro e;injection e with e;subst e;exact x6 z9 (k:=300) (r:=[]) (hs:=hz [(5,[.fc]),(1,[.fres (.i (s0))]),(2,[.yes]),(2,[.fc]),(2,[.fc])]) (raw:=(AV.tu [(AV.ag [(AV.i 0),(AV.i 0),(AV.sl 0 ([]:List AV)),(AV.sl 0 ([]:List AV)),(AV.i 0),(AV.sl 0 ([]:List AV))]),(AV.i 110)])) kq (ac (d8 (s) _ h0).any0 (ac h1 an)) tq) fun h1 h1p=> w9 fun s2 h2=> j9 (fun h3=> w9 fun s4 h4=> w7 fun h5=> by intro e;injection e with e;subst e;exact x6 z9 (k:=300) (r:=[]) (hs:=hz [(5,[.fc]),(1,[.fres (.i (s0))]),(2,[.no]),(1,[.fc]),(1,[.fres (.b (s2))]),(2,[.yes]),(1,[.fc]),(1,[.fres (Sa.av (s4))]),(1,[.fc]),(2,[.fc,.yes,.yes,.yes,.yes,.yes,.yes])]) (raw:=(AV.tu [(AV.ag [(AV.i s4.blocks),(AV.i s4.gen),(exs s4.map),(AV.sl s4.points.length (s4.points.flatMap Po.cells)),(AV.i s4.last),(bys s4.staged)]),(AV.i 100)])) kq (ac (d8 (s) _ h0).any0 (ac h1 (ac (z03 (c) _ h2).any0 (ac h3 (ac (t7 (s) _ h4) (ac h5 (ac (pq (p:=Pl false ((s4.map.flatMap Ex.cells)))) (ac (fq (p:=(((0:Nat)=(0:Nat))∧((List.length (s4.points.flatMap Po.cells))=(s4.points.length*3))))) (ac (pq (p:=Pl false ((s4.points.flatMap Po.cells)))) (ac (tq (p:=(((0:Nat)=(0:Nat))∧((List.length (List.map AV.y s4.staged))=(s4.staged.length*1))))) (ac (pq (p:=Pl false ((List.map AV.y s4.staged)))) an))))))))))) tq) fun h3=> w9 fun s4 h4=> tbD (fun h5 h5p=> w9 fun s6 h6=> z0w fun s7 h7=> tbD (fun h8 h8p=> v9) fun h8 h8p=> w7 fun h9=> w7 fun h10=> w9 fun s11 h11=> tbE (fun h12 h12p=> by intro e;injection e with e;subst e;exact x6 z9 (k:=300) (r:=[]) (hs:=hz [(5,[.fc]),(1,[.fres (.i (s0))]),(2,[.no]),(1,[.fc]),(1,[.fres (.b (s2))]),(2,[.no]),(1,[.fc]),(1,[.fres (Sa.av (s4))]),(2,[.fc]),(17,[.yes]),(1,[.fc]),(15,[.fc,.fc]),(4,[.yes]),(1,[.fres (exs (s6))]),(4,[.head (z6v s c s0 s2 s4 s6 s7)]),(1,[.no]),(12,[.yes,.yes,.yes,.yes,.fres (.tu [exs (s11.1),.i (s11.2)])]),(5,[.yes]),(2,[.yes]),(5,[.fc]),(4,[.yes]),(2,[.no]),(1,[.fc]),(1,[.fc]),(2,[.fc,.yes,.yes,.yes,.yes])]) (raw:=(AV.tu [(AV.ag [(AV.i s4.blocks),(AV.i s4.gen),(exs s11.1),(AV.sl s4.points.length (s4.points.flatMap Po.cells)),(AV.i s4.last),(bys s4.staged)]),(AV.i 0)])) kq (ac (d8 (s) _ h0).any0 (ac h1 (ac (z03 (c) _ h2).any0 (ac h3 (ac (t7 (s) _ h4) (ac h5 (ac (tq (p:=(((0:Nat)=(0:Nat))∧((List.length [(AV.i c.lba),(AV.i c.n),(AV.i 2),(AV.i 0),(bys c.d)])=(5:Nat))))) (ac (z07 ([(Ex.mk c.lba c.n 2 0 c.d)]) _ h6) (ac (show x5 Try.prog cf (lp Try.prog 97 0) (zjj s c s0 s2 s4 s6) (z6v s c s0 s2 s4 s6 s7) from (x5.of (zg9 s c s0 s2 s4 s6) (x0 [] [] kq (.consn kq (.pt rfl) (.consn kq (.rf rfl) (.consn kq (.eqv tq rfl) (.consn kq (.eqv tq rfl) .nil)))) (.cons (.old rfl rfl (.cells (.pl tq pq))) (.cons (.old rfl rfl (.ro (.pl rfl (by simp)))) (.cons (.old rfl rfl (.cells (.pl rfl pq))) (.cons (.old rfl rfl (.cells (.cons (.eqv tq rfl) (.cons (.eqv tq rfl) (.cons (.rf rfl) (.cons (.rf rfl) (.cons (.eqv tq rfl) (.cons (.rf rfl) .nil)))))))) (.cons (.old rfl rfl (.cells (.pl rfl (by simp)))) (.cons (.old rfl rfl (.cells (.pl rfl (by simp)))) (.cons (.old rfl rfl (.cells (.pl rfl (by simp)))) (.cons (.old rfl rfl (.cells (.cons (.eqv tq rfl) (.cons (.eqv tq rfl) (.cons .nl0 (.cons .nl0 (.cons (.eqv tq rfl) (.cons .nl0 .nil)))))))) (.cons (.old rfl rfl (.cells (.pl rfl pq))) (.cons (.old rfl rfl (.cells (.pl rfl pq))) .nil))))))))))) h7)) (ac h8 (ac h9 (ac (pq (p:=Pl false ((s4.map.flatMap Ex.cells)))) (ac h10 (ac (pq (p:=Pl false ((s7.2.flatMap Ex.cells)))) (ac (show z0n Try.prog cf false 105 [(AV.i s4.blocks),(exs s4.map),(AV.sl s6.length (s7.2.flatMap Ex.cells))] (.tu [exs (s11.1),.i (s11.2)]) from ((z3y (s4.blocks) (s4.map) (s7.2) _ h11).cast tq)) (ac (show z8 (rg Try.prog 97 0)=true∧x4 (Region.before (rg Try.prog 97 0)) [] 0 [(some [],some []),(some [],some []),(some [],some []),(some [6],some []),(some [],some []),(some [],some []),(some [],some []),(some [6],some []),(some [],some []),(some [3,10],some [3,10]),(some [],some []),(some [],some []),(some [],some []),(some [],some []),(some [],some [])]=true from (y9 z2j z2n kq)) (ac h12 (ac (show z8 (rg Try.prog 29 0)=true∧x4 (Region.before (rg Try.prog 29 0)) [] 0 [(some [],some [7]),(some [],some []),(some [1],some []),(some [7],some []),(some [1],some []),(none,none),(some [],some [])]=true from (y9 z0d z0e kq)) (ac (congrArg not h12) (ac (fq (p:=(((0:Nat)=(0:Nat))∧((List.length (s4.points.flatMap Po.cells))=(s4.points.length*3))))) (ac (pq (p:=Pl false ((s4.points.flatMap Po.cells)))) (ac (tq (p:=(((0:Nat)=(0:Nat))∧((List.length (List.map AV.y s4.staged))=(s4.staged.length*1))))) (ac (pq (p:=Pl false ((List.map AV.y s4.staged)))) an))))))))))))))))))))))) tq) fun h12 h12p=> w9 fun s13 h13=> by intro e;injection e with e;subst e;exact x6 z9 (k:=300) (r:=[]) (hs:=hz [(5,[.fc]),(1,[.fres (.i (s0))]),(2,[.no]),(1,[.fc]),(1,[.fres (.b (s2))]),(2,[.no]),(1,[.fc]),(1,[.fres (Sa.av (s4))]),(2,[.fc]),(17,[.yes]),(1,[.fc]),(15,[.fc,.fc]),(4,[.yes]),(1,[.fres (exs (s6))]),(4,[.head (z6v s c s0 s2 s4 s6 s7)]),(1,[.no]),(12,[.yes,.yes,.yes,.yes,.fres (.tu [exs (s11.1),.i (s11.2)])]),(5,[.yes]),(2,[.no]),(4,[.yes]),(2,[.yes]),(1,[.fc]),(1,[.fres (Sa.av (s13))]),(2,[.fc]),(2,[.fc,.yes,.yes,.yes,.yes,.yes,.yes])]) (raw:=(AV.tu [(AV.ag [(AV.i s13.blocks),(AV.i s13.gen),(exs s13.map),(AV.sl s13.points.length (s13.points.flatMap Po.cells)),(AV.i s13.last),(bys s13.staged)]),(AV.i s11.2)])) kq (ac (d8 (s) _ h0).any0 (ac h1 (ac (z03 (c) _ h2).any0 (ac h3 (ac (t7 (s) _ h4) (ac h5 (ac (tq (p:=(((0:Nat)=(0:Nat))∧((List.length [(AV.i c.lba),(AV.i c.n),(AV.i 2),(AV.i 0),(bys c.d)])=(5:Nat))))) (ac (z07 ([(Ex.mk c.lba c.n 2 0 c.d)]) _ h6) (ac (show x5 Try.prog cf (lp Try.prog 97 0) (zjj s c s0 s2 s4 s6) (z6v s c s0 s2 s4 s6 s7) from (x5.of (zg9 s c s0 s2 s4 s6) (x0 [] [] kq (.consn kq (.pt rfl) (.consn kq (.rf rfl) (.consn kq (.eqv tq rfl) (.consn kq (.eqv tq rfl) .nil)))) (.cons (.old rfl rfl (.cells (.pl tq pq))) (.cons (.old rfl rfl (.ro (.pl rfl (by simp)))) (.cons (.old rfl rfl (.cells (.pl rfl pq))) (.cons (.old rfl rfl (.cells (.cons (.eqv tq rfl) (.cons (.eqv tq rfl) (.cons (.rf rfl) (.cons (.rf rfl) (.cons (.eqv tq rfl) (.cons (.rf rfl) .nil)))))))) (.cons (.old rfl rfl (.cells (.pl rfl (by simp)))) (.cons (.old rfl rfl (.cells (.pl rfl (by simp)))) (.cons (.old rfl rfl (.cells (.pl rfl (by simp)))) (.cons (.old rfl rfl (.cells (.cons (.eqv tq rfl) (.cons (.eqv tq rfl) (.cons .nl0 (.cons .nl0 (.cons (.eqv tq rfl) (.cons .nl0 .nil)))))))) (.cons (.old rfl rfl (.cells (.pl rfl pq))) (.cons (.old rfl rfl (.cells (.pl rfl pq))) .nil))))))))))) h7)) (ac h8 (ac h9 (ac (pq (p:=Pl false ((s4.map.flatMap Ex.cells)))) (ac h10 (ac (pq (p:=Pl false ((s7.2.flatMap Ex.cells)))) (ac (show z0n Try.prog cf false 105 [(AV.i s4.blocks),(exs s4.map),(AV.sl s6.length (s7.2.flatMap Ex.cells))] (.tu [exs (s11.1),.i (s11.2)]) from ((z3y (s4.blocks) (s4.map) (s7.2) _ h11).cast tq)) (ac (show z8 (rg Try.prog 97 0)=true∧x4 (Region.before (rg Try.prog 97 0)) [] 0 [(some [],some []),(some [],some []),(some [],some []),(some [6],some []),(some [],some []),(some [],some []),(some [],some []),(some [6],some []),(some [],some []),(some [3,10],some [3,10]),(some [],some []),(some [],some []),(some [],some []),(some [],some []),(some [],some [])]=true from (y9 z2j z2n kq)) (ac h12 (ac (show z8 (rg Try.prog 29 0)=true∧x4 (Region.before (rg Try.prog 29 0)) [] 0 [(some [],some [7]),(some [],some []),(some [1],some []),(some [7],some []),(some [1],some []),(none,none),(some [],some [])]=true from (y9 z0d z0e kq)) (ac (congrArg not h12) (ac (t7 (s) _ h13) (ac (fq (p:=(((0:Nat)=(0:Nat))∧((List.length (s13.map.flatMap Ex.cells))=(s13.map.length*5))))) (ac (pq (p:=Pl false ((s13.map.flatMap Ex.cells)))) (ac (fq (p:=(((0:Nat)=(0:Nat))∧((List.length (s13.points.flatMap Po.cells))=(s13.points.length*3))))) (ac (pq (p:=Pl false ((s13.points.flatMap Po.cells)))) (ac (tq (p:=(((0:Nat)=(0:Nat))∧((List.length (List.map AV.y s13.staged))=(s13.staged.length*1))))) (ac (pq (p:=Pl false ((List.map AV.y s13.staged)))) an)))))))))))))))))))))))))) tq) fun h5 h5p=> tbD (fun h6 h6p=> w9 fun s7 h7=> z0w fun s8 h8=> tbD (fun h9 h9p=> v9) fun h9 h9p=> w7 fun h10=> w7 fun h11=> w9 fun s12 h12=> tbE (fun h13 h13p=> by intro e;injection e with e;subst e;exact x6 z9 (k:=300) (r:=[]) (hs:=hz [(5,[.fc]),(1,[.fres (.i (s0))]),(2,[.no]),(1,[.fc]),(1,[.fres (.b (s2))]),(2,[.no]),(1,[.fc]),(1,[.fres (Sa.av (s4))]),(2,[.fc]),(17,[.no,.yes]),(1,[.fc]),(12,[.fc,.fc]),(4,[.yes]),(1,[.fres (exs (s7))]),(4,[.head (z6r s c s0 s2 s4 s7 s8)]),(1,[.no]),(12,[.yes,.yes,.yes,.yes,.fres (.tu [exs (s12.1),.i (s12.2)])]),(5,[.yes]),(2,[.yes]),(5,[.fc]),(4,[.yes]),(2,[.no]),(1,[.fc]),(1,[.fc]),(2,[.fc,.yes,.yes,.yes,.yes])]) (raw:=(AV.tu [(AV.ag [(AV.i s4.blocks),(AV.i s4.gen),(exs s12.1),(AV.sl s4.points.length (s4.points.flatMap Po.cells)),(AV.i s4.last),(bys s4.staged)]),(AV.i 0)])) kq (ac (d8 (s) _ h0).any0 (ac h1 (ac (z03 (c) _ h2).any0 (ac h3 (ac (t7 (s) _ h4) (ac h5 (ac h6 (ac (tq (p:=(((0:Nat)=(0:Nat))∧((List.length [(AV.i c.lba),(AV.i c.n),(AV.i (Int.ofNat 1)),(AV.i (Int.ofNat 0)),AV.nl])=(5:Nat))))) (ac (z07 ([(Ex.mk c.lba c.n 1 0 ([]:List UInt8))]) _ h7) (ac (show x5 Try.prog cf (lp Try.prog 97 0) (zjs s c s0 s2 s4 s7) (z6r s c s0 s2 s4 s7 s8) from (x5.of (zh0 s c s0 s2 s4 s7) (x0 [] [] kq (.consn kq (.pt rfl) (.consn kq (.rf rfl) (.consn kq (.eqv tq rfl) (.consn kq (.eqv tq rfl) .nil)))) (.cons (.old rfl rfl (.cells (.pl tq pq))) (.cons (.old rfl rfl (.ro (.pl0 rfl))) (.cons (.old rfl rfl (.cells (.pl rfl pq))) (.cons (.old rfl rfl (.cells (.cons (.eqv tq rfl) (.cons (.eqv tq rfl) (.cons (.rf rfl) (.cons (.rf rfl) (.cons (.eqv tq rfl) (.cons (.rf rfl) .nil)))))))) (.cons (.old rfl rfl (.cells (.pl rfl (by simp)))) (.cons (.old rfl rfl (.cells (.pl rfl (by simp)))) (.cons (.old rfl rfl (.cells (.pl rfl (by simp)))) (.cons (.old rfl rfl (.cells (.cons (.eqv tq rfl) (.cons (.eqv tq rfl) (.cons .nl0 (.cons .nl0 (.cons (.eqv tq rfl) (.cons .nl0 .nil)))))))) (.cons (.old rfl rfl (.cells (.pl rfl pq))) (.cons (.old rfl rfl (.cells (.pl rfl pq))) .nil))))))))))) h8)) (ac h9 (ac h10 (ac (pq (p:=Pl false ((s4.map.flatMap Ex.cells)))) (ac h11 (ac (pq (p:=Pl false ((s8.2.flatMap Ex.cells)))) (ac (show z0n Try.prog cf false 105 [(AV.i s4.blocks),(exs s4.map),(AV.sl s7.length (s8.2.flatMap Ex.cells))] (.tu [exs (s12.1),.i (s12.2)]) from ((z3y (s4.blocks) (s4.map) (s8.2) _ h12).cast tq)) (ac (show z8 (rg Try.prog 97 0)=true∧x4 (Region.before (rg Try.prog 97 0)) [] 0 [(some [],some []),(some [],some []),(some [],some []),(some [6],some []),(some [],some []),(some [],some []),(some [],some []),(some [6],some []),(some [],some []),(some [3,10],some [3,10]),(some [],some []),(some [],some []),(some [],some []),(some [],some []),(some [],some [])]=true from (y9 z2j z2n kq)) (ac h13 (ac (show z8 (rg Try.prog 29 0)=true∧x4 (Region.before (rg Try.prog 29 0)) [] 0 [(some [],some [7]),(some [],some []),(some [1],some []),(some [7],some []),(some [1],some []),(none,none),(some [],some [])]=true from (y9 z0d z0e kq)) (ac (congrArg not h13) (ac (fq (p:=(((0:Nat)=(0:Nat))∧((List.length (s4.points.flatMap Po.cells))=(s4.points.length*3))))) (ac (pq (p:=Pl false ((s4.points.flatMap Po.cells)))) (ac (tq (p:=(((0:Nat)=(0:Nat))∧((List.length (List.map AV.y s4.staged))=(s4.staged.length*1))))) (ac (pq (p:=Pl false ((List.map AV.y s4.staged)))) an)))))))))))))))))))))))) tq) fun h13 h13p=> w9 fun s14 h14=> by intro e;injection e with e;subst e;exact x6 z9 (k:=300) (r:=[]) (hs:=hz [(5,[.fc]),(1,[.fres (.i (s0))]),(2,[.no]),(1,[.fc]),(1,[.fres (.b (s2))]),(2,[.no]),(1,[.fc]),(1,[.fres (Sa.av (s4))]),(2,[.fc]),(17,[.no,.yes]),(1,[.fc]),(12,[.fc,.fc]),(4,[.yes]),(1,[.fres (exs (s7))]),(4,[.head (z6r s c s0 s2 s4 s7 s8)]),(1,[.no]),(12,[.yes,.yes,.yes,.yes,.fres (.tu [exs (s12.1),.i (s12.2)])]),(5,[.yes]),(2,[.no]),(4,[.yes]),(2,[.yes]),(1,[.fc]),(1,[.fres (Sa.av (s14))]),(2,[.fc]),(2,[.fc,.yes,.yes,.yes,.yes,.yes,.yes])]) (raw:=(AV.tu [(AV.ag [(AV.i s14.blocks),(AV.i s14.gen),(exs s14.map),(AV.sl s14.points.length (s14.points.flatMap Po.cells)),(AV.i s14.last),(bys s14.staged)]),(AV.i s12.2)])) kq (ac (d8 (s) _ h0).any0 (ac h1 (ac (z03 (c) _ h2).any0 (ac h3 (ac (t7 (s) _ h4) (ac h5 (ac h6 (ac (tq (p:=(((0:Nat)=(0:Nat))∧((List.length [(AV.i c.lba),(AV.i c.n),(AV.i (Int.ofNat 1)),(AV.i (Int.ofNat 0)),AV.nl])=(5:Nat))))) (ac (z07 ([(Ex.mk c.lba c.n 1 0 ([]:List UInt8))]) _ h7) (ac (show x5 Try.prog cf (lp Try.prog 97 0) (zjs s c s0 s2 s4 s7) (z6r s c s0 s2 s4 s7 s8) from (x5.of (zh0 s c s0 s2 s4 s7) (x0 [] [] kq (.consn kq (.pt rfl) (.consn kq (.rf rfl) (.consn kq (.eqv tq rfl) (.consn kq (.eqv tq rfl) .nil)))) (.cons (.old rfl rfl (.cells (.pl tq pq))) (.cons (.old rfl rfl (.ro (.pl0 rfl))) (.cons (.old rfl rfl (.cells (.pl rfl pq))) (.cons (.old rfl rfl (.cells (.cons (.eqv tq rfl) (.cons (.eqv tq rfl) (.cons (.rf rfl) (.cons (.rf rfl) (.cons (.eqv tq rfl) (.cons (.rf rfl) .nil)))))))) (.cons (.old rfl rfl (.cells (.pl rfl (by simp)))) (.cons (.old rfl rfl (.cells (.pl rfl (by simp)))) (.cons (.old rfl rfl (.cells (.pl rfl (by simp)))) (.cons (.old rfl rfl (.cells (.cons (.eqv tq rfl) (.cons (.eqv tq rfl) (.cons .nl0 (.cons .nl0 (.cons (.eqv tq rfl) (.cons .nl0 .nil)))))))) (.cons (.old rfl rfl (.cells (.pl rfl pq))) (.cons (.old rfl rfl (.cells (.pl rfl pq))) .nil))))))))))) h8)) (ac h9 (ac h10 (ac (pq (p:=Pl false ((s4.map.flatMap Ex.cells)))) (ac h11 (ac (pq (p:=Pl false ((s8.2.flatMap Ex.cells)))) (ac (show z0n Try.prog cf false 105 [(AV.i s4.blocks),(exs s4.map),(AV.sl s7.length (s8.2.flatMap Ex.cells))] (.tu [exs (s12.1),.i (s12.2)]) from ((z3y (s4.blocks) (s4.map) (s8.2) _ h12).cast tq)) (ac (show z8 (rg Try.prog 97 0)=true∧x4 (Region.before (rg Try.prog 97 0)) [] 0 [(some [],some []),(some [],some []),(some [],some []),(some [6],some []),(some [],some []),(some [],some []),(some [],some []),(some [6],some []),(some [],some []),(some [3,10],some [3,10]),(some [],some []),(some [],some []),(some [],some []),(some [],some []),(some [],some [])]=true from (y9 z2j z2n kq)) (ac h13 (ac (show z8 (rg Try.prog 29 0)=true∧x4 (Region.before (rg Try.prog 29 0)) [] 0 [(some [],some [7]),(some [],some []),(some [1],some []),(some [7],some []),(some [1],some []),(none,none),(some [],some [])]=true from (y9 z0d z0e kq)) (ac (congrArg not h13) (ac (t7 (s) _ h14) (ac (fq (p:=(((0:Nat)=(0:Nat))∧((List.length (s14.map.flatMap Ex.cells))=(s14.map.length*5))))) (ac (pq (p:=Pl false ((s14.map.flatMap Ex.cells)))) (ac (fq (p:=(((0:Nat)=(0:Nat))∧((List.length (s14.points.flatMap Po.cells))=(s14.points.length*3))))) (ac (pq (p:=Pl false ((s14.points.flatMap Po.cells)))) (ac (tq (p:=(((0:Nat)=(0:Nat))∧((List.length (List.map AV.y s14.staged))=(s14.staged.length*1))))) (ac (pq (p:=Pl false ((List.map AV.y s14.staged)))) an))))))))))))))))))))))))))) tq) fun h6 h6p=> tbD (fun h7 h7p=> w9 fun s8 h8=> z0w fun s9 h9=> tbD (fun h10 h10p=> v9) fun h10 h10p=> w7 fun h11=> w7 fun h12=> w9 fun s13 h13=> tbE (fun h14 h14p=> by intro e;injection e with e;subst e;exact x6 z9 (k:=300) (r:=[]) (hs:=hz [(5,[.fc]),(1,[.fres (.i (s0))]),(2,[.no]),(1,[.fc]),(1,[.fres (.b (s2))]),(2,[.no]),(1,[.fc]),(1,[.fres (Sa.av (s4))]),(2,[.fc]),(17,[.no,.no,.yes]),(1,[.fc]),(12,[.fc,.fc]),(4,[.yes]),(1,[.fres (exs (s8))]),(4,[.head (z6k s c s0 s2 s4 s8 s9)]),(1,[.no]),(12,[.yes,.yes,.yes,.yes,.fres (.tu [exs (s13.1),.i (s13.2)])]),(5,[.yes]),(2,[.yes]),(5,[.fc]),(4,[.yes]),(2,[.no]),(1,[.fc]),(1,[.fc]),(2,[.fc,.yes,.yes,.yes,.yes])]) (raw:=(AV.tu [(AV.ag [(AV.i s4.blocks),(AV.i s4.gen),(exs s13.1),(AV.sl s4.points.length (s4.points.flatMap Po.cells)),(AV.i s4.last),(bys s4.staged)]),(AV.i 0)])) kq (ac (d8 (s) _ h0).any0 (ac h1 (ac (z03 (c) _ h2).any0 (ac h3 (ac (t7 (s) _ h4) (ac h5 (ac h6 (ac h7 (ac (tq (p:=(((0:Nat)=(0:Nat))∧((List.length [(AV.i c.lba),(AV.i c.n),(AV.i (Int.ofNat 0)),(AV.i (Int.ofNat 0)),AV.nl])=(5:Nat))))) (ac (z07 ([(Ex.mk c.lba c.n 0 0 ([]:List UInt8))]) _ h8) (ac (show x5 Try.prog cf (lp Try.prog 97 0) (zjd s c s0 s2 s4 s8) (z6k s c s0 s2 s4 s8 s9) from (x5.of (zfx s c s0 s2 s4 s8) (x0 [] [] kq (.consn kq (.pt rfl) (.consn kq (.rf rfl) (.consn kq (.eqv tq rfl) (.consn kq (.eqv tq rfl) .nil)))) (.cons (.old rfl rfl (.cells (.pl tq pq))) (.cons (.old rfl rfl (.ro (.pl0 rfl))) (.cons (.old rfl rfl (.cells (.pl rfl pq))) (.cons (.old rfl rfl (.cells (.cons (.eqv tq rfl) (.cons (.eqv tq rfl) (.cons (.rf rfl) (.cons (.rf rfl) (.cons (.eqv tq rfl) (.cons (.rf rfl) .nil)))))))) (.cons (.old rfl rfl (.cells (.pl rfl (by simp)))) (.cons (.old rfl rfl (.cells (.pl rfl (by simp)))) (.cons (.old rfl rfl (.cells (.pl rfl (by simp)))) (.cons (.old rfl rfl (.cells (.cons (.eqv tq rfl) (.cons (.eqv tq rfl) (.cons .nl0 (.cons .nl0 (.cons (.eqv tq rfl) (.cons .nl0 .nil)))))))) (.cons (.old rfl rfl (.cells (.pl rfl pq))) (.cons (.old rfl rfl (.cells (.pl rfl pq))) .nil))))))))))) h9)) (ac h10 (ac h11 (ac (pq (p:=Pl false ((s4.map.flatMap Ex.cells)))) (ac h12 (ac (pq (p:=Pl false ((s9.2.flatMap Ex.cells)))) (ac (show z0n Try.prog cf false 105 [(AV.i s4.blocks),(exs s4.map),(AV.sl s8.length (s9.2.flatMap Ex.cells))] (.tu [exs (s13.1),.i (s13.2)]) from ((z3y (s4.blocks) (s4.map) (s9.2) _ h13).cast tq)) (ac (show z8 (rg Try.prog 97 0)=true∧x4 (Region.before (rg Try.prog 97 0)) [] 0 [(some [],some []),(some [],some []),(some [],some []),(some [6],some []),(some [],some []),(some [],some []),(some [],some []),(some [6],some []),(some [],some []),(some [3,10],some [3,10]),(some [],some []),(some [],some []),(some [],some []),(some [],some []),(some [],some [])]=true from (y9 z2j z2n kq)) (ac h14 (ac (show z8 (rg Try.prog 29 0)=true∧x4 (Region.before (rg Try.prog 29 0)) [] 0 [(some [],some [7]),(some [],some []),(some [1],some []),(some [7],some []),(some [1],some []),(none,none),(some [],some [])]=true from (y9 z0d z0e kq)) (ac (congrArg not h14) (ac (fq (p:=(((0:Nat)=(0:Nat))∧((List.length (s4.points.flatMap Po.cells))=(s4.points.length*3))))) (ac (pq (p:=Pl false ((s4.points.flatMap Po.cells)))) (ac (tq (p:=(((0:Nat)=(0:Nat))∧((List.length (List.map AV.y s4.staged))=(s4.staged.length*1))))) (ac (pq (p:=Pl false ((List.map AV.y s4.staged)))) an))))))))))))))))))))))))) tq) fun h14 h14p=> w9 fun s15 h15=> by intro e;injection e with e;subst e;exact x6 z9 (k:=300) (r:=[]) (hs:=hz [(5,[.fc]),(1,[.fres (.i (s0))]),(2,[.no]),(1,[.fc]),(1,[.fres (.b (s2))]),(2,[.no]),(1,[.fc]),(1,[.fres (Sa.av (s4))]),(2,[.fc]),(17,[.no,.no,.yes]),(1,[.fc]),(12,[.fc,.fc]),(4,[.yes]),(1,[.fres (exs (s8))]),(4,[.head (z6k s c s0 s2 s4 s8 s9)]),(1,[.no]),(12,[.yes,.yes,.yes,.yes,.fres (.tu [exs (s13.1),.i (s13.2)])]),(5,[.yes]),(2,[.no]),(4,[.yes]),(2,[.yes]),(1,[.fc]),(1,[.fres (Sa.av (s15))]),(2,[.fc]),(2,[.fc,.yes,.yes,.yes,.yes,.yes,.yes])]) (raw:=(AV.tu [(AV.ag [(AV.i s15.blocks),(AV.i s15.gen),(exs s15.map),(AV.sl s15.points.length (s15.points.flatMap Po.cells)),(AV.i s15.last),(bys s15.staged)]),(AV.i s13.2)])) kq (ac (d8 (s) _ h0).any0 (ac h1 (ac (z03 (c) _ h2).any0 (ac h3 (ac (t7 (s) _ h4) (ac h5 (ac h6 (ac h7 (ac (tq (p:=(((0:Nat)=(0:Nat))∧((List.length [(AV.i c.lba),(AV.i c.n),(AV.i (Int.ofNat 0)),(AV.i (Int.ofNat 0)),AV.nl])=(5:Nat))))) (ac (z07 ([(Ex.mk c.lba c.n 0 0 ([]:List UInt8))]) _ h8) (ac (show x5 Try.prog cf (lp Try.prog 97 0) (zjd s c s0 s2 s4 s8) (z6k s c s0 s2 s4 s8 s9) from (x5.of (zfx s c s0 s2 s4 s8) (x0 [] [] kq (.consn kq (.pt rfl) (.consn kq (.rf rfl) (.consn kq (.eqv tq rfl) (.consn kq (.eqv tq rfl) .nil)))) (.cons (.old rfl rfl (.cells (.pl tq pq))) (.cons (.old rfl rfl (.ro (.pl0 rfl))) (.cons (.old rfl rfl (.cells (.pl rfl pq))) (.cons (.old rfl rfl (.cells (.cons (.eqv tq rfl) (.cons (.eqv tq rfl) (.cons (.rf rfl) (.cons (.rf rfl) (.cons (.eqv tq rfl) (.cons (.rf rfl) .nil)))))))) (.cons (.old rfl rfl (.cells (.pl rfl (by simp)))) (.cons (.old rfl rfl (.cells (.pl rfl (by simp)))) (.cons (.old rfl rfl (.cells (.pl rfl (by simp)))) (.cons (.old rfl rfl (.cells (.cons (.eqv tq rfl) (.cons (.eqv tq rfl) (.cons .nl0 (.cons .nl0 (.cons (.eqv tq rfl) (.cons .nl0 .nil)))))))) (.cons (.old rfl rfl (.cells (.pl rfl pq))) (.cons (.old rfl rfl (.cells (.pl rfl pq))) .nil))))))))))) h9)) (ac h10 (ac h11 (ac (pq (p:=Pl false ((s4.map.flatMap Ex.cells)))) (ac h12 (ac (pq (p:=Pl false ((s9.2.flatMap Ex.cells)))) (ac (show z0n Try.prog cf false 105 [(AV.i s4.blocks),(exs s4.map),(AV.sl s8.length (s9.2.flatMap Ex.cells))] (.tu [exs (s13.1),.i (s13.2)]) from ((z3y (s4.blocks) (s4.map) (s9.2) _ h13).cast tq)) (ac (show z8 (rg Try.prog 97 0)=true∧x4 (Region.before (rg Try.prog 97 0)) [] 0 [(some [],some []),(some [],some []),(some [],some []),(some [6],some []),(some [],some []),(some [],some []),(some [],some []),(some [6],some []),(some [],some []),(some [3,10],some [3,10]),(some [],some []),(some [],some []),(some [],some []),(some [],some []),(some [],some [])]=true from (y9 z2j z2n kq)) (ac h14 (ac (show z8 (rg Try.prog 29 0)=true∧x4 (Region.before (rg Try.prog 29 0)) [] 0 [(some [],some [7]),(some [],some []),(some [1],some []),(some [7],some []),(some [1],some []),(none,none),(some [],some [])]=true from (y9 z0d z0e kq)) (ac (congrArg not h14) (ac (t7 (s) _ h15) (ac (fq (p:=(((0:Nat)=(0:Nat))∧((List.length (s15.map.flatMap Ex.cells))=(s15.map.length*5))))) (ac (pq (p:=Pl false ((s15.map.flatMap Ex.cells)))) (ac (fq (p:=(((0:Nat)=(0:Nat))∧((List.length (s15.points.flatMap Po.cells))=(s15.points.length*3))))) (ac (pq (p:=Pl false ((s15.points.flatMap Po.cells)))) (ac (tq (p:=(((0:Nat)=(0:Nat))∧((List.length (List.map AV.y s15.staged))=(s15.staged.length*1))))) (ac (pq (p:=Pl false ((List.map AV.y s15.staged)))) an)))))))))))))))))))))))))))) tq) fun h7 h7p=> tbD (fun h8 h8p=> tbD (fun h9 h9p=> w9 fun s10 h10=> w7 fun h11=> by intro e;injection e with e;subst e;exact x6 z9 (k:=300) (r:=[]) (hs:=hz [(5,[.fc]),(1,[.fres (.i (s0))]),(2,[.no]),(1,[.fc]),(1,[.fres (.b (s2))]),(2,[.no]),(1,[.fc]),(1,[.fres (Sa.av (s4))]),(2,[.fc]),(17,[.no,.no,.no,.yes]),(1,[.fc]),(13,[.yes,.yes]),(2,[.yes]),(4,[.fc]),(1,[.fres (Sa.av (s10))]),(2,[.fc]),(2,[.fc,.yes,.yes,.yes,.yes,.yes,.yes])]) (raw:=(AV.tu [(AV.ag [(AV.i s10.blocks),(AV.i s10.gen),(exs s10.map),(AV.sl s10.points.length (s10.points.flatMap Po.cells)),(AV.i s10.last),(bys s10.staged)]),(AV.i 112)])) kq (ac (d8 (s) _ h0).any0 (ac h1 (ac (z03 (c) _ h2).any0 (ac h3 (ac (t7 (s) _ h4) (ac h5 (ac h6 (ac h7 (ac h8 (ac (show z8 (rg Try.prog 78 0)=true∧x4 (Region.before (rg Try.prog 78 0)) [] 0 [(some [],some []),(some [8],some []),(some [],some []),(some [],some []),(some [],some []),(some [6],some []),(some [],some []),(some [],some [])]=true from (y9 z4u z4r kq)) (ac h9 (ac (show z8 (rg Try.prog 29 0)=true∧x4 (Region.before (rg Try.prog 29 0)) [] 0 [(some [],some [7]),(some [],some []),(some [1],some []),(some [7],some []),(some [1],some []),(none,none),(some [],some [])]=true from (y9 z0d z0e kq)) (ac (t7 (s) _ h10) (ac h11 (ac (pq (p:=Pl false ((s10.map.flatMap Ex.cells)))) (ac (fq (p:=(((0:Nat)=(0:Nat))∧((List.length (s10.points.flatMap Po.cells))=(s10.points.length*3))))) (ac (pq (p:=Pl false ((s10.points.flatMap Po.cells)))) (ac (tq (p:=(((0:Nat)=(0:Nat))∧((List.length (List.map AV.y s10.staged))=(s10.staged.length*1))))) (ac (pq (p:=Pl false ((List.map AV.y s10.staged)))) an))))))))))))))))))) tq) fun h9 h9p=> tbE (fun h10 h10p=> w9 fun s11 h11=> w7 fun h12=> by intro e;injection e with e;subst e;exact x6 z9 (k:=300) (r:=[]) (hs:=hz [(5,[.fc]),(1,[.fres (.i (s0))]),(2,[.no]),(1,[.fc]),(1,[.fres (.b (s2))]),(2,[.no]),(1,[.fc]),(1,[.fres (Sa.av (s4))]),(2,[.fc]),(17,[.no,.no,.no,.yes]),(1,[.fc]),(13,[.yes,.no]),(8,[.yes,.yes,.yes,.yes,.yes,.yes]),(4,[.yes]),(4,[.fc]),(1,[.fres (Sa.av (s11))]),(2,[.fc]),(2,[.fc,.yes,.yes,.yes,.yes,.yes,.yes])]) (raw:=(AV.tu [(AV.ag [(AV.i s11.blocks),(AV.i s11.gen),(exs s11.map),(AV.sl s11.points.length (s11.points.flatMap Po.cells)),(AV.i s11.last),(bys s11.staged)]),(AV.i 113)])) kq (ac (d8 (s) _ h0).any0 (ac h1 (ac (z03 (c) _ h2).any0 (ac h3 (ac (t7 (s) _ h4) (ac h5 (ac h6 (ac h7 (ac h8 (ac (show z8 (rg Try.prog 78 0)=true∧x4 (Region.before (rg Try.prog 78 0)) [] 0 [(some [],some []),(some [8],some []),(some [],some []),(some [],some []),(some [],some []),(some [6],some []),(some [],some []),(some [],some [])]=true from (y9 z4u z4r kq)) (ac h9 (ac h10 (ac h10 (ac h10 (ac h10 (ac h10 (ac h10 (ac (show z8 (rg Try.prog 29 0)=true∧x4 (Region.before (rg Try.prog 29 0)) [] 0 [(some [],some [7]),(some [],some []),(some [1],some []),(some [7],some []),(some [1],some []),(none,none),(some [],some [])]=true from (y9 z0d z0e kq)) (ac (t7 (s) _ h11) (ac h12 (ac (pq (p:=Pl false ((s11.map.flatMap Ex.cells)))) (ac (fq (p:=(((0:Nat)=(0:Nat))∧((List.length (s11.points.flatMap Po.cells))=(s11.points.length*3))))) (ac (pq (p:=Pl false ((s11.points.flatMap Po.cells)))) (ac (tq (p:=(((0:Nat)=(0:Nat))∧((List.length (List.map AV.y s11.staged))=(s11.staged.length*1))))) (ac (pq (p:=Pl false ((List.map AV.y s11.staged)))) an))))))))))))))))))))))))) tq) fun h10 h10p=> tbE (fun h11 h11p=> w9 fun s12 h12=> w7 fun h13=> by intro e;injection e with e;subst e;exact x6 z9 (k:=300) (r:=[]) (hs:=hz [(5,[.fc]),(1,[.fres (.i (s0))]),(2,[.no]),(1,[.fc]),(1,[.fres (.b (s2))]),(2,[.no]),(1,[.fc]),(1,[.fres (Sa.av (s4))]),(2,[.fc]),(17,[.no,.no,.no,.yes]),(1,[.fc]),(13,[.yes,.no]),(8,[.no]),(1,[.no]),(1,[.no]),(1,[.no]),(2,[.no]),(1,[.no]),(1,[.yes]),(2,[.yes]),(4,[.fc]),(1,[.fres (Sa.av (s12))]),(2,[.fc]),(2,[.fc,.yes,.yes,.yes,.yes,.yes,.yes])]) (raw:=(AV.tu [(AV.ag [(AV.i s12.blocks),(AV.i s12.gen),(exs s12.map),(AV.sl s12.points.length (s12.points.flatMap Po.cells)),(AV.i s12.last),(bys s12.staged)]),(AV.i 113)])) kq (ac (d8 (s) _ h0).any0 (ac h1 (ac (z03 (c) _ h2).any0 (ac h3 (ac (t7 (s) _ h4) (ac h5 (ac h6 (ac h7 (ac h8 (ac (show z8 (rg Try.prog 78 0)=true∧x4 (Region.before (rg Try.prog 78 0)) [] 0 [(some [],some []),(some [8],some []),(some [],some []),(some [],some []),(some [],some []),(some [6],some []),(some [],some []),(some [],some [])]=true from (y9 z4u z4r kq)) (ac h9 (ac h10 (ac h10 (ac h10 (ac h10 (ac h10 (ac h10 (ac h11 (ac (show z8 (rg Try.prog 29 0)=true∧x4 (Region.before (rg Try.prog 29 0)) [] 0 [(some [],some [7]),(some [],some []),(some [1],some []),(some [7],some []),(some [1],some []),(none,none),(some [],some [])]=true from (y9 z0d z0e kq)) (ac (t7 (s) _ h12) (ac h13 (ac (pq (p:=Pl false ((s12.map.flatMap Ex.cells)))) (ac (fq (p:=(((0:Nat)=(0:Nat))∧((List.length (s12.points.flatMap Po.cells))=(s12.points.length*3))))) (ac (pq (p:=Pl false ((s12.points.flatMap Po.cells)))) (ac (tq (p:=(((0:Nat)=(0:Nat))∧((List.length (List.map AV.y s12.staged))=(s12.staged.length*1))))) (ac (pq (p:=Pl false ((List.map AV.y s12.staged)))) an)))))))))))))))))))))))))) tq) fun h11 h11p=> w7 fun h12=> w9 fun s13 h13=> w7 fun h14=> w7 fun h15=> by intro e;injection e with e;subst e;exact x6 z9 (k:=300) (r:=[]) (hs:=hz [(5,[.fc]),(1,[.fres (.i (s0))]),(2,[.no]),(1,[.fc]),(1,[.fres (.b (s2))]),(2,[.no]),(1,[.fc]),(1,[.fres (Sa.av (s4))]),(2,[.fc]),(17,[.no,.no,.no,.yes]),(1,[.fc]),(13,[.yes,.no]),(8,[.no]),(1,[.no]),(1,[.no]),(1,[.no]),(2,[.no]),(1,[.no]),(1,[.no]),(20,[.yes,.yes,.fres (exs (s13))]),(2,[.fc,.fc,.yes,.yes]),(3,[.fc,.yes]),(7,[.fc]),(9,[.fc]),(2,[.yes]),(4,[.fc]),(1,[.fc]),(2,[.fc,.yes,.yes,.yes,.cellsb ((s4.points.flatMap Po.cells)++[(AV.i c.id),(AV.i s4.gen),(AV.sl s13.length (List.take (s13.length*5) (s13.flatMap Ex.cells)))]) [9],.yes,.yes])]) (raw:=(AV.tu [(AV.ag [(AV.i s4.blocks),(AV.i (wr (s4.gen+(1:Int)))),(exs s4.map),(AV.sl (s4.points.length+(1:Nat)) ((s4.points.flatMap Po.cells)++[(AV.i c.id),(AV.i s4.gen),(AV.sl s13.length (List.take (s13.length*5) (s13.flatMap Ex.cells)))])),(AV.i c.id),(bys s4.staged)]),(AV.i 0)])) kq (ac (d8 (s) _ h0).any0 (ac h1 (ac (z03 (c) _ h2).any0 (ac h3 (ac (t7 (s) _ h4) (ac h5 (ac h6 (ac h7 (ac h8 (ac (show z8 (rg Try.prog 78 0)=true∧x4 (Region.before (rg Try.prog 78 0)) [] 0 [(some [],some []),(some [8],some []),(some [],some []),(some [],some []),(some [],some []),(some [6],some []),(some [],some []),(some [],some [])]=true from (y9 z4u z4r kq)) (ac h9 (ac h10 (ac h10 (ac h10 (ac h10 (ac h10 (ac h10 (ac h11 (ac h12 (ac (pq (p:=Pl false ((s4.map.flatMap Ex.cells)))) (ac (z07 (s4.map) _ h13) (ac (tq (p:=(((0:Nat)=(0:Nat))∧((List.length [(AV.i c.id),(AV.i s4.gen),(AV.rf 9 5 0 s13.length)])=(3:Nat))))) (ac h14 (ac (show z8 (rg Try.prog 78 1)=true∧x4 (Region.before (rg Try.prog 78 1)) [] 0 [(some [],some []),(some [],some []),(some [],some []),(some [],some []),(some [6],some []),(some [],some []),(some [8],some []),(some [],some []),(some [],some []),(some [],some []),(some [6],some []),(some [],some []),(some [],some []),(some [],some []),(some [6],some []),(some [3],some [3,9]),(some [],some []),(some [],some [10]),(some [4,10],some [4,11]),(some [],some []),(some [],some []),(some [6],some [6])]=true from (y9 zjh zk7 kq)) (ac (show z8 (rg Try.prog 29 0)=true∧x4 (Region.before (rg Try.prog 29 0)) [] 0 [(some [],some [7]),(some [],some []),(some [1],some []),(some [7],some []),(some [1],some []),(none,none),(some [],some [])]=true from (y9 z0d z0e kq)) (ac h12 (ac (pq (p:=Pl false ((s4.map.flatMap Ex.cells)))) (ac h15 (ac (show z05 (u9 (AH.mk 12 [(11,(AObj.cells ((s4.points.flatMap Po.cells)++[(AV.i c.id),(AV.i s4.gen),(AV.rf 9 5 0 s13.length)]))),(10,(AObj.cells [(AV.i c.id),(AV.i s4.gen),(AV.rf 9 5 0 s13.length)])),(9,(AObj.cells (s13.flatMap Ex.cells))),(8,(AObj.cells [(AV.i c.kind),(AV.i c.lba),(AV.i c.n),(AV.i c.id),(bys c.d),(exs c.list)])),(7,(AObj.map [((AV.i 1),(AV.fn (75:Nat) ([]:List AV))),((AV.i 2),(AV.fn (76:Nat) ([]:List AV))),((AV.i 3),(AV.fn (77:Nat) ([]:List AV))),((AV.i 4),(AV.fn (78:Nat) ([]:List AV))),((AV.i 5),(AV.fn (79:Nat) ([]:List AV))),((AV.i 6),(AV.fn (80:Nat) ([]:List AV))),((AV.i 7),(AV.fn (81:Nat) ([]:List AV))),((AV.i 8),(AV.fn (82:Nat) ([]:List AV)))])),(6,(AObj.cells [(AV.i s4.blocks),(AV.i (wr (s4.gen+(1:Int)))),(AV.rf 3 5 0 s4.map.length),(AV.rf 11 3 0 (s4.points.length+(1:Nat))),(AV.i c.id),(AV.rf 5 1 0 s4.staged.length)])),((((3:Nat)+(1:Nat))+(1:Nat)),(AObj.cells (List.map AV.y s4.staged))),(4,AObj.dead),(3,(AObj.ro (s4.map.flatMap Ex.cells))),(2,(AObj.cells [(AV.i s4.blocks),(AV.i (wr (s4.gen+(1:Int)))),(AV.rf 3 5 0 s4.map.length),(AV.rf 11 3 0 (s4.points.length+(1:Nat))),(AV.i c.id),(AV.rf 5 1 0 s4.staged.length)])),(1,(AObj.cells [(AV.i c.kind),(AV.i c.lba),(AV.i c.n),(AV.i c.id),(bys c.d),(exs c.list)])),(0,(AObj.cells [(AV.i s.blocks),(AV.i s.gen),(exs s.map),(AV.sl s.points.length (s.points.flatMap Po.cells)),(AV.i s.last),(bys s.staged)]))]) false 9) ((s4.points.flatMap Po.cells)++[(AV.i c.id),(AV.i s4.gen),(AV.rf 9 5 0 s13.length)])=some (((s4.points.flatMap Po.cells)++[(AV.i c.id),(AV.i s4.gen),(AV.sl s13.length (List.take (s13.length*5) (s13.flatMap Ex.cells)))]),[9]) from (zbh (x:=[]) (y:=[9]) (z4e _ _ _ _ pq) (z4a (x:=[]) (y:=[9]) (z4h rfl) (z4a (x:=[]) (y:=[9]) (z4h rfl) (z4a (x:=[9]) (y:=[]) (ziw (cs:=(s13.flatMap Ex.cells)) rfl tq pq) rfl))))) (ac (tq (p:=(((0:Nat)=(0:Nat))∧((List.length (List.map AV.y s4.staged))=(s4.staged.length*1))))) (ac (pq (p:=Pl false ((List.map AV.y s4.staged)))) an))))))))))))))))))))))))))))))) tq) fun h8 h8p=> tbD (fun h9 h9p=> z0w fun s10 h10=> tbD (fun h11 h11p=> w7 fun h12=> tbE (fun h13 h13p=> tbD (fun h14 h14p=> w9 fun s15 h15=> by intro e;injection e with e;subst e;exact x6 z9 (k:=300) (r:=[]) (hs:=hz [(5,[.fc]),(1,[.fres (.i (s0))]),(2,[.no]),(1,[.fc]),(1,[.fres (.b (s2))]),(2,[.no]),(1,[.fc]),(1,[.fres (Sa.av (s4))]),(2,[.fc]),(17,[.no,.no,.no,.no,.yes]),(1,[.fc]),(14,[.head (z4s s c s0 s2 s4 s10)]),(1,[.yes]),(5,[.yes,.yes,.cells ((Po.cells (u0 s4.points s10.toNat)))]),(11,[.yes]),(5,[.yes]),(2,[.yes]),(4,[.fc]),(1,[.fres (Sa.av (s15))]),(2,[.fc]),(2,[.fc,.yes,.yes,.yes,.yes,.yes,.yes])]) (raw:=(AV.tu [(AV.ag [(AV.i s15.blocks),(AV.i s15.gen),(exs s15.map),(AV.sl s15.points.length (s15.points.flatMap Po.cells)),(AV.i s15.last),(bys s15.staged)]),(AV.i 111)])) kq (ac (d8 (s) _ h0).any0 (ac h1 (ac (z03 (c) _ h2).any0 (ac h3 (ac (t7 (s) _ h4) (ac h5 (ac h6 (ac h7 (ac h8 (ac h9 (ac (show x5 Try.prog cf (lp Try.prog 98 0) (zdc s c s0 s2 s4) (z4s s c s0 s2 s4 s10) from (x5.of (zax s c s0 s2 s4) (x0 [] [] kq (.consn kq (.rf rfl) (.consn kq (.fn (.cons (.pt rfl) .nil)) (.consn kq (.eqv tq rfl) (.consn kq (.eqv tq rfl) .nil)))) (.cons (.old rfl rfl (.cells (.pl rfl pq))) (.cons (.old rfl rfl (.cells (.cons (.eqv tq rfl) (.cons (.eqv tq rfl) (.cons (.rf rfl) (.cons (.rf rfl) (.cons (.eqv tq rfl) (.cons (.rf rfl) .nil)))))))) (.cons (.old rfl rfl (.cells (.pl rfl (by simp)))) (.cons (.old rfl rfl (.cells (.pl rfl (by simp)))) (.cons (.old rfl rfl (.cells (.pl rfl (by simp)))) (.cons (.old rfl rfl (.cells (.cons (.eqv tq rfl) (.cons (.eqv tq rfl) (.cons .nl0 (.cons .nl0 (.cons (.eqv tq rfl) (.cons .nl0 .nil)))))))) (.cons (.old rfl rfl (.cells (.pl rfl pq))) (.cons (.old rfl rfl (.cells (.pl rfl pq))) .nil))))))))) h10)) (ac h11 (ac h12 (ac (fq (p:=((((0:Nat)+(s10.toNat*3))+(3:Nat))≤(List.length (s4.points.flatMap Po.cells))))) (ac (show (List.take 3 (List.drop ((0:Nat)+(s10.toNat*3)) (s4.points.flatMap Po.cells)))=(Po.cells (u0 s4.points s10.toNat)) from (z1d bq bq)) (ac h13 (ac h14 (ac (show z8 (rg Try.prog 29 0)=true∧x4 (Region.before (rg Try.prog 29 0)) [] 0 [(some [],some [7]),(some [],some []),(some [1],some []),(some [7],some []),(some [1],some []),(none,none),(some [],some [])]=true from (y9 z0d z0e kq)) (ac (t7 (s) _ h15) (ac (fq (p:=(((0:Nat)=(0:Nat))∧((List.length (s15.map.flatMap Ex.cells))=(s15.map.length*5))))) (ac (pq (p:=Pl false ((s15.map.flatMap Ex.cells)))) (ac (fq (p:=(((0:Nat)=(0:Nat))∧((List.length (s15.points.flatMap Po.cells))=(s15.points.length*3))))) (ac (pq (p:=Pl false ((s15.points.flatMap Po.cells)))) (ac (tq (p:=(((0:Nat)=(0:Nat))∧((List.length (List.map AV.y s15.staged))=(s15.staged.length*1))))) (ac (pq (p:=Pl false ((List.map AV.y s15.staged)))) an))))))))))))))))))))))))) tq) fun h14 h14p=> w7 fun h15=> w7 fun h16=> w7 fun h17=> w7 fun h18=> w7 fun h19=> by intro e;injection e with e;subst e;exact x6 z9 (k:=300) (r:=[]) (hs:=hz [(5,[.fc]),(1,[.fres (.i (s0))]),(2,[.no]),(1,[.fc]),(1,[.fres (.b (s2))]),(2,[.no]),(1,[.fc]),(1,[.fres (Sa.av (s4))]),(2,[.fc]),(17,[.no,.no,.no,.no,.yes]),(1,[.fc]),(14,[.head (z4s s c s0 s2 s4 s10)]),(1,[.yes]),(5,[.yes,.yes,.cells ((Po.cells (u0 s4.points s10.toNat)))]),(11,[.yes]),(5,[.no]),(10,[.yes,.yes,.yes,.yes,.cells ((List.flatMap Po.cells ((List.take s10.toNat s4.points)++(List.drop (s10.toNat+(1:Nat)) s4.points))))]),(3,[.fc]),(2,[.yes]),(4,[.fc]),(1,[.fc]),(2,[.fc,.yes,.yes,.yes,.yes,.yes,.yes])]) (raw:=(AV.tu [(AV.ag [(AV.i s4.blocks),(AV.i s4.gen),(exs s4.map),(AV.sl (s4.points.length - (1:Nat)) (List.flatMap Po.cells ((List.take s10.toNat s4.points)++(List.drop (s10.toNat+(1:Nat)) s4.points)))),(AV.i s4.last),(bys s4.staged)]),(AV.i 0)])) kq (ac (d8 (s) _ h0).any0 (ac h1 (ac (z03 (c) _ h2).any0 (ac h3 (ac (t7 (s) _ h4) (ac h5 (ac h6 (ac h7 (ac h8 (ac h9 (ac (show x5 Try.prog cf (lp Try.prog 98 0) (zdc s c s0 s2 s4) (z4s s c s0 s2 s4 s10) from (x5.of (zax s c s0 s2 s4) (x0 [] [] kq (.consn kq (.rf rfl) (.consn kq (.fn (.cons (.pt rfl) .nil)) (.consn kq (.eqv tq rfl) (.consn kq (.eqv tq rfl) .nil)))) (.cons (.old rfl rfl (.cells (.pl rfl pq))) (.cons (.old rfl rfl (.cells (.cons (.eqv tq rfl) (.cons (.eqv tq rfl) (.cons (.rf rfl) (.cons (.rf rfl) (.cons (.eqv tq rfl) (.cons (.rf rfl) .nil)))))))) (.cons (.old rfl rfl (.cells (.pl rfl (by simp)))) (.cons (.old rfl rfl (.cells (.pl rfl (by simp)))) (.cons (.old rfl rfl (.cells (.pl rfl (by simp)))) (.cons (.old rfl rfl (.cells (.cons (.eqv tq rfl) (.cons (.eqv tq rfl) (.cons .nl0 (.cons .nl0 (.cons (.eqv tq rfl) (.cons .nl0 .nil)))))))) (.cons (.old rfl rfl (.cells (.pl rfl pq))) (.cons (.old rfl rfl (.cells (.pl rfl pq))) .nil))))))))) h10)) (ac h11 (ac h12 (ac (fq (p:=((((0:Nat)+(s10.toNat*3))+(3:Nat))≤(List.length (s4.points.flatMap Po.cells))))) (ac (show (List.take 3 (List.drop ((0:Nat)+(s10.toNat*3)) (s4.points.flatMap Po.cells)))=(Po.cells (u0 s4.points s10.toNat)) from (z1d bq bq)) (ac h13 (ac h14 (ac h15 (ac h16 (ac h12 (ac h17 (ac (show delC 3 (s10.toNat) ((s4.points.flatMap Po.cells))=(List.flatMap Po.cells ((List.take s10.toNat s4.points)++(List.drop (s10.toNat+(1:Nat)) s4.points))) from (ztb _ _)) (ac (show z8 (rg Try.prog 29 0)=true∧x4 (Region.before (rg Try.prog 29 0)) [] 0 [(some [],some [7]),(some [],some []),(some [1],some []),(some [7],some []),(some [1],some []),(none,none),(some [],some [])]=true from (y9 z0d z0e kq)) (ac h18 (ac (pq (p:=Pl false ((s4.map.flatMap Ex.cells)))) (ac h19 (ac (pq (p:=Pl false ((List.flatMap Po.cells ((List.take s10.toNat s4.points)++(List.drop (s10.toNat+(1:Nat)) s4.points)))))) (ac (tq (p:=(((0:Nat)=(0:Nat))∧((List.length (List.map AV.y s4.staged))=(s4.staged.length*1))))) (ac (pq (p:=Pl false ((List.map AV.y s4.staged)))) an))))))))))))))))))))))))))))) tq) fun h13 h13p=> v9) fun h11 h11p=> w9 fun s12 h12=> w7 fun h13=> by intro e;injection e with e;subst e;exact x6 z9 (k:=300) (r:=[]) (hs:=hz [(5,[.fc]),(1,[.fres (.i (s0))]),(2,[.no]),(1,[.fc]),(1,[.fres (.b (s2))]),(2,[.no]),(1,[.fc]),(1,[.fres (Sa.av (s4))]),(2,[.fc]),(17,[.no,.no,.no,.no,.yes]),(1,[.fc]),(14,[.head (z4s s c s0 s2 s4 s10)]),(1,[.no]),(7,[.yes]),(4,[.fc]),(1,[.fres (Sa.av (s12))]),(2,[.fc]),(2,[.fc,.yes,.yes,.yes,.yes,.yes,.yes])]) (raw:=(AV.tu [(AV.ag [(AV.i s12.blocks),(AV.i s12.gen),(exs s12.map),(AV.sl s12.points.length (s12.points.flatMap Po.cells)),(AV.i s12.last),(bys s12.staged)]),(AV.i 111)])) kq (ac (d8 (s) _ h0).any0 (ac h1 (ac (z03 (c) _ h2).any0 (ac h3 (ac (t7 (s) _ h4) (ac h5 (ac h6 (ac h7 (ac h8 (ac h9 (ac (show x5 Try.prog cf (lp Try.prog 98 0) (zdc s c s0 s2 s4) (z4s s c s0 s2 s4 s10) from (x5.of (zax s c s0 s2 s4) (x0 [] [] kq (.consn kq (.rf rfl) (.consn kq (.fn (.cons (.pt rfl) .nil)) (.consn kq (.eqv tq rfl) (.consn kq (.eqv tq rfl) .nil)))) (.cons (.old rfl rfl (.cells (.pl rfl pq))) (.cons (.old rfl rfl (.cells (.cons (.eqv tq rfl) (.cons (.eqv tq rfl) (.cons (.rf rfl) (.cons (.rf rfl) (.cons (.eqv tq rfl) (.cons (.rf rfl) .nil)))))))) (.cons (.old rfl rfl (.cells (.pl rfl (by simp)))) (.cons (.old rfl rfl (.cells (.pl rfl (by simp)))) (.cons (.old rfl rfl (.cells (.pl rfl (by simp)))) (.cons (.old rfl rfl (.cells (.cons (.eqv tq rfl) (.cons (.eqv tq rfl) (.cons .nl0 (.cons .nl0 (.cons (.eqv tq rfl) (.cons .nl0 .nil)))))))) (.cons (.old rfl rfl (.cells (.pl rfl pq))) (.cons (.old rfl rfl (.cells (.pl rfl pq))) .nil))))))))) h10)) (ac h11 (ac (show z8 (rg Try.prog 29 0)=true∧x4 (Region.before (rg Try.prog 29 0)) [] 0 [(some [],some [7]),(some [],some []),(some [1],some []),(some [7],some []),(some [1],some []),(none,none),(some [],some [])]=true from (y9 z0d z0e kq)) (ac (t7 (s) _ h12) (ac h13 (ac (pq (p:=Pl false ((s12.map.flatMap Ex.cells)))) (ac (fq (p:=(((0:Nat)=(0:Nat))∧((List.length (s12.points.flatMap Po.cells))=(s12.points.length*3))))) (ac (pq (p:=Pl false ((s12.points.flatMap Po.cells)))) (ac (tq (p:=(((0:Nat)=(0:Nat))∧((List.length (List.map AV.y s12.staged))=(s12.staged.length*1))))) (ac (pq (p:=Pl false ((List.map AV.y s12.staged)))) an)))))))))))))))))))) tq) fun h9 h9p=> tbD (fun h10 h10p=> tbD (fun h11 h11p=> w9 fun s12 h12=> w7 fun h13=> by intro e;injection e with e;subst e;exact x6 z9 (k:=300) (r:=[]) (hs:=hz [(5,[.fc]),(1,[.fres (.i (s0))]),(2,[.no]),(1,[.fc]),(1,[.fres (.b (s2))]),(2,[.no]),(1,[.fc]),(1,[.fres (Sa.av (s4))]),(2,[.fc]),(17,[.no,.no,.no,.no,.no,.yes]),(1,[.fc]),(15,[.yes,.yes]),(2,[.yes]),(4,[.fc]),(1,[.fres (Sa.av (s12))]),(2,[.fc]),(2,[.fc,.yes,.yes,.yes,.yes,.yes,.yes])]) (raw:=(AV.tu [(AV.ag [(AV.i s12.blocks),(AV.i s12.gen),(exs s12.map),(AV.sl s12.points.length (s12.points.flatMap Po.cells)),(AV.i s12.last),(bys s12.staged)]),(AV.i 113)])) kq (ac (d8 (s) _ h0).any0 (ac h1 (ac (z03 (c) _ h2).any0 (ac h3 (ac (t7 (s) _ h4) (ac h5 (ac h6 (ac h7 (ac h8 (ac h9 (ac h10 (ac (show z8 (rg Try.prog 80 0)=true∧x4 (Region.before (rg Try.prog 80 0)) [] 0 [(some [],some []),(some [8],some []),(some [],some []),(some [],some []),(some [],some []),(some [],some []),(some [6],some []),(some [],some []),(some [],some []),(some [],some [])]=true from (y9 zjx zk9 kq)) (ac h11 (ac (show z8 (rg Try.prog 29 0)=true∧x4 (Region.before (rg Try.prog 29 0)) [] 0 [(some [],some [7]),(some [],some []),(some [1],some []),(some [7],some []),(some [1],some []),(none,none),(some [],some [])]=true from (y9 z0d z0e kq)) (ac (t7 (s) _ h12) (ac h13 (ac (pq (p:=Pl false ((s12.map.flatMap Ex.cells)))) (ac (fq (p:=(((0:Nat)=(0:Nat))∧((List.length (s12.points.flatMap Po.cells))=(s12.points.length*3))))) (ac (pq (p:=Pl false ((s12.points.flatMap Po.cells)))) (ac (tq (p:=(((0:Nat)=(0:Nat))∧((List.length (List.map AV.y s12.staged))=(s12.staged.length*1))))) (ac (pq (p:=Pl false ((List.map AV.y s12.staged)))) an))))))))))))))))))))) tq) fun h11 h11p=> w7 fun h12=> w7 fun h13=> by intro e;injection e with e;subst e;exact x6 z9 (k:=300) (r:=[]) (hs:=hz [(5,[.fc]),(1,[.fres (.i (s0))]),(2,[.no]),(1,[.fc]),(1,[.fres (.b (s2))]),(2,[.no]),(1,[.fc]),(1,[.fres (Sa.av (s4))]),(2,[.fc]),(17,[.no,.no,.no,.no,.no,.yes]),(1,[.fc]),(15,[.yes,.no]),(9,[.yes,.yes]),(3,[.fc,.yes]),(2,[.yes]),(4,[.fc]),(1,[.fc]),(2,[.fc,.yes,.yes,.yes,.yes,.yes,.yes])]) (raw:=(AV.tu [(AV.ag [(AV.i s4.blocks),(AV.i s4.gen),(exs s4.map),(AV.sl s4.points.length (s4.points.flatMap Po.cells)),(AV.i s4.last),(AV.sl (s4.staged.length+c.d.length) ((List.map AV.y s4.staged)++(List.map AV.y c.d)))]),(AV.i 0)])) kq (ac (d8 (s) _ h0).any0 (ac h1 (ac (z03 (c) _ h2).any0 (ac h3 (ac (t7 (s) _ h4) (ac h5 (ac h6 (ac h7 (ac h8 (ac h9 (ac h10 (ac (show z8 (rg Try.prog 80 0)=true∧x4 (Region.before (rg Try.prog 80 0)) [] 0 [(some [],some []),(some [8],some []),(some [],some []),(some [],some []),(some [],some []),(some [],some []),(some [6],some []),(some [],some []),(some [],some []),(some [],some [])]=true from (y9 zjx zk9 kq)) (ac h11 (ac (tq (p:=((List.length (List.map AV.y c.d))=(c.d.length*1)))) (ac h12 (ac (show z8 (rg Try.prog 80 1)=true∧x4 (Region.before (rg Try.prog 80 1)) [] 0 [(some [],some []),(some [],some []),(some [],some []),(some [],some []),(some [6],some []),(some [],some []),(some [8],some []),(some [5],some [5,9]),(some [],some []),(some [],some []),(some [6],some [6])]=true from (y9 zqw zqr kq)) (ac (show z8 (rg Try.prog 29 0)=true∧x4 (Region.before (rg Try.prog 29 0)) [] 0 [(some [],some [7]),(some [],some []),(some [1],some []),(some [7],some []),(some [1],some []),(none,none),(some [],some [])]=true from (y9 z0d z0e kq)) (ac h13 (ac (pq (p:=Pl false ((s4.map.flatMap Ex.cells)))) (ac (fq (p:=(((0:Nat)=(0:Nat))∧((List.length (s4.points.flatMap Po.cells))=(s4.points.length*3))))) (ac (pq (p:=Pl false ((s4.points.flatMap Po.cells)))) (ac (tq (p:=(((0:Nat)=(0:Nat))∧((List.length ((List.map AV.y s4.staged)++(List.map AV.y c.d)))=((s4.staged.length+c.d.length)*1))))) (ac (pq (p:=Pl false (((List.map AV.y s4.staged)++(List.map AV.y c.d))))) an))))))))))))))))))))))) tq) fun h10 h10p=> tbD (fun h11 h11p=> w7 fun h12=> by intro e;injection e with e;subst e;exact x6 z9 (k:=300) (r:=[]) (hs:=hz [(5,[.fc]),(1,[.fres (.i (s0))]),(2,[.no]),(1,[.fc]),(1,[.fres (.b (s2))]),(2,[.no]),(1,[.fc]),(1,[.fres (Sa.av (s4))]),(2,[.fc]),(17,[.no,.no,.no,.no,.no,.no,.yes]),(1,[.fc]),(7,[.fc]),(2,[.yes]),(4,[.fc]),(1,[.fc]),(2,[.fc,.yes,.yes,.yes,.yes])]) (raw:=(AV.tu [(AV.ag [(AV.i s4.blocks),(AV.i s4.gen),(exs s4.map),(AV.sl s4.points.length (s4.points.flatMap Po.cells)),(AV.i s4.last),(AV.sl 0 ([]:List AV))]),(AV.i 0)])) kq (ac (d8 (s) _ h0).any0 (ac h1 (ac (z03 (c) _ h2).any0 (ac h3 (ac (t7 (s) _ h4) (ac h5 (ac h6 (ac h7 (ac h8 (ac h9 (ac h10 (ac h11 (ac (show z8 (rg Try.prog 29 0)=true∧x4 (Region.before (rg Try.prog 29 0)) [] 0 [(some [],some [7]),(some [],some []),(some [1],some []),(some [7],some []),(some [1],some []),(none,none),(some [],some [])]=true from (y9 z0d z0e kq)) (ac h12 (ac (pq (p:=Pl false ((s4.map.flatMap Ex.cells)))) (ac (fq (p:=(((0:Nat)=(0:Nat))∧((List.length (s4.points.flatMap Po.cells))=(s4.points.length*3))))) (ac (pq (p:=Pl false ((s4.points.flatMap Po.cells)))) an))))))))))))))))) tq) fun h11 h11p=> tbD (fun h12 h12p=> w9 fun s13 h13=> z0w fun s14 h14=> tbD (fun h15 h15p=> v9) fun h15 h15p=> w7 fun h16=> w7 fun h17=> w9 fun s18 h18=> tbE (fun h19 h19p=> tbD (fun h20 h20p=> w9 fun s21 h21=> by intro e;injection e with e;subst e;exact x6 z9 (k:=300) (r:=[]) (hs:=hz [(5,[.fc]),(1,[.fres (.i (s0))]),(2,[.no]),(1,[.fc]),(1,[.fres (.b (s2))]),(2,[.no]),(1,[.fc]),(1,[.fres (Sa.av (s4))]),(2,[.fc]),(17,[.no,.no,.no,.no,.no,.no,.no,.yes]),(1,[.fc]),(11,[.fres (exs (s13))]),(4,[.head (z29 s c s0 s2 s4 s13 s14)]),(1,[.no]),(12,[.yes,.yes,.yes,.yes,.fres (.tu [exs (s18.1),.i (s18.2)])]),(5,[.yes]),(2,[.yes]),(5,[.fc]),(5,[.no]),(2,[.fc]),(13,[.yes,.yes]),(8,[.yes]),(4,[.fc]),(1,[.fres (Sa.av (s21))]),(2,[.fc]),(2,[.fc,.yes,.yes,.yes,.yes,.yes,.yes])]) (raw:=(AV.tu [(AV.ag [(AV.i s21.blocks),(AV.i s21.gen),(exs s21.map),(AV.sl s21.points.length (s21.points.flatMap Po.cells)),(AV.i s21.last),(bys s21.staged)]),(AV.i 112)])) kq (ac (d8 (s) _ h0).any0 (ac h1 (ac (z03 (c) _ h2).any0 (ac h3 (ac (t7 (s) _ h4) (ac h5 (ac h6 (ac h7 (ac h8 (ac h9 (ac h10 (ac h11 (ac h12 (ac (z07 (c.list) _ h13) (ac (show x5 Try.prog cf (lp Try.prog 97 0) (z7s s c s0 s2 s4 s13) (z29 s c s0 s2 s4 s13 s14) from (x5.of (z6g s c s0 s2 s4 s13) (x0 [] [] kq (.consn kq (.pt rfl) (.consn kq (.rf rfl) (.consn kq (.eqv tq rfl) (.consn kq (.eqv tq rfl) .nil)))) (.cons (.old rfl rfl (.cells (.pl tq pq))) (.cons (.old rfl rfl (.cells (.pl rfl pq))) (.cons (.old rfl rfl (.cells (.cons (.eqv tq rfl) (.cons (.eqv tq rfl) (.cons (.rf rfl) (.cons (.rf rfl) (.cons (.eqv tq rfl) (.cons (.rf rfl) .nil)))))))) (.cons (.old rfl rfl (.cells (.pl rfl (by simp)))) (.cons (.old rfl rfl (.cells (.pl rfl (by simp)))) (.cons (.old rfl rfl (.cells (.pl rfl (by simp)))) (.cons (.old rfl rfl (.cells (.cons (.eqv tq rfl) (.cons (.eqv tq rfl) (.cons .nl0 (.cons .nl0 (.cons (.eqv tq rfl) (.cons .nl0 .nil)))))))) (.cons (.old rfl rfl (.cells (.pl rfl pq))) (.cons (.old rfl rfl (.cells (.pl rfl pq))) .nil)))))))))) h14)) (ac h15 (ac h16 (ac (pq (p:=Pl false ((s4.map.flatMap Ex.cells)))) (ac h17 (ac (pq (p:=Pl false ((s14.2.flatMap Ex.cells)))) (ac (show z0n Try.prog cf false 105 [(AV.i s4.blocks),(exs s4.map),(AV.sl s13.length (s14.2.flatMap Ex.cells))] (.tu [exs (s18.1),.i (s18.2)]) from ((z3y (s4.blocks) (s4.map) (s14.2) _ h18).cast tq)) (ac (show z8 (rg Try.prog 97 0)=true∧x4 (Region.before (rg Try.prog 97 0)) [] 0 [(some [],some []),(some [],some []),(some [],some []),(some [6],some []),(some [],some []),(some [],some []),(some [],some []),(some [6],some []),(some [],some []),(some [3,9],some [3,9]),(some [],some []),(some [],some []),(some [],some []),(some [],some []),(some [],some [])]=true from (y9 z2j z2n kq)) (ac h19 (ac (congrArg not h19) (ac (show z8 (rg Try.prog 78 0)=true∧x4 (Region.before (rg Try.prog 78 0)) [] 0 [(some [],some []),(some [10],some []),(some [],some []),(some [],some []),(some [],some []),(some [6],some []),(some [],some []),(some [],some [])]=true from (y9 z4u z4r kq)) (ac h20 (ac (show z8 (rg Try.prog 29 0)=true∧x4 (Region.before (rg Try.prog 29 0)) [] 0 [(some [],some [7]),(some [],some []),(some [1],some []),(some [7],some []),(some [1],some []),(none,none),(some [],some [])]=true from (y9 z0d z0e kq)) (ac (t7 (s) _ h21) (ac (fq (p:=(((0:Nat)=(0:Nat))∧((List.length (s21.map.flatMap Ex.cells))=(s21.map.length*5))))) (ac (pq (p:=Pl false ((s21.map.flatMap Ex.cells)))) (ac (fq (p:=(((0:Nat)=(0:Nat))∧((List.length (s21.points.flatMap Po.cells))=(s21.points.length*3))))) (ac (pq (p:=Pl false ((s21.points.flatMap Po.cells)))) (ac (tq (p:=(((0:Nat)=(0:Nat))∧((List.length (List.map AV.y s21.staged))=(s21.staged.length*1))))) (ac (pq (p:=Pl false ((List.map AV.y s21.staged)))) an)))))))))))))))))))))))))))))))))) tq) fun h20 h20p=> tbE (fun h21 h21p=> w9 fun s22 h22=> by intro e;injection e with e;subst e;exact x6 z9 (k:=300) (r:=[]) (hs:=hz [(5,[.fc]),(1,[.fres (.i (s0))]),(2,[.no]),(1,[.fc]),(1,[.fres (.b (s2))]),(2,[.no]),(1,[.fc]),(1,[.fres (Sa.av (s4))]),(2,[.fc]),(17,[.no,.no,.no,.no,.no,.no,.no,.yes]),(1,[.fc]),(11,[.fres (exs (s13))]),(4,[.head (z29 s c s0 s2 s4 s13 s14)]),(1,[.no]),(12,[.yes,.yes,.yes,.yes,.fres (.tu [exs (s18.1),.i (s18.2)])]),(5,[.yes]),(2,[.yes]),(5,[.fc]),(5,[.no]),(2,[.fc]),(13,[.yes,.no]),(8,[.yes,.yes,.yes,.yes,.yes,.yes]),(10,[.yes]),(4,[.fc]),(1,[.fres (Sa.av (s22))]),(2,[.fc]),(2,[.fc,.yes,.yes,.yes,.yes,.yes,.yes])]) (raw:=(AV.tu [(AV.ag [(AV.i s22.blocks),(AV.i s22.gen),(exs s22.map),(AV.sl s22.points.length (s22.points.flatMap Po.cells)),(AV.i s22.last),(bys s22.staged)]),(AV.i 113)])) kq (ac (d8 (s) _ h0).any0 (ac h1 (ac (z03 (c) _ h2).any0 (ac h3 (ac (t7 (s) _ h4) (ac h5 (ac h6 (ac h7 (ac h8 (ac h9 (ac h10 (ac h11 (ac h12 (ac (z07 (c.list) _ h13) (ac (show x5 Try.prog cf (lp Try.prog 97 0) (z7s s c s0 s2 s4 s13) (z29 s c s0 s2 s4 s13 s14) from (x5.of (z6g s c s0 s2 s4 s13) (x0 [] [] kq (.consn kq (.pt rfl) (.consn kq (.rf rfl) (.consn kq (.eqv tq rfl) (.consn kq (.eqv tq rfl) .nil)))) (.cons (.old rfl rfl (.cells (.pl tq pq))) (.cons (.old rfl rfl (.cells (.pl rfl pq))) (.cons (.old rfl rfl (.cells (.cons (.eqv tq rfl) (.cons (.eqv tq rfl) (.cons (.rf rfl) (.cons (.rf rfl) (.cons (.eqv tq rfl) (.cons (.rf rfl) .nil)))))))) (.cons (.old rfl rfl (.cells (.pl rfl (by simp)))) (.cons (.old rfl rfl (.cells (.pl rfl (by simp)))) (.cons (.old rfl rfl (.cells (.pl rfl (by simp)))) (.cons (.old rfl rfl (.cells (.cons (.eqv tq rfl) (.cons (.eqv tq rfl) (.cons .nl0 (.cons .nl0 (.cons (.eqv tq rfl) (.cons .nl0 .nil)))))))) (.cons (.old rfl rfl (.cells (.pl rfl pq))) (.cons (.old rfl rfl (.cells (.pl rfl pq))) .nil)))))))))) h14)) (ac h15 (ac h16 (ac (pq (p:=Pl false ((s4.map.flatMap Ex.cells)))) (ac h17 (ac (pq (p:=Pl false ((s14.2.flatMap Ex.cells)))) (ac (show z0n Try.prog cf false 105 [(AV.i s4.blocks),(exs s4.map),(AV.sl s13.length (s14.2.flatMap Ex.cells))] (.tu [exs (s18.1),.i (s18.2)]) from ((z3y (s4.blocks) (s4.map) (s14.2) _ h18).cast tq)) (ac (show z8 (rg Try.prog 97 0)=true∧x4 (Region.before (rg Try.prog 97 0)) [] 0 [(some [],some []),(some [],some []),(some [],some []),(some [6],some []),(some [],some []),(some [],some []),(some [],some []),(some [6],some []),(some [],some []),(some [3,9],some [3,9]),(some [],some []),(some [],some []),(some [],some []),(some [],some []),(some [],some [])]=true from (y9 z2j z2n kq)) (ac h19 (ac (congrArg not h19) (ac (show z8 (rg Try.prog 78 0)=true∧x4 (Region.before (rg Try.prog 78 0)) [] 0 [(some [],some []),(some [10],some []),(some [],some []),(some [],some []),(some [],some []),(some [6],some []),(some [],some []),(some [],some [])]=true from (y9 z4u z4r kq)) (ac h20 (ac h21 (ac h21 (ac h21 (ac h21 (ac h21 (ac h21 (ac (show z8 (rg Try.prog 29 0)=true∧x4 (Region.before (rg Try.prog 29 0)) [] 0 [(some [],some [7]),(some [],some []),(some [1],some []),(some [7],some []),(some [1],some []),(none,none),(some [],some [])]=true from (y9 z0d z0e kq)) (ac (t7 (s) _ h22) (ac (fq (p:=(((0:Nat)=(0:Nat))∧((List.length (s22.map.flatMap Ex.cells))=(s22.map.length*5))))) (ac (pq (p:=Pl false ((s22.map.flatMap Ex.cells)))) (ac (fq (p:=(((0:Nat)=(0:Nat))∧((List.length (s22.points.flatMap Po.cells))=(s22.points.length*3))))) (ac (pq (p:=Pl false ((s22.points.flatMap Po.cells)))) (ac (tq (p:=(((0:Nat)=(0:Nat))∧((List.length (List.map AV.y s22.staged))=(s22.staged.length*1))))) (ac (pq (p:=Pl false ((List.map AV.y s22.staged)))) an)))))))))))))))))))))))))))))))))))))))) tq) fun h21 h21p=> tbE (fun h22 h22p=> w9 fun s23 h23=> by intro e;injection e with e;subst e;exact x6 z9 (k:=300) (r:=[]) (hs:=hz [(5,[.fc]),(1,[.fres (.i (s0))]),(2,[.no]),(1,[.fc]),(1,[.fres (.b (s2))]),(2,[.no]),(1,[.fc]),(1,[.fres (Sa.av (s4))]),(2,[.fc]),(17,[.no,.no,.no,.no,.no,.no,.no,.yes]),(1,[.fc]),(11,[.fres (exs (s13))]),(4,[.head (z29 s c s0 s2 s4 s13 s14)]),(1,[.no]),(12,[.yes,.yes,.yes,.yes,.fres (.tu [exs (s18.1),.i (s18.2)])]),(5,[.yes]),(2,[.yes]),(5,[.fc]),(5,[.no]),(2,[.fc]),(13,[.yes,.no]),(8,[.no]),(1,[.no]),(1,[.no]),(1,[.no]),(2,[.no]),(1,[.no]),(1,[.yes]),(8,[.yes]),(4,[.fc]),(1,[.fres (Sa.av (s23))]),(2,[.fc]),(2,[.fc,.yes,.yes,.yes,.yes,.yes,.yes])]) (raw:=(AV.tu [(AV.ag [(AV.i s23.blocks),(AV.i s23.gen),(exs s23.map),(AV.sl s23.points.length (s23.points.flatMap Po.cells)),(AV.i s23.last),(bys s23.staged)]),(AV.i 113)])) kq (ac (d8 (s) _ h0).any0 (ac h1 (ac (z03 (c) _ h2).any0 (ac h3 (ac (t7 (s) _ h4) (ac h5 (ac h6 (ac h7 (ac h8 (ac h9 (ac h10 (ac h11 (ac h12 (ac (z07 (c.list) _ h13) (ac (show x5 Try.prog cf (lp Try.prog 97 0) (z7s s c s0 s2 s4 s13) (z29 s c s0 s2 s4 s13 s14) from (x5.of (z6g s c s0 s2 s4 s13) (x0 [] [] kq (.consn kq (.pt rfl) (.consn kq (.rf rfl) (.consn kq (.eqv tq rfl) (.consn kq (.eqv tq rfl) .nil)))) (.cons (.old rfl rfl (.cells (.pl tq pq))) (.cons (.old rfl rfl (.cells (.pl rfl pq))) (.cons (.old rfl rfl (.cells (.cons (.eqv tq rfl) (.cons (.eqv tq rfl) (.cons (.rf rfl) (.cons (.rf rfl) (.cons (.eqv tq rfl) (.cons (.rf rfl) .nil)))))))) (.cons (.old rfl rfl (.cells (.pl rfl (by simp)))) (.cons (.old rfl rfl (.cells (.pl rfl (by simp)))) (.cons (.old rfl rfl (.cells (.pl rfl (by simp)))) (.cons (.old rfl rfl (.cells (.cons (.eqv tq rfl) (.cons (.eqv tq rfl) (.cons .nl0 (.cons .nl0 (.cons (.eqv tq rfl) (.cons .nl0 .nil)))))))) (.cons (.old rfl rfl (.cells (.pl rfl pq))) (.cons (.old rfl rfl (.cells (.pl rfl pq))) .nil)))))))))) h14)) (ac h15 (ac h16 (ac (pq (p:=Pl false ((s4.map.flatMap Ex.cells)))) (ac h17 (ac (pq (p:=Pl false ((s14.2.flatMap Ex.cells)))) (ac (show z0n Try.prog cf false 105 [(AV.i s4.blocks),(exs s4.map),(AV.sl s13.length (s14.2.flatMap Ex.cells))] (.tu [exs (s18.1),.i (s18.2)]) from ((z3y (s4.blocks) (s4.map) (s14.2) _ h18).cast tq)) (ac (show z8 (rg Try.prog 97 0)=true∧x4 (Region.before (rg Try.prog 97 0)) [] 0 [(some [],some []),(some [],some []),(some [],some []),(some [6],some []),(some [],some []),(some [],some []),(some [],some []),(some [6],some []),(some [],some []),(some [3,9],some [3,9]),(some [],some []),(some [],some []),(some [],some []),(some [],some []),(some [],some [])]=true from (y9 z2j z2n kq)) (ac h19 (ac (congrArg not h19) (ac (show z8 (rg Try.prog 78 0)=true∧x4 (Region.before (rg Try.prog 78 0)) [] 0 [(some [],some []),(some [10],some []),(some [],some []),(some [],some []),(some [],some []),(some [6],some []),(some [],some []),(some [],some [])]=true from (y9 z4u z4r kq)) (ac h20 (ac h21 (ac h21 (ac h21 (ac h21 (ac h21 (ac h21 (ac h22 (ac (show z8 (rg Try.prog 29 0)=true∧x4 (Region.before (rg Try.prog 29 0)) [] 0 [(some [],some [7]),(some [],some []),(some [1],some []),(some [7],some []),(some [1],some []),(none,none),(some [],some [])]=true from (y9 z0d z0e kq)) (ac (t7 (s) _ h23) (ac (fq (p:=(((0:Nat)=(0:Nat))∧((List.length (s23.map.flatMap Ex.cells))=(s23.map.length*5))))) (ac (pq (p:=Pl false ((s23.map.flatMap Ex.cells)))) (ac (fq (p:=(((0:Nat)=(0:Nat))∧((List.length (s23.points.flatMap Po.cells))=(s23.points.length*3))))) (ac (pq (p:=Pl false ((s23.points.flatMap Po.cells)))) (ac (tq (p:=(((0:Nat)=(0:Nat))∧((List.length (List.map AV.y s23.staged))=(s23.staged.length*1))))) (ac (pq (p:=Pl false ((List.map AV.y s23.staged)))) an))))))))))))))))))))))))))))))))))))))))) tq) fun h22 h22p=> w9 fun s23 h23=> w7 fun h24=> w7 fun h25=> by intro e;injection e with e;subst e;exact x6 z9 (k:=300) (r:=[]) (hs:=hz [(5,[.fc]),(1,[.fres (.i (s0))]),(2,[.no]),(1,[.fc]),(1,[.fres (.b (s2))]),(2,[.no]),(1,[.fc]),(1,[.fres (Sa.av (s4))]),(2,[.fc]),(17,[.no,.no,.no,.no,.no,.no,.no,.yes]),(1,[.fc]),(11,[.fres (exs (s13))]),(4,[.head (z29 s c s0 s2 s4 s13 s14)]),(1,[.no]),(12,[.yes,.yes,.yes,.yes,.fres (.tu [exs (s18.1),.i (s18.2)])]),(5,[.yes]),(2,[.yes]),(5,[.fc]),(5,[.no]),(2,[.fc]),(13,[.yes,.no]),(8,[.no]),(1,[.no]),(1,[.no]),(1,[.no]),(2,[.no]),(1,[.no]),(1,[.no]),(20,[.fres (exs (s23))]),(2,[.fc,.fc,.yes,.yes]),(3,[.fc,.yes]),(7,[.fc]),(9,[.fc]),(7,[.fc]),(7,[.fc]),(3,[.yes]),(4,[.fc]),(1,[.fc]),(2,[.fc,.yes,.cellsb ((s4.points.flatMap Po.cells)++[(AV.i c.id),(AV.i s4.gen),(AV.sl s23.length (List.take (s23.length*5) (s23.flatMap Ex.cells)))]) [11]])]) (raw:=(AV.tu [(AV.ag [(AV.i s4.blocks),(AV.i (wr (s4.gen+(1:Int)))),(exs s18.1),(AV.sl (s4.points.length+(1:Nat)) ((s4.points.flatMap Po.cells)++[(AV.i c.id),(AV.i s4.gen),(AV.sl s23.length (List.take (s23.length*5) (s23.flatMap Ex.cells)))])),(AV.i c.id),(AV.sl 0 ([]:List AV))]),(AV.i 0)])) kq (ac (d8 (s) _ h0).any0 (ac h1 (ac (z03 (c) _ h2).any0 (ac h3 (ac (t7 (s) _ h4) (ac h5 (ac h6 (ac h7 (ac h8 (ac h9 (ac h10 (ac h11 (ac h12 (ac (z07 (c.list) _ h13) (ac (show x5 Try.prog cf (lp Try.prog 97 0) (z7s s c s0 s2 s4 s13) (z29 s c s0 s2 s4 s13 s14) from (x5.of (z6g s c s0 s2 s4 s13) (x0 [] [] kq (.consn kq (.pt rfl) (.consn kq (.rf rfl) (.consn kq (.eqv tq rfl) (.consn kq (.eqv tq rfl) .nil)))) (.cons (.old rfl rfl (.cells (.pl tq pq))) (.cons (.old rfl rfl (.cells (.pl rfl pq))) (.cons (.old rfl rfl (.cells (.cons (.eqv tq rfl) (.cons (.eqv tq rfl) (.cons (.rf rfl) (.cons (.rf rfl) (.cons (.eqv tq rfl) (.cons (.rf rfl) .nil)))))))) (.cons (.old rfl rfl (.cells (.pl rfl (by simp)))) (.cons (.old rfl rfl (.cells (.pl rfl (by simp)))) (.cons (.old rfl rfl (.cells (.pl rfl (by simp)))) (.cons (.old rfl rfl (.cells (.cons (.eqv tq rfl) (.cons (.eqv tq rfl) (.cons .nl0 (.cons .nl0 (.cons (.eqv tq rfl) (.cons .nl0 .nil)))))))) (.cons (.old rfl rfl (.cells (.pl rfl pq))) (.cons (.old rfl rfl (.cells (.pl rfl pq))) .nil)))))))))) h14)) (ac h15 (ac h16 (ac (pq (p:=Pl false ((s4.map.flatMap Ex.cells)))) (ac h17 (ac (pq (p:=Pl false ((s14.2.flatMap Ex.cells)))) (ac (show z0n Try.prog cf false 105 [(AV.i s4.blocks),(exs s4.map),(AV.sl s13.length (s14.2.flatMap Ex.cells))] (.tu [exs (s18.1),.i (s18.2)]) from ((z3y (s4.blocks) (s4.map) (s14.2) _ h18).cast tq)) (ac (show z8 (rg Try.prog 97 0)=true∧x4 (Region.before (rg Try.prog 97 0)) [] 0 [(some [],some []),(some [],some []),(some [],some []),(some [6],some []),(some [],some []),(some [],some []),(some [],some []),(some [6],some []),(some [],some []),(some [3,9],some [3,9]),(some [],some []),(some [],some []),(some [],some []),(some [],some []),(some [],some [])]=true from (y9 z2j z2n kq)) (ac h19 (ac (congrArg not h19) (ac (show z8 (rg Try.prog 78 0)=true∧x4 (Region.before (rg Try.prog 78 0)) [] 0 [(some [],some []),(some [10],some []),(some [],some []),(some [],some []),(some [],some []),(some [6],some []),(some [],some []),(some [],some [])]=true from (y9 z4u z4r kq)) (ac h20 (ac h21 (ac h21 (ac h21 (ac h21 (ac h21 (ac h21 (ac h22 (ac (z07 (s18.1) _ h23) (ac (tq (p:=(((0:Nat)=(0:Nat))∧((List.length [(AV.i c.id),(AV.i s4.gen),(AV.rf 11 5 0 s23.length)])=(3:Nat))))) (ac h24 (ac (show z8 (rg Try.prog 78 1)=true∧x4 (Region.before (rg Try.prog 78 1)) [] 0 [(some [],some []),(some [],some []),(some [],some []),(some [],some []),(some [6],some []),(some [],some []),(some [10],some []),(some [],some []),(some [],some []),(some [],some []),(some [6],some []),(some [],some []),(some [],some []),(some [],some []),(some [6],some []),(some [],some [11]),(some [],some []),(some [],some [12]),(some [4,12],some [4,13]),(some [],some []),(some [],some []),(some [6],some [6])]=true from (y9 zjh zk7 kq)) (ac (show z8 (rg Try.prog 29 0)=true∧x4 (Region.before (rg Try.prog 29 0)) [] 0 [(some [],some [7]),(some [],some []),(some [1],some []),(some [7],some []),(some [1],some []),(none,none),(some [],some [])]=true from (y9 z0d z0e kq)) (ac h25 (ac (show z05 (u9 (AH.mk 15 [(14,(AObj.cells [(AV.i c.kind),(AV.i c.lba),(AV.i c.n),(AV.i c.id),(bys c.d),(exs c.list)])),(13,(AObj.cells ((s4.points.flatMap Po.cells)++[(AV.i c.id),(AV.i s4.gen),(AV.rf 11 5 0 s23.length)]))),(12,(AObj.cells [(AV.i c.id),(AV.i s4.gen),(AV.rf 11 5 0 s23.length)])),(11,(AObj.cells (s23.flatMap Ex.cells))),(10,(AObj.cells [(AV.i c.kind),(AV.i c.lba),(AV.i c.n),(AV.i c.id),(bys c.d),(exs c.list)])),(9,(AObj.ro (s14.2.flatMap Ex.cells))),(8,(AObj.cells [(AV.i c.kind),(AV.i c.lba),(AV.i c.n),(AV.i c.id),(bys c.d),(exs c.list)])),(6,(AObj.cells [(AV.i s4.blocks),(AV.i (wr (s4.gen+(1:Int)))),(exs s18.1),(AV.rf 13 3 0 (s4.points.length+(1:Nat))),(AV.i c.id),AV.nl])),(5,(AObj.cells (List.map AV.y s4.staged))),(4,AObj.dead),(3,(AObj.ro (s4.map.flatMap Ex.cells))),(2,(AObj.cells [(AV.i s4.blocks),(AV.i (wr (s4.gen+(1:Int)))),(exs s18.1),(AV.rf 13 3 0 (s4.points.length+(1:Nat))),(AV.i c.id),AV.nl])),(1,(AObj.cells [(AV.i c.kind),(AV.i c.lba),(AV.i c.n),(AV.i c.id),(bys c.d),(exs c.list)])),(0,(AObj.cells [(AV.i s.blocks),(AV.i s.gen),(exs s.map),(AV.sl s.points.length (s.points.flatMap Po.cells)),(AV.i s.last),(bys s.staged)]))]) false 9) ((s4.points.flatMap Po.cells)++[(AV.i c.id),(AV.i s4.gen),(AV.rf 11 5 0 s23.length)])=some (((s4.points.flatMap Po.cells)++[(AV.i c.id),(AV.i s4.gen),(AV.sl s23.length (List.take (s23.length*5) (s23.flatMap Ex.cells)))]),[11]) from (zbh (x:=[]) (y:=[11]) (z4e _ _ _ _ pq) (z4a (x:=[]) (y:=[11]) (z4h rfl) (z4a (x:=[]) (y:=[11]) (z4h rfl) (z4a (x:=[11]) (y:=[]) (ziw (cs:=(s23.flatMap Ex.cells)) rfl tq pq) rfl))))) an)))))))))))))))))))))))))))))))))))))))) tq) fun h19 h19p=> w9 fun s20 h20=> by intro e;injection e with e;subst e;exact x6 z9 (k:=300) (r:=[]) (hs:=hz [(5,[.fc]),(1,[.fres (.i (s0))]),(2,[.no]),(1,[.fc]),(1,[.fres (.b (s2))]),(2,[.no]),(1,[.fc]),(1,[.fres (Sa.av (s4))]),(2,[.fc]),(17,[.no,.no,.no,.no,.no,.no,.no,.yes]),(1,[.fc]),(11,[.fres (exs (s13))]),(4,[.head (z29 s c s0 s2 s4 s13 s14)]),(1,[.no]),(12,[.yes,.yes,.yes,.yes,.fres (.tu [exs (s18.1),.i (s18.2)])]),(5,[.yes]),(2,[.no]),(5,[.yes]),(3,[.yes]),(2,[.yes]),(1,[.fc]),(1,[.fres (Sa.av (s20))]),(2,[.fc]),(2,[.fc,.yes,.yes,.yes,.yes,.yes,.yes])]) (raw:=(AV.tu [(AV.ag [(AV.i s20.blocks),(AV.i s20.gen),(exs s20.map),(AV.sl s20.points.length (s20.points.flatMap Po.cells)),(AV.i s20.last),(bys s20.staged)]),(AV.i s18.2)])) kq (ac (d8 (s) _ h0).any0 (ac h1 (ac (z03 (c) _ h2).any0 (ac h3 (ac (t7 (s) _ h4) (ac h5 (ac h6 (ac h7 (ac h8 (ac h9 (ac h10 (ac h11 (ac h12 (ac (z07 (c.list) _ h13) (ac (show x5 Try.prog cf (lp Try.prog 97 0) (z7s s c s0 s2 s4 s13) (z29 s c s0 s2 s4 s13 s14) from (x5.of (z6g s c s0 s2 s4 s13) (x0 [] [] kq (.consn kq (.pt rfl) (.consn kq (.rf rfl) (.consn kq (.eqv tq rfl) (.consn kq (.eqv tq rfl) .nil)))) (.cons (.old rfl rfl (.cells (.pl tq pq))) (.cons (.old rfl rfl (.cells (.pl rfl pq))) (.cons (.old rfl rfl (.cells (.cons (.eqv tq rfl) (.cons (.eqv tq rfl) (.cons (.rf rfl) (.cons (.rf rfl) (.cons (.eqv tq rfl) (.cons (.rf rfl) .nil)))))))) (.cons (.old rfl rfl (.cells (.pl rfl (by simp)))) (.cons (.old rfl rfl (.cells (.pl rfl (by simp)))) (.cons (.old rfl rfl (.cells (.pl rfl (by simp)))) (.cons (.old rfl rfl (.cells (.cons (.eqv tq rfl) (.cons (.eqv tq rfl) (.cons .nl0 (.cons .nl0 (.cons (.eqv tq rfl) (.cons .nl0 .nil)))))))) (.cons (.old rfl rfl (.cells (.pl rfl pq))) (.cons (.old rfl rfl (.cells (.pl rfl pq))) .nil)))))))))) h14)) (ac h15 (ac h16 (ac (pq (p:=Pl false ((s4.map.flatMap Ex.cells)))) (ac h17 (ac (pq (p:=Pl false ((s14.2.flatMap Ex.cells)))) (ac (show z0n Try.prog cf false 105 [(AV.i s4.blocks),(exs s4.map),(AV.sl s13.length (s14.2.flatMap Ex.cells))] (.tu [exs (s18.1),.i (s18.2)]) from ((z3y (s4.blocks) (s4.map) (s14.2) _ h18).cast tq)) (ac (show z8 (rg Try.prog 97 0)=true∧x4 (Region.before (rg Try.prog 97 0)) [] 0 [(some [],some []),(some [],some []),(some [],some []),(some [6],some []),(some [],some []),(some [],some []),(some [],some []),(some [6],some []),(some [],some []),(some [3,9],some [3,9]),(some [],some []),(some [],some []),(some [],some []),(some [],some []),(some [],some [])]=true from (y9 z2j z2n kq)) (ac h19 (ac (congrArg not h19) (ac (show z8 (rg Try.prog 29 0)=true∧x4 (Region.before (rg Try.prog 29 0)) [] 0 [(some [],some [7]),(some [],some []),(some [1],some []),(some [7],some []),(some [1],some []),(none,none),(some [],some [])]=true from (y9 z0d z0e kq)) (ac (congrArg not h19) (ac (t7 (s) _ h20) (ac (fq (p:=(((0:Nat)=(0:Nat))∧((List.length (s20.map.flatMap Ex.cells))=(s20.map.length*5))))) (ac (pq (p:=Pl false ((s20.map.flatMap Ex.cells)))) (ac (fq (p:=(((0:Nat)=(0:Nat))∧((List.length (s20.points.flatMap Po.cells))=(s20.points.length*3))))) (ac (pq (p:=Pl false ((s20.points.flatMap Po.cells)))) (ac (tq (p:=(((0:Nat)=(0:Nat))∧((List.length (List.map AV.y s20.staged))=(s20.staged.length*1))))) (ac (pq (p:=Pl false ((List.map AV.y s20.staged)))) an))))))))))))))))))))))))))))))))) tq) fun h12 h12p=> v9
end Ab
end Go.Proofs.Ytimcbhhebnikiaa
namespace Go.Proofs.Ytimcbhhebnikiaa
open Go Go.Proofs.Ytimcbhhebnikiaa.Ab
set_option linter.unusedVariables false
set_option linter.unusedSimpArgs false
namespace Ab
def part (d:List UInt8) (k:Nat):List UInt8:=(pad 32 d).take k++List.replicate (32 - k) 0
end Ab
end Go.Proofs.Ytimcbhhebnikiaa
namespace Go.Proofs.Ytimcbhhebnikiaa
open Go Go.Proofs.Ytimcbhhebnikiaa.Ab
set_option linter.unusedVariables false
set_option linter.unusedSimpArgs false
namespace Ab
def c0:Ce:=⟨0,0,List.replicate 32 0⟩
end Ab
end Go.Proofs.Ytimcbhhebnikiaa
namespace Go.Proofs.Ytimcbhhebnikiaa
open Go Go.Proofs.Ytimcbhhebnikiaa.Ab
set_option linter.unusedVariables false
set_option linter.unusedSimpArgs false
namespace Ab
def Ag (x y:Ex):Prop:=∀k,x.lba≤k→k < x.lba+x.len→y.lba≤k→k < y.lba+y.len→bAt x k=bAt y k
def Kp (was l:List Ex) (gen:Int):Prop:=∀x∈l,x.gen≤gen→∀y∈was,Ag x y
open Classical in
noncomputable def kp (was l:List Ex) (gen:Int):Bool:=decide (Kp was l gen)
open Classical in
theorem kp_t {was l:List Ex} {gen:Int} (h:Kp was l gen):kp was l gen=true:=by unfold kp;exact decide_eq_true h
open Classical in
theorem kp_f {was l:List Ex} {gen:Int} (h:¬Kp was l gen):kp was l gen=false:=by unfold kp;exact decide_eq_false h
theorem zvm (l:List Ex) (gen:Int):Kp [] l gen:=fun x _ _ y hy=> by cases hy
theorem zus {x y:Ex} (hx:Ck x) (h:Cu y x.lba x.len):Cu x (cu y x.lba x.len).lba (cu y x.lba x.len).len:=by
 have px:=z0r hx
 have py:=z0r h.1
 have h6:=h.2.2.2.2.2
 refine ⟨hx,?_,?_,?_,?_,?_⟩ <;> simp only [cu] <;> omega
theorem zv9 {x y:Ex} (hx:Ck x) (h:Cu y x.lba x.len):((cu x (cu y x.lba x.len).lba (cu y x.lba x.len).len).kind=(cu y x.lba x.len).kind∧(cu x (cu y x.lba x.len).lba (cu y x.lba x.len).len).gen=(cu y x.lba x.len).gen∧(cu x (cu y x.lba x.len).lba (cu y x.lba x.len).len).d=(cu y x.lba x.len).d)↔Ag x y:=by
 have hw:=zus hx h
 have px:=z0r hx
 have py:=z0r h.1
 have h6:=h.2.2.2.2.2
 have zl:(cu y x.lba x.len).lba=max y.lba x.lba:=rfl
 have zn:(cu y x.lba x.len).len=min (y.lba+y.len) (x.lba+x.len) - max y.lba x.lba:=rfl
 have cz:=zq5 h
 have bz:∀k,max y.lba x.lba≤k→k < min (y.lba+y.len) (x.lba+x.len)→bAt (cu y x.lba x.len) k=bAt y k:=fun k a b=> zhp h.1 a b
 generalize cu y x.lba x.len=z at hw zl zn cz bz⊢
 have wl:(cu x z.lba z.len).lba=max x.lba z.lba:=rfl
 have wn:(cu x z.lba z.len).len=min (x.lba+x.len) (z.lba+z.len) - max x.lba z.lba:=rfl
 have cw:=zq5 hw
 have bw:∀k,max x.lba z.lba≤k→k < min (x.lba+x.len) (z.lba+z.len)→bAt (cu x z.lba z.len) k=bAt x k:=fun k a b=> zhp hx a b
 generalize cu x z.lba z.len=w at wl wn cw bw⊢
 constructor
 · rintro ⟨e1,e2,e3⟩ k a b c d
   have e:w=z:=by
    obtain ⟨w1,w2,w3,w4,w5⟩:=w
    obtain ⟨z1,z2,z3,z4,z5⟩:=z
    simp only at e1 e2 e3 wl wn zl zn
    subst e1;subst e2;subst e3
    congr 1 <;> omega
   rw [←bw k (by omega) (by omega),←bz k (by omega) (by omega),e]
 · intro g
   have e:w=z:=by
    refine d_ext cw cz (by omega) (by omega) fun k a b=> ?_
    rw [bw k (by omega) (by omega),bz k (by omega) (by omega)]
    exact g k (by omega) (by omega) (by omega) (by omega)
   rw [e];exact ⟨rfl,rfl,rfl⟩
theorem ag_no {x y:Ex} (hx:Ck x) (hy:Ck y) (h:¬Cu y x.lba x.len):Ag x y:=by
 intro k a b c d
 have px:=z0r hx
 have py:=z0r hy
 exact absurd ⟨hy,by omega,by omega,by omega,by omega,by omega⟩ h
open Classical in
theorem z5o {α:Type} {x y:Ex} (hx:Ck x) (hy:Ck y) (F N G:Option α):
 tc (z7b y x.lba x.len) (fun s7=> tb (!s7.2) N (tc (z7b x s7.1.lba s7.1.len) fun s9=> tb (s9.1.kind !=s7.1.kind) F (tb (s9.1.gen !=s7.1.gen) F (tb (!(s9.1.d==s7.1.d)) F G))))
  =if Ag x y then (if Cu y x.lba x.len then G else N) else F:=by
 rw [zhn,v6]
 by_cases h:Cu y x.lba x.len
 case neg=>
  rw [zlj h,if_pos (ag_no hx hy h),if_neg h]
  simp only [Bool.not_false,z72]
 rw [zfc h]
 simp only [Bool.not_true,zc7]
 rw [zhn,v6,zfc (zus hx h),if_pos h]
 simp only [z7g,z24]
 have hi:=zv9 hx h
 by_cases g:Ag x y
 · obtain ⟨e1,e2,e3⟩:=hi.2 g
   rw [if_pos e1,if_pos e2,e3,if_pos g];simp [z72]
 · rw [if_neg g]
   by_cases e1:(cu x (cu y x.lba x.len).lba (cu y x.lba x.len).len).kind=(cu y x.lba x.len).kind
   case neg=> rw [if_neg e1]
   rw [if_pos e1]
   by_cases e2:(cu x (cu y x.lba x.len).lba (cu y x.lba x.len).len).gen=(cu y x.lba x.len).gen
   case neg=> rw [if_neg e2]
   rw [if_pos e2]
   by_cases e3:(cu x (cu y x.lba x.len).lba (cu y x.lba x.len).len).d=(cu y x.lba x.len).d
   · exact absurd (hi.1 ⟨e1,e2,e3⟩) g
   · rw [zhl (by simpa using e3)]
open Classical in
theorem zkn (was l:List Ex) (gen:Int) (hw:∀x∈was,Ck x) (hl:∀x∈l,Ck x) (nw:was.length≤9223372036854775807) (nl:l.length≤9223372036854775807):zfj was l gen=some (kp was l gen):=by
 have hw':=(z1o was Ck).2 hw
 have hl':=(z1o l Ck).2 hl
 unfold zfj
 rw [z9a (some false) (some true) l.length (fun i=> (z0 l i).gen≤gen→∀y∈was,Ag (z0 l i) y) (Kp was l gen) (z1o l fun x=> x.gen≤gen→∀y∈was,Ag x y)]
 · by_cases h:Kp was l gen
   · rw [if_pos h,kp_t h]
   · rw [if_neg h,kp_f h]
 · intro i hi hp
   unfold z2a
   simp only [w8,Int.toNat_natCast]
   rw [if_pos (by omega),x7 (by omega),d5 (x:=(i:Int)+1) (by omega) (by omega)]
   by_cases hg:(z0 l i).gen > gen
   · rw [if_pos hg]
   rw [if_neg hg]
   rw [z9a none (some ((i:Int)+1)) was.length (fun j=> Ag (z0 l i) (z0 was j)) (∀y∈was,Ag (z0 l i) y) (z1o was fun y=> Ag (z0 l i) y)]
   · rw [if_pos (hp (by omega))]
   · intro j hj hq
     unfold z0t
     simp only [w8,Int.toNat_natCast]
     rw [if_pos (by omega),x7 (by omega),d5 (x:=(j:Int)+1) (by omega) (by omega),z5o (hl' i hi) (hw' j hj),if_pos hq]
     split <;> rfl
   · intro j hj hq
     unfold z0t
     simp only [w8,Int.toNat_natCast]
     rw [if_pos (by omega),x7 (by omega),d5 (x:=(j:Int)+1) (by omega) (by omega),z5o (hl' i hi) (hw' j hj),if_neg hq,if_pos (by omega)]
     exact ⟨rfl,rfl⟩
   · unfold z0t
     simp only [w8]
     rw [if_neg (by omega),if_neg (by omega)]
     exact ⟨rfl,rfl⟩
 · intro i hi hp
   have hg:¬(z0 l i).gen > gen:=fun g=> hp fun g2=> by omega
   have hn:¬∀y∈was,Ag (z0 l i) y:=fun g=> hp fun _=> g
   constructor
   · unfold z2a
     simp only [w8,Int.toNat_natCast]
     rw [if_pos (by omega),x7 (by omega),if_neg hg]
     rw [z9a none (some (wr ((i:Int)+1))) was.length (fun j=> Ag (z0 l i) (z0 was j)) (∀y∈was,Ag (z0 l i) y) (z1o was fun y=> Ag (z0 l i) y)]
     · rw [if_neg hn]
     · intro j hj hq
       unfold z0t
       simp only [w8,Int.toNat_natCast]
       rw [if_pos (by omega),x7 (by omega),d5 (x:=(j:Int)+1) (by omega) (by omega),z5o (hl' i hi) (hw' j hj),if_pos hq]
       split <;> rfl
     · intro j hj hq
       unfold z0t
       simp only [w8,Int.toNat_natCast]
       rw [if_pos (by omega),x7 (by omega),d5 (x:=(j:Int)+1) (by omega) (by omega),z5o (hl' i hi) (hw' j hj),if_neg hq,if_pos (by omega)]
       exact ⟨rfl,rfl⟩
     · unfold z0t
       simp only [w8]
       rw [if_neg (by omega),if_neg (by omega)]
       exact ⟨rfl,rfl⟩
   · simp only [w8,Int.toNat_natCast]
     rw [if_pos (by omega),x7 (by omega),if_neg hg]
     rw [z9a (some false) none was.length (fun j=> Ag (z0 l i) (z0 was j)) (∀y∈was,Ag (z0 l i) y) (z1o was fun y=> Ag (z0 l i) y)]
     · rw [if_neg hn]
     · intro j hj hq
       unfold z2d
       simp only [w8,Int.toNat_natCast]
       rw [if_pos (by omega),x7 (by omega),d5 (x:=(j:Int)+1) (by omega) (by omega),z5o (hl' i hi) (hw' j hj),if_pos hq]
       split <;> rfl
     · intro j hj hq
       constructor
       · unfold z2d
         simp only [w8,Int.toNat_natCast]
         rw [if_pos (by omega),x7 (by omega),d5 (x:=(j:Int)+1) (by omega) (by omega),z5o (hl' i hi) (hw' j hj),if_neg hq]
       · simp only [Int.toNat_natCast]
         rw [if_pos (by omega),x7 (by omega),z5o (hl' i hi) (hw' j hj),if_neg hq]
     · unfold z2d
       simp only [w8]
       rw [if_neg (by omega),if_neg (by omega)]
       exact ⟨rfl,rfl⟩
 · unfold z2a
   simp only [w8]
   rw [if_neg (by omega),if_neg (by omega)]
   exact ⟨rfl,rfl⟩
end Ab
end Go.Proofs.Ytimcbhhebnikiaa
namespace Go.Proofs.Ytimcbhhebnikiaa
open Go Go.Proofs.Ytimcbhhebnikiaa.Ab
set_option linter.unusedVariables false
set_option linter.unusedSimpArgs false
namespace Ab
def Up (blocks:Int) (l:List Ex) (gen:Int):Prop:=Mk blocks l∧∀x∈l,x.gen≤gen
instance (blocks:Int) (l:List Ex) (gen:Int):Decidable (Up blocks l gen):=by unfold Up;infer_instance
theorem zj7 (blocks:Int) (l:List Ex) (gen:Int) (nl:l.length≤9223372036854775807):zg1 blocks l gen=some (decide (Up blocks l gen)):=by
 unfold zg1
 rw [z8j blocks l nl,v6]
 by_cases hm:Mk blocks l
 case neg=> rw [zps hm,zc7,decide_eq_false fun h=> hm h.1]
 rw [zr7 hm,z72]
 rw [z9a (some false) (some true) l.length (fun i=> (z0 l i).gen≤gen) (∀x∈l,x.gen≤gen) (z1o l fun x=> x.gen≤gen)]
 · by_cases h:∀x∈l,x.gen≤gen
   · have u:Up blocks l gen:=⟨hm,h⟩
     rw [if_pos h,decide_eq_true u]
   · rw [if_neg h,decide_eq_false fun g:Up blocks l gen=> h g.2]
 · intro i hi hp
   unfold z2b
   simp only [w8,Int.toNat_natCast]
   rw [if_pos (by omega),x7 (by omega),if_neg (by omega),d5 (by omega) (by omega)]
 · intro i hi hp
   unfold z2b
   simp only [w8,Int.toNat_natCast]
   rw [if_pos (by omega),x7 (by omega),if_pos (by omega),if_pos (by omega),x7 (by omega),if_pos (by omega)]
   exact ⟨rfl,by rw [decide_eq_true (show (i:Int)≥0 by omega)];rfl⟩
 · unfold z2b
   simp only [w8]
   rw [if_neg (by omega),if_neg (by omega)]
   exact ⟨rfl,rfl⟩
theorem zew (n low high:Int):z8m n low high=some (decide (low≤n∧n≤high)):=by
 unfold z8m
 rw [w8]
 by_cases h:n≥low
 · rw [if_pos h];congr 1;rw [Bool.eq_iff_iff,decide_eq_true_iff,decide_eq_true_iff];exact ⟨fun g=> ⟨h,g⟩,fun g=> g.2⟩
 · rw [if_neg h,decide_eq_false fun g=> h g.1]
theorem za0 (l:List Po) (p:Po→Prop):(∀i,i < l.length→p (u0 l i))↔∀x∈l,p x:=by
 unfold u0;exact zee _ l p
def Sx (l:List Ex):Prop:=l.length≤1000∧∀x∈l,x.d.length≤1000000
def Sz (s:Sa):Prop:=Sx s.map∧s.points.length≤1000∧(∀p∈s.points,Sx p.map)∧s.staged.length≤1000000
def pv (s:Sa) (i:Nat):Po:=if i=0 then ⟨0,0,[]⟩ else u0 s.points (i - 1)
theorem z21 (s:Sa) (i:Nat):pv s (i+1)=u0 s.points i:=by simp [pv]
def PP (s:Sa) (i:Nat):Prop:=
 Up s.blocks (u0 s.points i).map (u0 s.points i).gen∧(pv s i).id < (u0 s.points i).id∧(u0 s.points i).id≤s.last∧(pv s i).gen < (u0 s.points i).gen∧(u0 s.points i).gen < s.gen∧Kp (pv s i).map (u0 s.points i).map (pv s i).gen
def SOk (s:Sa):Prop:=
 Up s.blocks s.map s.gen∧1≤s.gen∧s.gen≤2147483647∧s.points.length≤4∧0≤s.last∧s.last≤2147483647∧s.staged.length≤4000∧(∀i,i < s.points.length→PP s i)∧Kp (pv s s.points.length).map s.map (pv s s.points.length).gen
open Classical in
noncomputable def st (s:Sa):Int:=if SOk s then 0 else 110
theorem st_t {s:Sa} (h:SOk s):st s=0:=by unfold st;rw [if_pos h]
theorem zkk {s:Sa} (h:¬SOk s):st s=110:=by unfold st;rw [if_neg h]
theorem zs4 {blocks:Int} {l:List Ex} {gen:Int} (h:Up blocks l gen):∀x∈l,Ck x:=fun x hx=> (zbv (z8y h.1) x hx).1
theorem zuo {s:Sa} {i:Nat} (hp:∀j,j < i→PP s j):∀x∈(pv s i).map,Ck x:=by
 unfold pv
 split
 · intro x hx;cases hx
 · exact zs4 (hp (i - 1) (by omega)).1
def PS (s:Sa) (i:Nat):Int×Int×Int×List Ex:=((i:Int),(pv s i).id,(pv s i).gen,(pv s i).map)
theorem zcb {α:Type} (s:Sa) {step:Int×Int×Int×List Ex→Option (Int×Int×Int×List Ex)} {f:Int×Int×Int×List Ex→Option α} (n:Nat) (hs:∀i,i < n→step (PS s i)=some (PS s (i+1))) (he:step (PS s n)=none):th step (0,(0,(0,([]:List Ex)))) f=f (PS s n):=by
 have:=z2m (step:=step) (f:=f) (PS s) n hs he
 rwa [show PS s 0=(0,0,0,[]) from rfl] at this
theorem zii (s:Sa) {α:Type} (x y:Option α):tb (decide ((PS s s.points.length).1 < (s.points.length:Int))) x y=y:=zhl (decide_eq_false (by show ¬((s.points.length:Int) < s.points.length);omega))
open Classical in
noncomputable def MS (s:Sa) (i:Nat):Bool×Int×Int×Int×List Ex:=(decide (s.staged.length≤4000∧∀j,j < i→PP s j),PS s i)
def Bg (s:Sa):Prop:=s.map.length≤9223372036854775807∧s.points.length≤9223372036854775807∧∀p∈s.points,p.map.length≤9223372036854775807
theorem sz_bg {s:Sa} (h:Sz s):Bg s:=⟨by have:=h.1.1;omega,by have:=h.2.1;omega,fun p hp=> by have:=(h.2.2.1 p hp).1;omega⟩
theorem zui {s:Sa} (h:Bg s) (i:Nat) (hi:i≤s.points.length):(pv s i).map.length≤9223372036854775807:=by
 unfold pv
 split
 · simp
 · exact (za0 s.points (fun p=> p.map.length≤9223372036854775807)).2 h.2.2 _ (by omega)
open Classical in
theorem zjm {s:Sa} (h:Bg s) (a b c:Bool) {i:Nat} (hi:i < s.points.length):z1c s a b c (MS s i)=some (MS s (i+1)):=by
 have hz:=h.2.1
 unfold MS PS z1c
 simp only [w8,Int.toNat_natCast,z21]
 rw [if_pos (by omega),x7 (by omega),d5 (x:=(i:Int)+1) (by omega) (by omega)]
 have e1:((i+1:Nat):Int)=(i:Int)+1:=by omega
 rw [e1]
 have sx:=(za0 s.points (fun p=> p.map.length≤9223372036854775807)).2 h.2.2 i hi
 have px:=zui h i (by omega)
 have hM:∀p:Prop,[Decidable p]→((s.staged.length≤4000∧∀j,j < i+1→PP s j)↔p)→decide (s.staged.length≤4000∧∀j,j < i+1→PP s j)=decide p:=fun p _ g=> by
  rw [Bool.eq_iff_iff,decide_eq_true_iff,decide_eq_true_iff];exact g
 have no:¬PP s i→decide (s.staged.length≤4000∧∀j,j < i+1→PP s j)=false:=fun g=> decide_eq_false fun q=> g (q.2 i (by omega))
 by_cases hm:s.staged.length≤4000∧∀j,j < i→PP s j
 case neg=>
  rw [if_neg hm,decide_eq_false fun q=> hm ⟨q.1,fun j hj=> q.2 j (by omega)⟩]
 rw [if_pos hm,zj7 _ _ _ sx,v6,w8]
 by_cases h1:Up s.blocks (u0 s.points i).map (u0 s.points i).gen
 case neg=> rw [if_neg h1,no fun q=> h1 q.1]
 rw [if_pos h1]
 by_cases h2:(u0 s.points i).id > (pv s i).id
 case neg=> rw [if_neg h2,no fun q=> h2 q.2.1]
 rw [if_pos h2]
 by_cases h3:(u0 s.points i).id≤s.last
 case neg=> rw [if_neg h3,no fun q=> h3 q.2.2.1]
 rw [if_pos h3]
 by_cases h4:(u0 s.points i).gen > (pv s i).gen
 case neg=> rw [if_neg h4,no fun q=> h4 q.2.2.2.1]
 rw [if_pos h4]
 by_cases h5:(u0 s.points i).gen < s.gen
 case neg=> rw [if_neg h5,no fun q=> h5 q.2.2.2.2.1]
 rw [if_pos h5,zkn _ _ _ (zuo hm.2) (zs4 h1) px sx,v6]
 by_cases h6:Kp (pv s i).map (u0 s.points i).map (pv s i).gen
 · rw [kp_t h6,decide_eq_true]
   refine ⟨hm.1,fun j hj=> ?_⟩
   by_cases g:j=i
   · subst g;exact ⟨h1,h2,h3,h4,h5,h6⟩
   · exact hm.2 j (by omega)
 · rw [kp_f h6,no fun q=> h6 q.2.2.2.2.2]
open Classical in
theorem zmu {s:Sa} (h:Bg s):z9h s=some (st s):=by
 have hz:=h.2.1
 have hx:=h.1
 have e1:∀i:Nat,((i+1:Nat):Int)=(i:Int)+1:=fun i=> by omega
 unfold z9h
 rw [zj7 _ _ _ hx,v6,w8]
 by_cases h1:Up s.blocks s.map s.gen
 case neg=>
  rw [if_neg h1,zkk fun q=> h1 q.1,zcb s s.points.length]
  · exact zii s _ _
  · intro i hi
    unfold PS z2q
    simp only [w8,Int.toNat_natCast,z21]
    rw [if_pos (by omega),x7 (by omega),d5 (x:=(i:Int)+1) (by omega) (by omega),e1]
  · unfold PS z2q
    simp only [w8]
    rw [if_neg (by omega)]
 rw [if_pos h1,zew,v6,w8]
 by_cases h2:1≤s.gen∧s.gen≤2147483647
 case neg=>
  rw [if_neg h2,zkk fun q=> h2 ⟨q.2.1,q.2.2.1⟩,zcb s s.points.length]
  · exact zii s _ _
  · intro i hi
    unfold PS z2u
    simp only [w8,Int.toNat_natCast,z21]
    rw [if_pos (by omega),x7 (by omega),d5 (x:=(i:Int)+1) (by omega) (by omega),e1]
  · unfold PS z2u
    simp only [w8]
    rw [if_neg (by omega)]
 rw [if_pos h2,w8]
 by_cases h3:(s.points.length:Int)≤4
 case neg=>
  rw [if_neg h3,zkk fun q=> h3 (by have:=q.2.2.2.1;omega),zcb s s.points.length]
  · exact zii s _ _
  · intro i hi
    unfold PS z2o
    simp only [w8,Int.toNat_natCast,z21]
    rw [if_pos (by omega),x7 (by omega),d5 (x:=(i:Int)+1) (by omega) (by omega),e1]
  · unfold PS z2o
    simp only [w8]
    rw [if_neg (by omega)]
 rw [if_pos h3,zew,v6,w8]
 by_cases h4:0≤s.last∧s.last≤2147483647
 case neg=>
  rw [if_neg h4,zkk fun q=> h4 ⟨q.2.2.2.2.1,q.2.2.2.2.2.1⟩,zcb s s.points.length]
  · exact zii s _ _
  · intro i hi
    unfold PS z2r
    simp only [w8,Int.toNat_natCast,z21]
    rw [if_pos (by omega),x7 (by omega),d5 (x:=(i:Int)+1) (by omega) (by omega),e1]
  · unfold PS z2r
    simp only [w8]
    rw [if_neg (by omega)]
 rw [if_pos h4]
 have hr:=z2m (step:=z1c s (decide (Up s.blocks s.map s.gen)) (decide (1≤s.gen∧s.gen≤2147483647)) (decide (0≤s.last∧s.last≤2147483647))) (f:=fun s7=>
  tb (decide (s7.2.1 < (s.points.length:Int))) none (tb (!s7.1) (some (110:Int)) (tc (zfj s7.2.2.2.2 s.map s7.2.2.2.1) fun s10=> tb (!s10) (some 110) (some 0)))) (MS s) s.points.length (fun i hi=> zjm h _ _ _ hi) (by
   unfold MS PS z1c
   simp only [w8]
   rw [if_neg (by omega)])
 have e0:MS s 0=(decide ((s.staged.length:Int)≤4000),0,0,0,[]):=by
  unfold MS PS
  congr 1
  rw [Bool.eq_iff_iff,decide_eq_true_iff,decide_eq_true_iff]
  exact ⟨fun q=> by have:=q.1;omega,fun q=> ⟨by omega,fun j hj=> by omega⟩⟩
 rw [e0] at hr
 rw [hr]
 unfold MS PS
 simp only [w8,z24]
 rw [if_neg (by omega)]
 by_cases h5:s.staged.length≤4000∧∀j,j < s.points.length→PP s j
 case neg=> rw [if_neg h5,zkk fun q=> h5 ⟨q.2.2.2.2.2.2.1,q.2.2.2.2.2.2.2.1⟩]
 rw [if_pos h5,zkn _ _ _ (zuo h5.2) (zs4 h1) (zui h _ (Nat.le_refl _)) hx,v6]
 by_cases h6:Kp (pv s s.points.length).map s.map (pv s s.points.length).gen
 · rw [kp_t h6,z72,st_t ⟨h1,h2.1,h2.2,by omega,h4.1,h4.2,h5.1,h5.2,h6⟩]
 · rw [kp_f h6,zc7,zkk fun q=> h6 q.2.2.2.2.2.2.2.2]
theorem zgg {s:Sa} (h:Sz s):z9h s=some (st s):=zmu (sz_bg h)
end Ab
end Go.Proofs.Ytimcbhhebnikiaa
namespace Go.Proofs.Ytimcbhhebnikiaa
open Go Go.Proofs.Ytimcbhhebnikiaa.Ab
set_option linter.unusedVariables false
set_option linter.unusedSimpArgs false
namespace Ab
theorem z1w {l:List Ex} (h:Sx l):z27 l=some l:=by
 have hz:=h.1
 have hd:=(z1o l (fun x=> x.d.length≤1000000)).2 h.2
 unfold z27
 have:=z2m (step:=z1a l) (f:=fun s0=> tb (decide (s0.2 < (l.length:Int))) none (tp (0=0∧(List.flatMap Ex.cells s0.1).length=s0.1.length*5) (some s0.1))) (fun i=> (l.take i,(i:Int))) l.length (fun i hi=> by
  have:=hd i hi
  unfold z1a
  simp only [w8,Int.toNat_natCast]
  rw [if_pos (by omega),x7 (by omega),x7 (by omega),x7 ⟨t4 _,by rw [List.length_take];omega⟩,d5 (by omega) (by omega),←z86 l i hi]
  rfl) (by
  unfold z1a
  simp only [w8]
  rw [if_neg (by omega)])
 rw [List.take_zero,List.take_length] at this
 refine this.trans ?_
 simp only [w8]
 rw [if_neg (by omega),x7 ⟨by trivial,t4 _⟩]
def sa0:Sa:=⟨0,0,[],[],0,[]⟩
open Classical in
noncomputable def cpy (s:Sa):Sa:=if SOk s then s else sa0
theorem zux {s:Sa} (h:SOk s):cpy s=s:=by unfold cpy;rw [if_pos h]
theorem cpy_f {s:Sa} (h:¬SOk s):cpy s=sa0:=by unfold cpy;rw [if_neg h]
theorem zll (l:List Po) (i:Nat):l.set i (u0 l i)=l:=by
 refine List.ext_getElem? fun j=> ?_
 rw [List.getElem?_set]
 by_cases h:i=j
 · subst h
   rw [if_pos rfl]
   by_cases g:i < l.length
   · rw [if_pos g];unfold u0;simp [g]
   · rw [if_neg g,List.getElem?_eq_none (by omega)]
 · rw [if_neg h]
theorem zsu {s:Sa} (h:Sz s):z3v s=some (cpy s):=by
 have hz:=h.2.1
 have hx:=h.1
 unfold z3v
 rw [zgg h,v6,z7g]
 by_cases ho:SOk s
 case neg=> rw [zkk ho,if_neg (by decide),cpy_f ho];rfl
 rw [st_t ho,if_pos rfl,z1w hx,v6,x7 (z0o _),x7 (by omega),x7 (by have:=h.2.2.2;omega),zux ho]
 have hp:=(za0 s.points (fun p=> Sx p.map)).2 h.2.2.1
 have:=z2m (step:=z2c s 0 s.map) (f:=fun s6=> tb (decide (s6.1 < (s.points.length:Int))) none (tp (0=0∧(List.flatMap Ex.cells s.map).length=s.map.length*5) (tp (0=0∧(List.flatMap Po.cells s6.2).length=s.points.length*3) (some (Sa.mk s.blocks s.gen s.map s6.2 s.last s.staged))))) (fun i=> ((i:Int),s.points)) s.points.length (fun i hi=> by
  have e:=z0o s.points
  unfold z2c
  simp only [w8,Int.toNat_natCast]
  rw [if_pos (by omega),x7 (by omega),x7 (by omega),z1w (hp i hi),v6,x7 ⟨rfl,by simp only [List.length_cons,List.length_nil];omega⟩,d5 (by omega) (by omega),List.take_length]
  have e2:(Po.mk (u0 s.points i).id (u0 s.points i).gen (u0 s.points i).map)=u0 s.points i:=rfl
  rw [e2,zll]
  rfl) (by
  unfold z2c
  simp only [w8]
  rw [if_neg (by omega)])
 refine this.trans ?_
 simp only [w8]
 rw [if_neg (by omega),x7 ⟨by trivial,t4 _⟩,x7 ⟨by trivial,z0o _⟩]
theorem zqy {b:Int} {l:List Ex} (h:Mk b l):Sx l:=⟨by have:=z9e h;omega,fun x hx=> by have:=z8f (zbv (z8y h) x hx).1;omega⟩
theorem zmh {s:Sa} (h:SOk s):Sz s:=by
 refine ⟨zqy h.1.1,by have:=h.2.2.2.1;omega,?_,by have:=h.2.2.2.2.2.2.1;omega⟩
 exact (za0 s.points fun p=> Sx p.map).1 fun i hi=> zqy (h.2.2.2.2.2.2.2.1 i hi).1.1
def nw (blocks:Int):Sa×Int:=if 1≤blocks∧blocks≤64 then (⟨blocks,1,[⟨0,blocks,0,0,[]⟩],[],0,[]⟩,0) else (sa0,81)
theorem zuf (blocks:Int):zs7 blocks=some (if 1≤blocks∧blocks≤64 then ([⟨0,blocks,0,0,[]⟩],0) else ([],81)):=by
 unfold zs7
 simp only [w8]
 by_cases h1:blocks < 1
 · rw [if_pos h1,if_neg (by omega)]
 by_cases h2:blocks > 64
 · rw [if_neg h1,if_pos h2,if_neg (by omega)]
 · rw [if_neg h1,if_neg h2,if_pos (by omega)]
theorem ztp (blocks:Int):zqh blocks=some (nw blocks):=by
 unfold zqh nw
 rw [zuf,v6]
 split <;> rfl
def fd (l:List Po) (id:Int):Option Po:=l.find? fun p=> p.id==id
def zni (l:List Ex):Prop:=l.length≤70∧∀x∈l,x.d.length≤3000
instance (l:List Ex):Decidable (zni l):=by unfold zni;infer_instance
theorem zt5 (l:List Ex):few l=some (decide (zni l)):=zws l
def FewS (s:Sa):Prop:=s.points.length≤10∧s.staged.length≤6000∧zni s.map∧∀p∈s.points,zni p.map
instance (s:Sa):Decidable (FewS s):=by unfold FewS;infer_instance
end Ab
end Go.Proofs.Ytimcbhhebnikiaa
namespace Go.Proofs.Ytimcbhhebnikiaa
open Go Go.Proofs.Ytimcbhhebnikiaa.Ab
set_option linter.unusedVariables false
set_option linter.unusedSimpArgs false
namespace Ab
theorem zma (n low high:Int):z0h n low high=some (decide (low≤n∧n≤high)):=by
 unfold z0h
 rw [w8]
 by_cases h:n≥low
 · rw [if_pos h];congr 1;exact decide_eq_decide.2 ⟨fun g=> ⟨h,g⟩,fun g=> g.2⟩
 · rw [if_neg h,decide_eq_false fun g:low≤n∧n≤high=> h g.1]
def zbs (l:List Ex) (i:Nat):Int:=if i=0 then 0 else (z0 l (i - 1)).lba+(z0 l (i - 1)).len
theorem zmz (l:List Ex) (i:Nat):zbs l (i+1)=(z0 l i).lba+(z0 l i).len:=by simp [zbs]
def FP (l:List Ex) (i:Nat):Prop:=Ck (z0 l i)∧zbs l i≤(z0 l i).lba
def Fo (l:List Ex):Prop:=(∀i,i < l.length→FP l i)∧l.length≤64
instance (l:List Ex) (i:Nat):Decidable (FP l i):=by unfold FP;infer_instance
instance (l:List Ex):Decidable (Fo l):=by unfold Fo;infer_instance
theorem zw1:Fo []:=⟨fun i hi=> by simp at hi,by simp⟩
theorem zl1 (l:List Ex) (hl:l.length≤9223372036854775807):z7v l=some (decide (Fo l)):=by
 unfold z7v
 have h0:((0:Int),(0:Int))=(zbs l 0,((0:Nat):Int)):=by simp [zbs]
 rw [h0]
 have:=fun f hs hf he=> zea (α:=Bool) (step:=z0q l) (f:=f) (some false) (some (decide ((l.length:Int)≤64))) (fun i=> (zbs l i,(i:Int))) l.length (FP l) (∀i,i < l.length→FP l i) Iff.rfl hs hf he
 rw [this _ ?_ ?_ ?_]
 · by_cases h:∀i,i < l.length→FP l i
   · rw [if_pos h];congr 1;exact decide_eq_decide.2 ⟨fun g=> ⟨h,by omega⟩,fun g=> by have:=g.2;omega⟩
   · rw [if_neg h,decide_eq_false fun g:Fo l=> h g.1]
 · intro i hi _ hp
   unfold z0q
   have h1:=hp.1
   have h2:=hp.2
   have h3:=z0r h1
   simp only [w8,z24,z4b,v6,Int.toNat_natCast]
   rw [if_pos (by omega),x7 (by omega),zfo h1,z72,if_neg (by omega),d5 (by omega) (by omega),d5 (by omega) (by omega),zmz]
   rfl
 · intro i hi _ hp
   unfold z0q
   simp only [w8,z24,z4b,v6,Int.toNat_natCast]
   by_cases h1:Ck (z0 l i)
   · have h2:(z0 l i).lba < zbs l i:=by
      rcases Int.lt_or_le (z0 l i).lba (zbs l i) with g | g
      · exact g
      · exact absurd ⟨h1,g⟩ hp
     refine ⟨?_,?_⟩ <;> rw [if_pos (by omega),x7 (by omega),zfo h1,z72,if_pos h2]
   · refine ⟨?_,?_⟩ <;> rw [if_pos (by omega),x7 (by omega),zag h1,zc7]
 · intro _
   unfold z0q
   simp only [w8]
   rw [if_neg (by omega),if_neg (by omega)]
   exact ⟨rfl,rfl⟩
def CkH (c:Ch):Prop:=
 (c.kind=1∧(0≤c.lba∧c.lba≤64∧1≤c.n∧c.n≤64 - c.lba)∧c.id=0∧(c.d.length:Int)=c.n*32∧c.list.length=0)∨
 ((c.kind=2∨c.kind=3)∧(0≤c.lba∧c.lba≤64∧1≤c.n∧c.n≤64 - c.lba)∧c.id=0∧c.d.length=0∧c.list.length=0)∨
 ((c.kind=4∨c.kind=5)∧(c.lba=0∧c.n=0)∧(1≤c.id∧c.id≤2147483647)∧c.d.length=0∧c.list.length=0)∨
 (c.kind=6∧(c.lba=0∧c.n=0)∧c.id=0∧(1≤c.d.length∧c.d.length≤1000)∧c.list.length=0)∨
 (c.kind=7∧(c.lba=0∧c.n=0)∧c.id=0∧c.d.length=0∧c.list.length=0)∨
 (c.kind=8∧(c.lba=0∧c.n=0)∧(1≤c.id∧c.id≤2147483647)∧c.d.length=0∧Fo c.list)
instance (c:Ch):Decidable (CkH c):=by unfold CkH;infer_instance
theorem zr2 {c:Ch} (h:c.kind=1):CkH c↔(0≤c.lba∧c.lba≤64∧1≤c.n∧c.n≤64 - c.lba)∧c.id=0∧(c.d.length:Int)=c.n*32∧c.list.length=0:=by simp [CkH,h]
theorem zug {c:Ch} (h:c.kind=2):CkH c↔(0≤c.lba∧c.lba≤64∧1≤c.n∧c.n≤64 - c.lba)∧c.id=0∧c.d.length=0∧c.list.length=0:=by simp [CkH,h]
theorem zuv {c:Ch} (h:c.kind=3):CkH c↔(0≤c.lba∧c.lba≤64∧1≤c.n∧c.n≤64 - c.lba)∧c.id=0∧c.d.length=0∧c.list.length=0:=by simp [CkH,h]
theorem zuw {c:Ch} (h:c.kind=4):CkH c↔(c.lba=0∧c.n=0)∧(1≤c.id∧c.id≤2147483647)∧c.d.length=0∧c.list.length=0:=by simp [CkH,h]
theorem ckh_5 {c:Ch} (h:c.kind=5):CkH c↔(c.lba=0∧c.n=0)∧(1≤c.id∧c.id≤2147483647)∧c.d.length=0∧c.list.length=0:=by simp [CkH,h]
theorem ckh_6 {c:Ch} (h:c.kind=6):CkH c↔(c.lba=0∧c.n=0)∧c.id=0∧(1≤c.d.length∧c.d.length≤1000)∧c.list.length=0:=by simp [CkH,h]
theorem ckh_7 {c:Ch} (h:c.kind=7):CkH c↔(c.lba=0∧c.n=0)∧c.id=0∧c.d.length=0∧c.list.length=0:=by simp [CkH,h]
theorem znk {c:Ch} (h:c.kind=8):CkH c↔(c.lba=0∧c.n=0)∧(1≤c.id∧c.id≤2147483647)∧c.d.length=0∧Fo c.list:=by simp [CkH,h]
theorem z7m {c:Ch} (h:CkH c):1≤c.kind∧c.kind≤8:=by unfold CkH at h;omega
theorem zrr {p:Prop} [Decidable p] (h:p):some true=some (decide p):=by rw [decide_eq_true h]
theorem z55 {p:Prop} [Decidable p] (h:¬p):some false=some (decide p):=by rw [decide_eq_false h]
theorem zmx (p:Prop) [Decidable p]:(if p then some true else some false)=some (decide p):=by by_cases h:p <;> simp [h]
theorem z9i (p q:Prop) [Decidable p] [Decidable q]:(if p then some (decide q) else some false)=some (decide (p∧q)):=by by_cases h:p <;> simp [h]
theorem zpb (c:Ch) (hl:c.list.length≤9223372036854775807):zep c=some (decide (CkH c)):=by
 unfold zep
 simp only [zma,v6,z24,w8,z2t,zl1 _ hl]
 by_cases hk:1≤c.kind∧c.kind≤8
 case neg=> rw [if_neg hk];exact z55 fun h=> hk (z7m h)
 rw [if_pos hk,if_neg (by omega)]
 have w:0≤c.lba→c.lba≤64→wr (64 - c.lba)=64 - c.lba:=fun h1 h2=> d5 (by omega) (by omega)
 have w2:0≤c.n→c.n≤64→wr (c.n*32)=c.n*32:=fun h1 h2=> d5 (by omega) (by omega)
 by_cases k1:c.kind=1
 · rw [if_pos k1]
   by_cases hb:0≤c.lba∧c.lba≤64
   case neg=> simp only [if_neg hb,ite_self];exact z55 fun h=> by rw [zr2 k1] at h;omega
   simp only [if_pos hb,w hb.1 hb.2]
   by_cases hn:1≤c.n∧c.n≤64 - c.lba
   case neg=> simp only [if_neg hn,ite_self];exact z55 fun h=> by rw [zr2 k1] at h;omega
   simp only [if_pos hn,w2 (by omega) (by omega)]
   simp only [ite_self,zmx,z9i]
   congr 1
   exact decide_eq_decide.2 (by rw [zr2 k1];omega)
 rw [if_neg k1]
 by_cases k2:c.kind=2
 · rw [if_pos k2]
   by_cases hb:0≤c.lba∧c.lba≤64
   case neg=> simp only [if_neg hb,ite_self];exact z55 fun h=> by rw [zug k2] at h;omega
   simp only [if_pos hb,w hb.1 hb.2]
   simp only [ite_self,zmx,z9i]
   congr 1
   exact decide_eq_decide.2 (by rw [zug k2];omega)
 rw [if_neg k2]
 by_cases k3:c.kind=3
 · rw [if_pos k3]
   by_cases hb:0≤c.lba∧c.lba≤64
   case neg=> simp only [if_neg hb,ite_self];exact z55 fun h=> by rw [zuv k3] at h;omega
   simp only [if_pos hb,w hb.1 hb.2]
   simp only [ite_self,zmx,z9i]
   congr 1
   exact decide_eq_decide.2 (by rw [zuv k3];omega)
 rw [if_neg k3]
 by_cases k4:c.kind=4
 · rw [if_pos k4]
   simp only [ite_self,zmx,z9i]
   congr 1
   exact decide_eq_decide.2 (by rw [zuw k4];omega)
 rw [if_neg k4]
 by_cases k5:c.kind=5
 · rw [if_pos k5]
   simp only [ite_self,zmx,z9i]
   congr 1
   exact decide_eq_decide.2 (by rw [ckh_5 k5];omega)
 rw [if_neg k5]
 by_cases k6:c.kind=6
 · rw [if_pos k6]
   simp only [ite_self,zmx,z9i]
   congr 1
   exact decide_eq_decide.2 (by rw [ckh_6 k6];omega)
 rw [if_neg k6]
 by_cases k7:c.kind=7
 · rw [if_pos k7]
   simp only [ite_self,zmx,z9i]
   congr 1
   exact decide_eq_decide.2 (by rw [ckh_7 k7];omega)
 rw [if_neg k7]
 have k8:c.kind=8:=by omega
 rw [if_pos k8]
 have e8:Fo c.list→(c.lba=0∧c.n=0)→(1≤c.id∧c.id≤2147483647)→c.d.length=0→CkH c:=fun a b d e=> (znk k8).2 ⟨b,d,e,a⟩
 have f8:CkH c→(c.lba=0∧c.n=0)∧(1≤c.id∧c.id≤2147483647)∧c.d.length=0∧Fo c.list:=(znk k8).1
 by_cases h1:c.lba=0
 case neg=> rw [if_neg h1];exact z55 fun h=> h1 (f8 h).1.1
 rw [if_pos h1]
 by_cases h2:c.n=0
 case neg=> rw [if_neg h2];exact z55 fun h=> h2 (f8 h).1.2
 rw [if_pos h2]
 by_cases h3:1≤c.id∧c.id≤2147483647
 case neg=> rw [if_neg h3];exact z55 fun h=> h3 (f8 h).2.1
 rw [if_pos h3]
 by_cases h4:(c.d.length:Int)=0
 case neg=> rw [if_neg h4];exact z55 fun h=> h4 (by have:=(f8 h).2.2.1;omega)
 rw [if_pos h4]
 by_cases h5:(c.list.length:Int)=0
 · rw [if_pos h5]
   have:c.list=[]:=List.eq_nil_of_length_eq_zero (by omega)
   exact zrr (e8 (this▸zw1) ⟨h1,h2⟩ h3 (by omega))
 rw [if_neg h5]
 congr 1
 exact decide_eq_decide.2 ⟨fun h=> e8 h ⟨h1,h2⟩ h3 (by omega),fun h=> (f8 h).2.2.2⟩
def zil (c:Ch):Prop:=c.d.length≤5000∧zni c.list
instance (c:Ch):Decidable (zil c):=by unfold zil;infer_instance
theorem zl4 (c:Ch):zgw c=some (decide (zil c)):=by
 unfold zgw
 rw [w8,zt5,v6]
 by_cases h:(c.d.length:Int)≤5000
 · rw [if_pos h];congr 1;exact decide_eq_decide.2 ⟨fun g=> ⟨by omega,g⟩,fun g=> g.2⟩
 · rw [if_neg h];exact z55 fun g=> h (by have:=g.1;omega)
def zs9 (l:List Ch):Prop:=l.length≤30∧∀c∈l,zil c
instance (l:List Ch):Decidable (zs9 l):=by unfold zs9;infer_instance
theorem zf8 (l:List Ch) (p:Ch→Prop):(∀i,i < l.length→p (x8 l i))↔∀x∈l,p x:=by
 unfold x8;exact zee _ l p
theorem zdp (l:List Ch):changes l=some (decide (zs9 l)):=by
 unfold changes
 rw [w8]
 by_cases h:(l.length:Int) > 30
 · rw [if_pos h];exact z55 fun g=> by have:=g.1;omega
 rw [if_neg h,z9a (some false) (some true) l.length (fun i=> zil (x8 l i)) (∀c∈l,zil c) (zf8 l zil)]
 · by_cases g:∀c∈l,zil c
   · rw [if_pos g];exact zrr ⟨by omega,g⟩
   · rw [if_neg g];exact z55 fun q=> g q.2
 · intro i hi hq
   unfold z1f
   simp only [w8,z24,Int.toNat_natCast]
   rw [if_pos (by omega),x7 (by omega),zl4,v6,decide_eq_true hq,z72,d5 (by omega) (by omega)]
 · intro i hi hq
   unfold z1f
   simp only [w8,z24,Int.toNat_natCast]
   rw [if_pos (by omega),x7 (by omega),zl4,v6,decide_eq_false hq,zc7,if_pos (by omega),x7 (by omega),v6,zc7]
   exact ⟨rfl,rfl⟩
 · unfold z1f
   simp only [w8]
   rw [if_neg (by omega),if_neg (by omega)]
   exact ⟨rfl,rfl⟩
end Ab
end Go.Proofs.Ytimcbhhebnikiaa
namespace Go.Proofs.Ytimcbhhebnikiaa
open Go Go.Proofs.Ytimcbhhebnikiaa.Ab
set_option linter.unusedVariables false
set_option linter.unusedSimpArgs false
set_option maxRecDepth 1000000
set_option maxHeartbeats 0
namespace Ab
noncomputable abbrev zk3 (blocks:Int) (l:List Ex) (gen:Int) (s0:Bool) (s2:List Ex):St:=(St.mk [(0,(AV.i blocks)),(1,(exs l)),(2,(AV.i gen)),(6,AV.nl),(7,(AV.i 0)),(10,(AV.i blocks)),(11,(exs l)),(12,(AV.b s0)),(13,(AV.b (!s0))),(14,(exs l)),(15,(exs s2)),(16,(AV.i (s2.length:Int))),(17,(AV.i 0))] 31 (AH.mk 0 ([]:List (Prod Nat AObj))) false)
noncomputable abbrev z68 (blocks:Int) (l:List Ex) (gen:Int) (s0:Bool) (s2:List Ex) (s3:List Ex×Int):St:=(St.mk [(2,(AV.i gen)),(6,(AV.rf 0 5 0 s3.1.length)),(15,(exs s2)),(16,(AV.i (s2.length:Int))),(17,(AV.i s3.2))] 31 (AH.mk 1 [(0,(AObj.cells (s3.1.flatMap Ex.cells)))]) false)
noncomputable def z0v (blocks:Int) (l:List Ex) (gen:Int) (s0:Bool) (s2:List Ex) (s3:List Ex×Int):Option (List Ex×Int):=
 (tb ((decide (s3.2 < (s2.length:Int)))) (tp ((((0:Int)≤s3.2)∧(s3.2 < (s2.length:Int)))) (tb ((decide ((z0 s2 s3.2.toNat).gen > gen))) (tp ((((List.length (s3.1.flatMap Ex.cells))=(s3.1.length*5))∧((s3.1.length+(1:Nat))≤(4294967296:Nat)))) (some (((s3.1++[(z0 s2 s3.2.toNat)]),(wr (s3.2+(1:Int))))))) (some ((s3.1,(wr (s3.2+(1:Int)))))))) none)
theorem zhb (blocks:Int) (l:List Ex) (gen:Int) (s0:Bool) (s2:List Ex) (s3 zz:List Ex×Int):z0v blocks l gen s0 s2 s3=some zz→u7 Try.prog cf 0 (lp Try.prog 32 0) (z68 blocks l gen s0 s2 s3) (z68 blocks l gen s0 s2 zz):=by
 unfold z0v
 exact tbD (fun h4 h4p=> w7 fun h5=> tbD (fun h6 h6p=> w7 fun h7=> by intro e;injection e with e;subst e;exact d4 z9 (k:=300) (r:=[]) (hs:=hz [(1,[.yes,.yes,.yes,.cells ((Ex.cells (z0 s2 s3.2.toNat)))]),(2,[.fc]),(5,[.yes]),(2,[.fc]),(1,[.fc,.fc,.yes,.yes]),(3,[])]) (ks:=[2,6,15,16,17]) (st1:=(St.mk [(2,(AV.i gen)),(6,(AV.rf 3 5 0 (s3.1.length+(1:Nat)))),(15,(exs s2)),(16,(AV.i (s2.length:Int))),(17,(AV.i (wr (s3.2+(1:Int)))))] 31 (AH.mk 4 [(3,(AObj.cells ((s3.1.flatMap Ex.cells)++(xc (z0 s2 s3.2.toNat))))),(2,(AObj.cells (xc (z0 s2 s3.2.toNat)))),(1,(AObj.cells (xc (z0 s2 s3.2.toNat)))),(0,AObj.dead)]) false)) kq (ac h4 (ac h5 (ac (fq (p:=((5:Nat)≤(List.length (List.drop (s3.2.toNat*5) (s2.flatMap Ex.cells)))))) (ac (show (List.take 5 (List.drop (s3.2.toNat*5) (s2.flatMap Ex.cells)))=(Ex.cells (z0 s2 s3.2.toNat)) from (v4 bq bq)) (ac h6 (ac (tq (p:=(((0:Nat)=(0:Nat))∧((List.length (xc (z0 s2 s3.2.toNat)))=(5:Nat))))) (ac h7 an))))))) (Nat.le_of_ble_eq_true rfl) (Nat.le_of_ble_eq_true rfl) (x0 [3] [] kq (.consn kq (.eqv tq rfl) (.consn kq (.rfn (n:=(s3.1.length+(1:Nat))) rfl tq) (.consn kq (.eqv tq rfl) (.consn kq (.eqv tq rfl) (.consn kq (.eqv tq rfl) .nil))))) (.cons (.old rfl rfl (.cells (.pl tq pq))) .nil))) fun h6 h6p=> by intro e;injection e with e;subst e;exact d4 z9 (k:=300) (r:=[]) (hs:=hz [(1,[.yes,.yes,.yes,.cells ((Ex.cells (z0 s2 s3.2.toNat)))]),(2,[.fc]),(5,[.no]),(2,[])]) (ks:=[2,6,15,16,17]) (st1:=(St.mk [(2,(AV.i gen)),(6,(AV.rf 0 5 0 s3.1.length)),(15,(exs s2)),(16,(AV.i (s2.length:Int))),(17,(AV.i (wr (s3.2+(1:Int)))))] 31 (AH.mk 2 [(1,(AObj.cells (xc (z0 s2 s3.2.toNat)))),(0,(AObj.cells (s3.1.flatMap Ex.cells)))]) false)) kq (ac h4 (ac h5 (ac (fq (p:=((5:Nat)≤(List.length (List.drop (s3.2.toNat*5) (s2.flatMap Ex.cells)))))) (ac (show (List.take 5 (List.drop (s3.2.toNat*5) (s2.flatMap Ex.cells)))=(Ex.cells (z0 s2 s3.2.toNat)) from (v4 bq bq)) (ac h6 an))))) (Nat.le_of_ble_eq_true rfl) (Nat.le_of_ble_eq_true rfl) (x0 [0] [] kq (.consn kq (.eqv tq rfl) (.consn kq (.rfn (n:=s3.1.length) rfl tq) (.consn kq (.eqv tq rfl) (.consn kq (.eqv tq rfl) (.consn kq (.eqv tq rfl) .nil))))) (.cons (.old rfl rfl (.cells (.pl tq pq))) .nil))) fun h4 h4p=> v9
noncomputable def zfi (blocks:Int) (l:List Ex) (gen:Int):Option (List Ex×Int):=
 (tc (z7k (blocks) (l)) fun s0=> (tb ((!s0)) (some ((([]:List Ex),(80:Int)))) (tc (zc5 (l)) fun s2=> (th (z0v blocks l gen s0 s2) ((([]:List Ex),(0:Int))) fun s3=> (tb ((decide (s3.2 < (s2.length:Int)))) none (tp ((((0:Nat)=(0:Nat))∧((List.length (s3.1.flatMap Ex.cells))=(s3.1.length*5)))) (some ((s3.1,(0:Int))))))))))
abbrev zsa (blocks:Int) (l:List Ex) (gen:Int) (r:List Ex×Int):Prop:=z0n Try.prog cf false 32 [.i (blocks),exs (l),.i (gen)] (.tu [exs (r.1),.i (r.2)])
theorem zor (blocks:Int) (l:List Ex) (gen:Int) (r:List Ex×Int):zfi blocks l gen=some r→zsa blocks l gen r:=by
 unfold zfi
 exact w9 fun s0 h0=> j9 (fun h1=> by intro e;injection e with e;subst e;exact x6 z9 (k:=300) (r:=[]) (hs:=hz [(5,[.fres (.b (s0))]),(1,[.yes]),(2,[])]) (raw:=(AV.tu [(AV.sl 0 ([]:List AV)),(AV.i 80)])) kq (ac (z10 (blocks) (l) _ h0).any0 (ac h1 an)) tq) fun h1=> w9 fun s2 h2=> z0w fun s3 h3=> tbD (fun h4 h4p=> v9) fun h4 h4p=> w7 fun h5=> by intro e;injection e with e;subst e;exact x6 z9 (k:=300) (r:=[]) (hs:=hz [(5,[.fres (.b (s0))]),(1,[.no]),(2,[.fres (exs (s2))]),(2,[.head (z68 blocks l gen s0 s2 s3)]),(1,[.no]),(3,[.yes,.yes])]) (raw:=(AV.tu [(exs s3.1),(AV.i 0)])) kq (ac (z10 (blocks) (l) _ h0).any0 (ac h1 (ac (z4j (l) _ h2) (ac (show x5 Try.prog cf (lp Try.prog 32 0) (zk3 blocks l gen s0 s2) (z68 blocks l gen s0 s2 s3) from (x5.of (zhb blocks l gen s0 s2) (x0 [0] [] kq (.consn kq (.eqv tq rfl) (.consn kq (.nln tq) (.consn kq (.eqv tq rfl) (.consn kq (.eqv tq rfl) (.consn kq (.eqv tq rfl) .nil))))) (.cons (.none rfl (Nat.le_refl _) rfl) .nil)) h3)) (ac h4 (ac h5 (ac (pq (p:=Pl false ((s3.1.flatMap Ex.cells)))) an))))))) tq
end Ab
end Go.Proofs.Ytimcbhhebnikiaa
namespace Go.Proofs.Ytimcbhhebnikiaa
open Go Go.Proofs.Ytimcbhhebnikiaa.Ab
set_option linter.unusedVariables false
set_option linter.unusedSimpArgs false
namespace Ab
theorem znr (l:List Ex) (hl:l.length≤4294967295) (hd:∀x∈l,x.d.length≤4294967296):zc5 l=some l:=by
 unfold zc5
 have hstep:∀i:Nat,i < l.length→z1i l (l.take i,(i:Int))=some (l.take (i+1),(i:Int)+1):=by
  intro i hi
  have h1:=(z1o l (fun x=> x.d.length≤4294967296)).2 hd i hi
  unfold z1i
  simp only [w8,Int.toNat_natCast]
  rw [if_pos (by omega),x7 (by omega),x7 h1,x7 ⟨t4 _,by rw [List.length_take];omega⟩,d5 (by omega) (by omega),zcy ⟨0,0,0,0,[]⟩ l i hi]
  rfl
 have he:z1i l (l.take l.length,(l.length:Int))=none:=by
  unfold z1i
  simp only [w8]
  rw [if_neg (by omega)]
 have:=fun f=> zhg (α:=List Ex) (step:=z1i l) (f:=f) (fun i=> l.take i) l.length hstep he
 simp only [List.take_zero] at this
 rw [this]
 simp only [w8]
 rw [if_neg (by omega),x7 (by first | exact ⟨rfl,t4 _⟩ | exact ⟨trivial,t4 _⟩),List.take_length]
theorem zpa (blocks:Int) (l:List Ex) (gen:Int) (hl:l.length≤4294967295) (hd:∀x∈l,x.d.length≤4294967296):zfi blocks l gen=some (snc blocks l gen):=by
 unfold zfi snc
 rw [z8j _ _ (by omega),v6,z24]
 by_cases hm:Mk blocks l
 case neg=> rw [zps hm,zc7,if_neg hm]
 rw [zr7 hm,z72,if_pos hm,znr l hl hd,v6]
 simp only [w8]
 have hlen:∀i,((l.take i).filter (fun x=> decide (x.gen > gen))).length≤i:=fun i=> Nat.le_trans (List.length_filter_le _ _) (by rw [List.length_take];omega)
 have hstep:∀i:Nat,i < l.length→z0v blocks l gen true l ((l.take i).filter (fun x=> decide (x.gen > gen)),(i:Int))=some ((l.take (i+1)).filter (fun x=> decide (x.gen > gen)),(i:Int)+1):=by
  intro i hi
  have:=hlen i
  unfold z0v
  simp only [w8,Int.toNat_natCast]
  rw [if_pos (by omega),x7 (by omega),d5 (by omega) (by omega),zth _ _ _ hi]
  by_cases hc:(z0 l i).gen > gen
  · simp only [hc,if_true,decide_true];rw [x7 ⟨t4 _,by omega⟩]
  · simp only [hc,if_false,decide_false,Bool.false_eq_true,List.append_nil]
 have he:z0v blocks l gen true l ((l.take l.length).filter (fun x=> decide (x.gen > gen)),(l.length:Int))=none:=by
  unfold z0v
  simp only [w8]
  rw [if_neg (by omega)]
 have:=fun f=> zhg (α:=List Ex×Int) (step:=z0v blocks l gen true l) (f:=f) (fun i=> (l.take i).filter (fun x=> decide (x.gen > gen))) l.length hstep he
 simp only [List.take_zero,List.filter_nil] at this
 rw [this]
 simp only
 rw [if_neg (by omega),x7 (by first | exact ⟨rfl,t4 _⟩ | exact ⟨trivial,t4 _⟩),List.take_length]
end Ab
end Go.Proofs.Ytimcbhhebnikiaa
namespace Go.Proofs.Ytimcbhhebnikiaa
open Go Go.Proofs.Ytimcbhhebnikiaa.Ab
set_option linter.unusedVariables false
set_option linter.unusedSimpArgs false
namespace Ab
noncomputable def putB (out:List Ex) (y:Ex):Option (List Ex×List Ex):=
 (tb ((decide ((↑(List.length out):Int) > (0:Int))))
  (tp ((((0:Int)≤(wr ((↑(List.length out):Int) - (1:Int))))∧((wr ((↑(List.length out):Int) - (1:Int))) < (↑(List.length out):Int))))
   (tc (z61 ((z0 out (Int.toNat (wr ((↑(List.length out):Int) - (1:Int)))))) (y)) fun s13=>
    (tb ((s13.2==(0:Int)))
     (tp ((((List.length (xc s13.1))=(5:Nat))∧((((0:Nat)+((Int.toNat (wr ((↑(List.length out):Int) - (1:Int))))*(5:Nat)))+(List.length (xc s13.1)))≤(List.length (List.flatMap Ex.cells out)))))
      (some ((([]:List Ex),(List.set out (Int.toNat (wr ((↑(List.length out):Int) - (1:Int)))) s13.1)))))
     (tp ((((List.length (List.flatMap Ex.cells out))=((List.length out)*(5:Nat)))∧(((List.length out)+(1:Nat))≤(4294967296:Nat))))
      (some ((([]:List Ex),(out++[y]))))))))
  (tp ((((List.length (List.flatMap Ex.cells out))=((List.length out)*(5:Nat)))∧(((List.length out)+(1:Nat))≤(4294967296:Nat))))
   (some ((([]:List Ex),(out++[y]))))))
theorem z5c (out:List Ex) (y:Ex) (ho:out.length≤1000000):putB out y=some ([],add out y):=by
 unfold putB
 simp only [w8,z2t]
 by_cases h0:out=[]
 · subst h0
   rw [if_neg (by simp),x7 ⟨by simp,by simp⟩,ztz];rfl
 · have hl:0 < out.length:=List.length_pos_iff.2 h0
   have hw:wr ((out.length:Int) - 1)=((out.length - 1:Nat):Int):=by rw [d5 (by omega) (by omega)];omega
   rw [if_pos (by omega),hw,x7 (by omega),Int.toNat_natCast,zt6 out h0 _ rfl,zsn,v6]
   by_cases hj:Jn (out.getLastD ⟨0,0,0,0,[]⟩) y
   · have e:jnv (out.getLastD ⟨0,0,0,0,[]⟩) y=(jnx (out.getLastD ⟨0,0,0,0,[]⟩) y,0):=if_pos hj
     rw [e,if_pos rfl,x7 ⟨rfl,by rw [t4];simp;omega⟩,zv7 h0 hj,zjg out h0 _ rfl]
   · have e:jnv (out.getLastD ⟨0,0,0,0,[]⟩) y=(⟨0,0,0,0,[]⟩,70):=if_neg hj
     rw [e,if_neg (by simp),x7 ⟨t4 _,by omega⟩,zwr hj]
section
variable (blocks : Int) (l : List Ex) (x : Ex) (s0 s2 : Bool)
theorem b1_eq (s5:Bool×Int×List Ex) (s8:Ex×Bool) (h:s5.2.2.length≤1000000):zcv blocks l x s0 s2 s5 s8=some ([],add s5.2.2 s8.1):=z5c s5.2.2 s8.1 h
theorem b2_eq (s5:Bool×Int×List Ex) (s8:Ex×Bool) (s10:List Ex×List Ex) (h:s10.2.length≤1000000):zd0 blocks l x s0 s2 s5 s8 s10=some ([],add s10.2 x):=z5c s10.2 x h
theorem b3_eq (s5:Bool×Int×List Ex) (s8:Ex×Bool) (s10 s13:List Ex×List Ex) (s14:Ex×Bool) (h:s13.2.length≤1000000):zcc blocks l x s0 s2 s5 s8 s10 s13 s14=some ([],add s13.2 s14.1):=z5c s13.2 s14.1 h
theorem b4_eq (s5:Bool×Int×List Ex) (s8:Ex×Bool) (s10:List Ex×List Ex) (s13:Ex×Bool) (h:s10.2.length≤1000000):zci blocks l x s0 s2 s5 s8 s10 s13=some ([],add s10.2 s13.1):=z5c s10.2 s13.1 h
theorem b5_eq (s5:Bool×Int×List Ex) (s8:Ex×Bool) (s10:List Ex×List Ex) (s12:Ex×Bool) (h:s10.2.length≤1000000):zcl blocks l x s0 s2 s5 s8 s10 s12=some ([],add s10.2 s12.1):=z5c s10.2 s12.1 h
theorem b6_eq (s5:Bool×Int×List Ex) (s8:Ex×Bool) (h:s5.2.2.length≤1000000):zcw blocks l x s0 s2 s5 s8=some ([],add s5.2.2 x):=z5c s5.2.2 x h
theorem b7_eq (s5:Bool×Int×List Ex) (s8:Ex×Bool) (s12:List Ex×List Ex) (s13:Ex×Bool) (h:s12.2.length≤1000000):zcf blocks l x s0 s2 s5 s8 s12 s13=some ([],add s12.2 s13.1):=z5c s12.2 s13.1 h
theorem b8_eq (s5:Bool×Int×List Ex) (s8 s12:Ex×Bool) (h:s5.2.2.length≤1000000):zcq blocks l x s0 s2 s5 s8 s12=some ([],add s5.2.2 s12.1):=z5c s5.2.2 s12.1 h
theorem b9_eq (s5:Bool×Int×List Ex) (s8 s11:Ex×Bool) (h:s5.2.2.length≤1000000):zd2 blocks l x s0 s2 s5 s8 s11=some ([],add s5.2.2 s11.1):=z5c s5.2.2 s11.1 h
theorem zto (fl:Bool) (i:Nat) (out:List Ex) (hi:i < l.length) (hl:l.length≤1000000) (he:Ck (z0 l i)) (hx:Ck x) (ho:out.length≤900000):
 z1x blocks l x s0 s2 (fl,(i:Int),out)=some ((stp x (fl,out) (z0 l i)).1,(i:Int)+1,(stp x (fl,out) (z0 l i)).2):=by
 have px:=z0r hx
 have pe:=z0r he
 unfold z1x
 simp only [w8,Int.toNat_natCast,zhn,v6,z24]
 have w1:wr ((i:Int)+1)=(i:Int)+1:=d5 (by omega) (by omega)
 have w2:wr (x.lba+x.len)=x.lba+x.len:=d5 (by omega) (by omega)
 have w3:wr ((z0 l i).lba+(z0 l i).len)=(z0 l i).lba+(z0 l i).len:=d5 (by omega) (by omega)
 simp only [w1,w2,w3]
 rw [if_pos (by omega),x7 (by omega)]
 clear w1 w2 w3
 generalize z0 l i=e at he pe⊢
 unfold stp F1 P1
 have a1:=zd4 out (cu e 0 x.lba)
 have a2:=zd4 out x
 have a3:=zd4 (add out (cu e 0 x.lba)) x
 by_cases g1:Cu e 0 x.lba <;> by_cases g3:Cu e (x.lba+x.len) 64 <;> by_cases g2:e.lba+e.len > x.lba <;> cases fl
 all_goals
  simp only [zfc,zlj,zht,zhw,g1,g2,g3,not_false_eq_true,z72,zc7,if_true,if_false,decide_true,decide_false,Bool.true_or,Bool.false_or,Bool.or_false,Option.toList_some,Option.toList_none,List.nil_append,List.append_nil,List.cons_append,List.foldl_cons,List.foldl_nil,and_true,and_false,true_and,false_and,Bool.true_eq_false,reduceCtorEq]
 all_goals first
  | rfl
  | (first
      | (rw [b1_eq _ _ _ _ _ _ _ (by first | assumption | (simp only;omega))];simp only [v6])
      | (rw [b6_eq _ _ _ _ _ _ _ (by first | assumption | (simp only;omega))];simp only [v6])
      | (rw [b8_eq _ _ _ _ _ _ _ _ (by first | assumption | (simp only;omega))];simp only [v6];done)
      | (rw [b9_eq _ _ _ _ _ _ _ _ (by first | assumption | (simp only;omega))];simp only [v6];done)
      | skip)
    <;> (try (rw [b2_eq _ _ _ _ _ _ _ _ (by simp only;omega)];simp only [v6]))
    <;> (try (rw [b3_eq _ _ _ _ _ _ _ _ _ _ (by simp only;omega)];simp only [v6]))
    <;> (try (rw [b4_eq _ _ _ _ _ _ _ _ _ (by simp only;omega)];simp only [v6]))
    <;> (try (rw [b5_eq _ _ _ _ _ _ _ _ _ (by simp only;omega)];simp only [v6]))
    <;> (try (rw [b7_eq _ _ _ _ _ _ _ _ _ (by simp only;omega)];simp only [v6]))
end
end Ab
end Go.Proofs.Ytimcbhhebnikiaa
namespace Go.Proofs.Ytimcbhhebnikiaa
open Go Go.Proofs.Ytimcbhhebnikiaa.Ab
set_option linter.unusedVariables false
set_option linter.unusedSimpArgs false
namespace Ab
theorem zhu {blocks:Int} {l:List Ex} (h:Mk blocks l):∀x∈l,Ck x:=fun x hx=> (zbv (z8y h) x hx).1
theorem zha {blocks:Int} {l:List Ex} (h:Mk blocks l):zc5 l=some l:=
 znr l (by have:=z9e h;omega) fun x hx=> by have:=z8f (zhu h x hx);omega
def z5b (blocks:Int) (x:Ex):Prop:=Ck x∧x.lba+x.len≤blocks
instance (blocks:Int) (x:Ex):Decidable (z5b blocks x):=by unfold z5b;infer_instance
def zhe (blocks:Int) (l:List Ex) (x:Ex):List Ex×Int:=if Mk blocks l then (if z5b blocks x then (put l x,0) else (l,81)) else ([],80)
theorem zwu (x:Ex) (fl:Bool) (e:Ex):(P1 x fl e).length≤3:=by
 unfold P1
 rw [List.length_append,List.length_append]
 have h:∀o:Option Ex,o.toList.length≤1:=fun o=> by cases o <;> simp
 have h1:=h (cut e 0 x.lba)
 have h2:=h (cut e (x.lba+x.len) 64)
 split <;> simp only [List.length_cons,List.length_nil] <;> omega
theorem znt (x:Ex):∀(l:List Ex) (p:Bool×List Ex),(l.foldl (stp x) p).2.length≤p.2.length+3*l.length
 | [],p=> by simp
 | e::l,p=> by
   have h1:=znt x l (stp x p e)
   have h2:=zl8 (P1 x p.1 e) p.2
   have h3:=zwu x p.1 e
   have h4:(stp x p e).2=(P1 x p.1 e).foldl add p.2:=rfl
   rw [h4] at h1
   rw [List.foldl_cons,List.length_cons];omega
theorem zqx (x:Ex) (l:List Ex) (i:Nat) (hi:i < l.length) (p:Bool×List Ex):(l.take (i+1)).foldl (stp x) p=stp x ((l.take i).foldl (stp x) p) (z0 l i):=by
 rw [z86 l i hi,List.foldl_append];rfl
theorem zhr (blocks:Int) (l:List Ex) (x:Ex) (hl:l.length≤4294967296):zlw blocks l x=some (zhe blocks l x):=by
 unfold zlw zhe
 rw [z8j _ _ (by omega),v6,z24]
 by_cases hm:Mk blocks l
 case neg=> rw [zps hm,if_neg hm];rfl
 rw [zr7 hm,z72,if_pos hm,z4b,v6,z24]
 by_cases hx:Ck x
 case neg=> rw [zag hx,zc7,zha hm,v6,if_neg fun h=> hx h.1]
 have px:=z0r hx
 have hlen:=z9e hm
 rw [zfo hx,z72,w8,d5 (x:=x.lba+x.len) (by omega) (by omega)]
 by_cases hf:x.lba+x.len > blocks
 · rw [if_pos hf,zha hm,v6,if_neg fun h=> by have:=h.2;omega]
 rw [if_neg hf,if_pos (show z5b blocks x from ⟨hx,by omega⟩)]
 have hS:=fun (f:Bool×Int×List Ex→Option (List Ex×Int))=> z2m (f:=f) (step:=z1x blocks l x true true) (fun i=> (((l.take i).foldl (stp x) (false,[])).1,(i:Int),((l.take i).foldl (stp x) (false,[])).2)) l.length (fun i hi=> ?_) ?_
 rotate_left
 · have hb:=znt x (l.take i) (false,[])
   rw [List.length_take] at hb
   simp only [List.length_nil] at hb
   rw [zto blocks l x true true _ i _ hi (by omega) (hm.2.1 i hi).1 hx (by omega),zqx _ _ _ hi]
   simp
 · unfold z1x
   simp only [w8]
   rw [if_neg (by omega)]
 refine (hS _).trans ?_
 have hp:((l.take l.length).foldl (stp x) (false,[])).2=put l x:=by rw [List.take_length,znw];rfl
 simp only [w8,hp]
 have hmk:=(z5p hm hx (by omega)).1
 rw [if_neg (by omega),x7 (by first | exact ⟨rfl,t4 _⟩ | exact ⟨trivial,t4 _⟩),zha hmk,v6]
theorem zie {blocks:Int}:∀(o l:List Ex),Mk blocks l→(∀x∈o,z5b blocks x)→Mk blocks (o.foldl put l)
 | [],l,h,_=> h
 | x::o,l,h,hf=> by
   have h1:=hf x (by simp)
   exact zie o (put l x) (z5p h h1.1 h1.2).1 fun y hy=> hf y (by simp [hy])
end Ab
end Go.Proofs.Ytimcbhhebnikiaa
namespace Go.Proofs.Ytimcbhhebnikiaa
open Go Go.Proofs.Ytimcbhhebnikiaa.Ab
set_option linter.unusedVariables false
set_option linter.unusedSimpArgs false
namespace Ab
def z9n (blocks:Int) (l o:List Ex):List Ex×Int:=if Mk blocks l then (if ∀x∈o,z5b blocks x then (o.foldl put l,0) else (l,81)) else ([],80)
theorem zko (o l:List Ex) (i:Nat) (hi:i < o.length):(o.take (i+1)).foldl put l=put ((o.take i).foldl put l) (z0 o i):=by
 rw [z86 o i hi,List.foldl_append];rfl
theorem zj6 {o:List Ex} {n:Nat} {P:Ex→Prop} (hn:n≤o.length) (h:∀j,j < n→P (z0 o j)):∀x∈o.take n,P x:=by
 intro x hx
 obtain ⟨j,hj,e⟩:=List.getElem_of_mem hx
 rw [List.length_take] at hj
 rw [List.getElem_take] at e
 have:=h j (by omega)
 rw [←e]
 have e2:z0 o j=o[j]'(by omega):=by unfold z0;simp [show j < o.length by omega]
 rw [←e2];exact this
def zpn (l o:List Ex) (i:Nat):List Ex×Int:=((o.take (i+1)).foldl put l,((i+1:Nat):Int))
theorem zvt (l o:List Ex) (h:0 < o.length):zpn l o 0=(put l (z0 o 0),1):=by
 unfold zpn;rw [zko o l 0 h];rfl
theorem zcg (blocks:Int) (l o:List Ex) (hl:l.length≤4294967296) (ho:o.length≤4294967296):zla blocks l o=some (z9n blocks l o):=by
 unfold zla z9n
 rw [z8j _ _ (by omega),v6,z24]
 by_cases hm:Mk blocks l
 case neg=> rw [zps hm,if_neg hm];rfl
 rw [zr7 hm,z72,if_pos hm,zha hm,v6,z2t]
 by_cases h0:o.length=0
 · have:o=[]:=List.eq_nil_of_length_eq_zero h0
   subst this
   rw [if_pos (show (0:Int)=(([]:List Ex).length:Int) from rfl),if_pos (by simp)];rfl
 rw [if_neg (by omega),zhr _ _ _ hl,v6,z7g]
 by_cases f0:z5b blocks (z0 o 0)
 case neg=>
  have e:zhe blocks l (z0 o 0)=(l,81):=by unfold zhe;rw [if_pos hm,if_neg f0]
  have hex:¬∀x∈o,z5b blocks x:=fun h=> f0 (h _ (by
   unfold z0;rw [List.getD_eq_getElem?_getD,List.getElem?_eq_getElem (by omega)];exact List.getElem_mem _))
  rw [e,if_neg (by simp),v6,if_neg hex]
 have e:zhe blocks l (z0 o 0)=(put l (z0 o 0),0):=by unfold zhe;rw [if_pos hm,if_pos f0]
 rw [e,if_pos rfl]
 have hQ:(∀i,i < o.length - 1→z5b blocks (z0 o (i+1)))↔∀x∈o,z5b blocks x:=by
  constructor
  · intro h
    have:=zj6 (o:=o) (n:=o.length) (P:=z5b blocks) (Nat.le_refl _) fun j hj=> by
     cases j with
     | zero=> exact f0
     | succ j=> exact h j (by omega)
    rwa [List.take_length] at this
  · intro h i hi
    refine h _ ?_
    unfold z0;rw [List.getD_eq_getElem?_getD,List.getElem?_eq_getElem (by omega)];exact List.getElem_mem _
 have hmk:∀i,i < o.length→(∀j,j < i→z5b blocks (z0 o (j+1)))→Mk blocks ((o.take (i+1)).foldl put l):=fun i hi h=> zie _ _ hm (zj6 (by omega) fun j hj=> by
  cases j with
  | zero=> exact f0
  | succ j=> exact h j (by omega))
 show th (z23 blocks l o true l (put l (z0 o 0),0)) (put l (z0 o 0),1) _=_
 rw [←zvt l o (by omega)]
 refine Eq.trans (zea (some (l,81)) (some (o.foldl put l,0)) (zpn l o) (o.length - 1) (fun i=> z5b blocks (z0 o (i+1))) (∀x∈o,z5b blocks x) hQ (fun i hi hpre hp=> ?_) (fun i hi hpre hp=> ?_) (fun hall=> ?_)) ?_
 · have hk:=hmk i (by omega) hpre
   unfold z23 zpn
   simp only [z2t,z7g,Int.toNat_natCast]
   rw [if_neg (by omega),x7 (by omega),zhr _ _ _ (by have:=z9e hk;omega),v6]
   unfold zhe
   rw [if_pos hk,if_pos hp,if_pos rfl,d5 (by omega) (by omega),zko _ _ _ (show i+1 < o.length by omega)]
   simp
 · have hk:=hmk i (by omega) hpre
   have e2:zhe blocks ((o.take (i+1)).foldl put l) (z0 o (i+1))=((o.take (i+1)).foldl put l,81):=by unfold zhe;rw [if_pos hk,if_neg hp]
   unfold z23 zpn
   simp only [z2t,z7g,Int.toNat_natCast]
   rw [zhr _ _ _ (by have:=z9e hk;omega),e2]
   simp only [v6]
   rw [if_neg (by omega),x7 (by omega),if_neg (by omega),if_neg (by omega),x7 (by omega)]
   exact ⟨rfl,rfl⟩
 · unfold z23 zpn
   simp only [z2t]
   rw [if_pos (by omega),if_pos (by omega),show o.length - 1+1=o.length by omega,List.take_length]
   exact ⟨rfl,rfl⟩
 · by_cases hall:∀x∈o,z5b blocks x
   · rw [if_pos hall,if_pos hall]
   · rw [if_neg hall,if_neg hall]
end Ab
end Go.Proofs.Ytimcbhhebnikiaa
namespace Go.Proofs.Ytimcbhhebnikiaa
open Go Go.Proofs.Ytimcbhhebnikiaa.Ab
set_option linter.unusedVariables false
set_option linter.unusedSimpArgs false
namespace Ab
def gn (g:Int) (x:Ex):Ex:=⟨x.lba,x.len,x.kind,g,x.d⟩
def zec (g:Int) (l:List Ex) (i:Nat):List Ex:=(l.take i).map (gn g)++l.drop i
theorem zqc (g:Int) (l:List Ex) (i:Nat) (hi:i≤l.length):(zec g l i).length=l.length:=by simp [zec];omega
theorem zt0 (g:Int) (l:List Ex) (i:Nat) (hi:i < l.length):z0 (zec g l i) i=z0 l i:=by
 have hl:((l.take i).map (gn g)).length=i:=by simp;omega
 unfold z0 zec
 rw [List.getD_eq_getElem?_getD,List.getD_eq_getElem?_getD,List.getElem?_append_right (by omega),hl,List.getElem?_drop]
 simp
theorem zrn (g:Int) (l:List Ex) (i:Nat) (hi:i < l.length):(zec g l i).set i (gn g (z0 l i))=zec g l (i+1):=by
 have hl:((l.take i).map (gn g)).length=i:=by simp;omega
 unfold zec
 rw [zom ⟨0,0,0,0,[]⟩ l i hi,List.set_append_right _ _ (by omega),hl,Nat.sub_self,List.set_cons_zero,zcy ⟨0,0,0,0,[]⟩ l i hi,List.map_append,List.append_assoc]
 rfl
noncomputable def genB (g:Int) (l:List Ex) (s7:Int×List Ex):Option (Int×List Ex):=
 (tb ((decide (s7.1 < (l.length:Int))))
  (tp (((0≤s7.1)∧(s7.1 < (l.length:Int))))
   (tp ((((List.length [(AV.i g)])=1)∧((((0+(s7.1.toNat*5))+3)+(List.length [(AV.i g)]))≤(List.length (List.flatMap Ex.cells s7.2)))))
    (some (((wr (s7.1+1)),(List.set s7.2 s7.1.toNat (Ex.mk (z0 s7.2 s7.1.toNat).lba (z0 s7.2 s7.1.toNat).len (z0 s7.2 s7.1.toNat).kind g (z0 s7.2 s7.1.toNat).d)))))))
  none)
theorem zap {α:Type} (g:Int) (l:List Ex) (hl:l.length≤4294967296) (f:Int×List Ex→Option α):th (genB g l) (0,l) f=f ((l.length:Int),l.map (gn g)):=by
 have h0:((0:Int),l)=(((0:Nat):Int),zec g l 0):=by simp [zec]
 rw [h0,z2m (step:=genB g l) (f:=f) (fun i=> ((i:Int),zec g l i)) l.length]
 · simp [zec]
 · intro i hi
   unfold genB
   simp only [w8,Int.toNat_natCast]
   rw [if_pos (by omega),x7 (by omega),x7 ⟨rfl,by rw [t4,zqc g l i (by omega)];simp;omega⟩,d5 (by omega) (by omega),zt0 g l i hi]
   exact congrArg some (Prod.ext (by simp) (zrn g l i hi))
 · unfold genB
   simp only [w8]
   rw [if_neg (by omega)]
theorem th_ix {α β:Type} (l:List β) (d:β) (p:β→Bool) {step:Int→Option Int} {f:Int→Option α} (hs:∀i:Nat,i < l.length→p (l.getD i d)=false→step (i:Int)=some ((i:Int)+1)) (hf:∀i:Nat,i < l.length→p (l.getD i d)=true→step (i:Int)=none) (he:step (l.length:Int)=none):th step 0 f=f ((l.findIdx p:Nat):Int):=by
 have gd:∀i (hi:i < l.length),l.getD i d=l[i]:=fun i hi=> by simp [hi]
 have hle:l.findIdx p≤l.length:=List.findIdx_le_length
 have:=z2m (step:=step) (f:=f) (fun i=> (i:Int)) (l.findIdx p) (fun i hi=> hs i (by omega) (by
  rw [gd i (by omega)]
  have:=List.not_of_lt_findIdx hi
  simpa using this)) (by
  rcases Nat.lt_or_ge (l.findIdx p) l.length with g | g
  · exact hf _ g (by rw [gd _ g];exact List.findIdx_getElem (w:=g))
  · have:l.findIdx p=l.length:=by omega
    rw [this];exact he)
 simpa using this
def lyS (s:Sa) (o:List Ex):Sa×Int:=
 if (z9n s.blocks s.map (o.map (gn s.gen))).2=0 then (⟨s.blocks,s.gen,(z9n s.blocks s.map (o.map (gn s.gen))).1,s.points,s.last,s.staged⟩,0) else (s,(z9n s.blocks s.map (o.map (gn s.gen))).2)
def mkS (s:Sa) (id:Int):Sa×Int:=
 if id≤s.last then (s,112) else if s.points.length=4 then (s,113) else if s.gen=2147483647 then (s,113) else (⟨s.blocks,s.gen+1,s.map,s.points++[⟨id,s.gen,s.map⟩],id,s.staged⟩,0)
def ixP (l:List Po) (id:Int):Nat:=l.findIdx fun p=> p.id==id
def drS (s:Sa) (id:Int):Sa×Int:=
 if ixP s.points id < s.points.length then (⟨s.blocks,s.gen,s.map,s.points.take (ixP s.points id)++s.points.drop (ixP s.points id+1),s.last,s.staged⟩,0) else (s,111)
def stS (s:Sa) (d:List UInt8):Sa×Int:=
 if (d.length:Int) > 4000 - s.staged.length then (s,113) else (⟨s.blocks,s.gen,s.map,s.points,s.last,s.staged++d⟩,0)
def abS (s:Sa):Sa:=⟨s.blocks,s.gen,s.map,s.points,s.last,[]⟩
def apS (s:Sa) (c:Ch):Sa×Int:=
 if (lyS s c.list).2=0 then (if (mkS (lyS s c.list).1 c.id).2=0 then (abS (mkS (lyS s c.list).1 c.id).1,0) else (s,(mkS (lyS s c.list).1 c.id).2)) else (s,(lyS s c.list).2)
def doK (s:Sa) (c:Ch):Sa×Int:=
 if c.kind=1 then lyS s [⟨c.lba,c.n,2,0,c.d⟩] else if c.kind=2 then lyS s [⟨c.lba,c.n,1,0,[]⟩] else if c.kind=3 then lyS s [⟨c.lba,c.n,0,0,[]⟩] else
 if c.kind=4 then mkS s c.id else if c.kind=5 then drS s c.id else if c.kind=6 then stS s c.d else if c.kind=7 then (abS s,0) else apS s c
open Classical in
noncomputable def doS (s:Sa) (c:Ch):Sa×Int:=if SOk s then (if CkH c then doK s c else (s,100)) else (sa0,110)
theorem zgt {s:Sa} {c:Ch} (h:SOk s) (hc:CkH c):doS s c=doK s c:=by unfold doS;rw [if_pos h,if_pos hc]
theorem zdl {s:Sa} {c:Ch} (h:SOk s) (hc:¬CkH c):doS s c=(s,100):=by unfold doS;rw [if_pos h,if_neg hc]
theorem doS_f {s:Sa} {c:Ch} (h:¬SOk s):doS s c=(sa0,110):=by unfold doS;rw [if_neg h]
def Hz (c:Ch):Prop:=c.d.length≤1000000∧Sx c.list
theorem mk_sx {b:Int} {l:List Ex} (h:Mk b l):Sx l:=⟨by have:=z9e h;omega,fun x hx=> by have:=z8f (zhu h x hx);omega⟩
theorem zhm {b:Int} {m o:List Ex} (h:(z9n b m o).2=0):Sx (z9n b m o).1∧Mk b m∧(∀x∈o,z5b b x)∧(z9n b m o).1=o.foldl put m:=by
 unfold z9n at h⊢
 by_cases h1:Mk b m
 · by_cases h2:∀x∈o,z5b b x
   · rw [if_pos h1,if_pos h2];exact ⟨mk_sx (zie o m h1 h2),h1,h2,rfl⟩
   · rw [if_pos h1,if_neg h2] at h;cases h
 · rw [if_neg h1] at h;cases h
theorem zmm {s:Sa} {c:Ch} (hz:Sz s) (hc:Hz c):sDo s c=some (doS s c):=by
 unfold sDo
 rw [zgg hz,v6,z7g]
 by_cases hs:SOk s
 case neg=> rw [zkk hs,if_neg (by omega),doS_f hs];rfl
 rw [st_t hs,if_pos rfl,zpb c (by have:=hc.2.1;omega),v6,z24,w8]
 simp only [zsu hz,zux hs,v6,w8,z2t]
 by_cases hk:CkH c
 case neg=> rw [if_neg hk,zdl hs hk,x7 ⟨trivial,t4 _⟩]
 rw [if_pos hk,zgt hs hk]
 have kk:=z7m hk
 have hone:∀x:Ex,x.d.length≤1000000→Sx [x]:=fun x hx=> by
  refine ⟨by simp,fun y hy=> ?_⟩
  have e:y=x:=by simpa using hy
  rw [e];exact hx
 have hw:wr (s.gen+1)=s.gen+1:=by have:=hs;unfold SOk at this;exact d5 (by omega) (by omega)
 unfold doK
 by_cases k1:c.kind=1
 · rw [if_pos (by omega),if_pos k1,z1w (hone _ hc.1),v6]
   refine (zap s.gen _ (by simp) _).trans ?_
   rw [if_neg (by simp),x7 ⟨trivial,t4 _⟩,x7 ⟨trivial,by rw [t4];simp⟩,zcg _ _ _ (by have:=hz.1.1;omega) (by simp),v6]
   unfold lyS
   show (if (z9n s.blocks s.map (List.map (gn s.gen) [_])).2=0 then _ else _)=_
   split <;> rfl
 rw [if_neg (by omega),if_neg k1]
 by_cases k2:c.kind=2
 · rw [if_pos (by omega),if_pos k2,z1w (hone _ (by simp)),v6]
   refine (zap s.gen _ (by simp) _).trans ?_
   rw [if_neg (by simp),x7 ⟨trivial,t4 _⟩,x7 ⟨trivial,by rw [t4];simp⟩,zcg _ _ _ (by have:=hz.1.1;omega) (by simp),v6]
   unfold lyS
   show (if (z9n s.blocks s.map (List.map (gn s.gen) [_])).2=0 then _ else _)=_
   split <;> rfl
 rw [if_neg (by omega),if_neg k2]
 by_cases k3:c.kind=3
 · rw [if_pos (by omega),if_pos k3,z1w (hone _ (by simp)),v6]
   refine (zap s.gen _ (by simp) _).trans ?_
   rw [if_neg (by simp),x7 ⟨trivial,t4 _⟩,x7 ⟨trivial,by rw [t4];simp⟩,zcg _ _ _ (by have:=hz.1.1;omega) (by simp),v6]
   unfold lyS
   show (if (z9n s.blocks s.map (List.map (gn s.gen) [_])).2=0 then _ else _)=_
   split <;> rfl
 rw [if_neg (by omega),if_neg k3]
 have hpl:∀l:List Ex,(List.length ((List.flatMap Po.cells s.points)++[(AV.i c.id),(AV.i s.gen),(AV.rf 9 5 0 l.length)]))=(s.points.length+1)*3:=fun l=> by rw [List.length_append,z0o];simp;omega
 by_cases k4:c.kind=4
 · rw [if_pos (by omega),if_pos k4]
   unfold mkS
   by_cases h1:c.id≤s.last
   · rw [if_pos h1,if_pos h1,x7 ⟨trivial,t4 _⟩]
   rw [if_neg h1,if_neg h1]
   by_cases h2:s.points.length=4
   · rw [if_pos (by omega),if_pos h2,x7 ⟨trivial,t4 _⟩]
   rw [if_neg (by omega),if_neg h2]
   by_cases h3:s.gen=2147483647
   · rw [if_pos h3,if_pos h3,x7 ⟨trivial,t4 _⟩]
   rw [if_neg h3,if_neg h3,x7 ⟨trivial,t4 _⟩,z1w hz.1,v6,x7 ⟨z0o _,by have:=hz.2.1;omega⟩,x7 ⟨trivial,by first | exact hpl _ | (rw [List.length_append,z0o];simp;omega)⟩,hw,List.take_length]
 rw [if_neg (by omega),if_neg k4]
 by_cases k5:c.kind=5
 · rw [if_pos (by omega),if_pos k5]
   have hp:=hz.2.1
   refine (th_ix s.points ⟨0,0,[]⟩ (fun p=> p.id==c.id) ?_ ?_ ?_).trans ?_
   · intro i hi hp
     unfold z3l
     have hp':¬(u0 s.points i).id=c.id:=by simpa [u0] using hp
     simp only [w8,z2t,Int.toNat_natCast]
     rw [if_pos (by omega),x7 (by omega),if_neg hp',d5 (by omega) (by omega)]
   · intro i hi hp
     unfold z3l
     have hp':(u0 s.points i).id=c.id:=by simpa [u0] using hp
     simp only [w8,z2t,Int.toNat_natCast]
     rw [if_pos (by omega),x7 (by omega),if_pos hp']
   · unfold z3l
     simp only [w8]
     rw [if_neg (by omega)]
   · have hle:ixP s.points c.id≤s.points.length:=List.findIdx_le_length
     have hix:List.findIdx (fun p=> p.id==c.id) s.points=ixP s.points c.id:=rfl
     rw [hix]
     simp only [Int.toNat_natCast]
     unfold drS
     by_cases h:ixP s.points c.id < s.points.length
     · have hid:(u0 s.points (ixP s.points c.id)).id=c.id:=by
        have:=List.findIdx_getElem (p:=fun p:Po=> p.id==c.id) (w:=h)
        unfold u0
        rw [List.getD_eq_getElem?_getD,List.getElem?_eq_getElem h]
        exact eq_of_beq this
       rw [if_pos (by omega),if_pos h,x7 (by omega),if_pos hid,if_neg (by omega),x7 (by omega),x7 (z0o _),x7 (d5 (by omega) (by omega)),x7 ⟨trivial,t4 _⟩,x7 ⟨trivial,by rw [z0o];simp;omega⟩]
     · rw [if_neg (by omega),if_neg h,x7 ⟨trivial,t4 _⟩]
 rw [if_neg (by omega),if_neg k5]
 by_cases k6:c.kind=6
 · have h4:wr (4000 - (s.staged.length:Int))=4000 - (s.staged.length:Int):=d5 (by have:=hz.2.2.2;omega) (by omega)
   rw [if_pos (by omega),if_pos k6,h4]
   unfold stS
   by_cases h1:(c.d.length:Int) > 4000 - (s.staged.length:Int)
   · rw [if_pos h1,if_pos h1,x7 ⟨trivial,t4 _⟩]
   · rw [if_neg h1,if_neg h1,x7 ⟨by simp,by have:=hz.2.2.2;have:=hc.1;omega⟩,x7 ⟨trivial,t4 _⟩]
 rw [if_neg (by omega),if_neg k6]
 by_cases k7:c.kind=7
 · rw [if_pos (by omega),if_pos k7,x7 ⟨trivial,t4 _⟩]
   rfl
 rw [if_neg (by omega),if_neg k7,if_pos (by omega),z1w hc.2,v6]
 refine (zap s.gen _ (by have:=hc.2.1;omega) _).trans ?_
 rw [if_neg (by simp),x7 ⟨trivial,t4 _⟩,x7 ⟨trivial,by rw [t4];simp⟩,zcg _ _ _ (by have:=hz.1.1;omega) (by simp;have:=hc.2.1;omega),v6]
 unfold apS lyS
 show (if (z9n s.blocks s.map (List.map (gn s.gen) c.list)).2=0 then _ else _)=_
 by_cases h0:(z9n s.blocks s.map (c.list.map (gn s.gen))).2=0
 case neg=> rw [if_neg h0,if_neg h0,if_neg h0]
 rw [if_pos h0,if_pos h0,if_pos rfl]
 unfold mkS
 simp only
 by_cases h1:c.id≤s.last
 · rw [if_pos h1,if_pos h1];rfl
 rw [if_neg h1,if_neg h1]
 by_cases h2:s.points.length=4
 · rw [if_pos (by omega),if_pos h2];rfl
 rw [if_neg (by omega),if_neg h2]
 by_cases h3:s.gen=2147483647
 · rw [if_pos h3,if_pos h3];rfl
 rw [if_neg h3,if_neg h3,z1w (zhm h0).1,v6,x7 ⟨z0o _,by have:=hz.2.1;omega⟩,x7 ⟨trivial,by rw [List.length_append,z0o];simp;omega⟩,hw,List.take_length]
 rfl
end Ab
end Go.Proofs.Ytimcbhhebnikiaa
namespace Go.Proofs.Ytimcbhhebnikiaa
open Go Go.Proofs.Ytimcbhhebnikiaa.Ab
set_option linter.unusedVariables false
set_option linter.unusedSimpArgs false
namespace Ab
theorem ztc {blocks:Int} {l:List Ex} (h:Mk blocks l) {o:List Ex} (ho:∀x∈o,x∈l):(∀x∈o,z5b blocks x)∧(∀x∈o,∀y∈o,∀k,x.lba≤k→k < x.lba+x.len→y.lba≤k→k < y.lba+y.len→bAt x k=bAt y k):=by
 refine ⟨fun x hx=> ⟨zhu h x (ho x hx),?_⟩,fun x hx y hy k a1 a2 b1 b2=> ?_⟩
 · have hg:=zrv (z8y h) x (ho x hx)
   have h3:=h.2.2
   omega
 · exact zmd (z8y h) (k:=k) ⟨x,ho x hx,a1,a2,rfl⟩ ⟨y,ho y hy,b1,b2,rfl⟩
def new (blocks:Int):List Ex:=[⟨0,blocks,0,0,[]⟩]
theorem zwn {blocks:Int} (h:1≤blocks∧blocks≤64):Mk blocks (new blocks):=by
 refine zuz (l:=new blocks) ⟨?_,rfl,(by intro y hy;cases hy),trivial⟩ (by simp [new,sl]) h.1
 refine ⟨by simp,by simp,by simp only;omega,by simp only;omega,by simp,by simp,by simp,by simp,by simp,by simp⟩
end Ab
end Go.Proofs.Ytimcbhhebnikiaa
namespace Go.Proofs.Ytimcbhhebnikiaa
open Go Go.Proofs.Ytimcbhhebnikiaa.Ab
set_option linter.unusedVariables false
set_option linter.unusedSimpArgs false
namespace Ab
def s1 (b:Int):Sa:=⟨b,1,new b,[],0,[]⟩
theorem nw_eq {b:Int} (h:1≤b∧b≤64):nw b=(s1 b,0):=by unfold nw;rw [if_pos h];rfl
theorem s1_ok {b:Int} (h:1≤b∧b≤64):SOk (s1 b):=by
 refine ⟨⟨zwn h,fun x hx=> ?_⟩,by simp [s1],by simp [s1],by simp [s1],by simp [s1],by simp [s1],by simp [s1],fun i hi=> by simp [s1] at hi,zvm _ _⟩
 have:x=⟨0,b,0,0,[]⟩:=by simpa [s1,new] using hx
 rw [this];simp [s1]
theorem zh4 {s:Sa} {d:List UInt8} (h:SOk s) (hd:d.length≤4000):SOk ⟨s.blocks,s.gen,s.map,s.points,s.last,d⟩:=by
 obtain ⟨h1,h2,h3,h4,h5,h6,h7,h8,h9⟩:=h
 exact ⟨h1,h2,h3,h4,h5,h6,hd,h8,h9⟩
end Ab
end Go.Proofs.Ytimcbhhebnikiaa
namespace Go.Proofs.Ytimcbhhebnikiaa
open Go Go.Proofs.Ytimcbhhebnikiaa.Ab
set_option linter.unusedVariables false
set_option linter.unusedSimpArgs false
namespace Ab
theorem zr8 {b:Int} {A B C:List Ex} {g h:Int} (hB:Mk b B) (hC:Mk b C) (hg:g≤h) (h1:Kp A B g) (h2:Kp B C h):Kp A C g:=by
 intro x hx hxg y hy k k1 k2 k3 k4
 have hsub:∀z∈[x],z∈C:=fun z hz=> by
  have e:z=x:=by simpa using hz
  rw [e];exact hx
 have fx:=(ztc hC hsub).1 x (by simp)
 have px:=z0r fx.1
 obtain ⟨z,hz,q1,q2⟩:=zs8 (z8y hB) (k:=k) (by omega) (by have:=hB.2.2;have:=fx.2;omega)
 have e1:=h2 x hx (by omega) z hz k k1 k2 q1 q2
 have e2:x.gen=z.gen:=congrArg (fun c:Int×Int×List UInt8=> c.2.1) e1
 exact e1.trans (h1 z hz (by omega) y hy k q1 q2 k3 k4)
def rmS (s:Sa) (k:Nat):Sa:=⟨s.blocks,s.gen,s.map,s.points.take k++s.points.drop (k+1),s.last,s.staged⟩
theorem zw9 {s:Sa} {k:Nat} (hk:k < s.points.length):(rmS s k).points.length=s.points.length - 1:=by simp [rmS];omega
theorem zuh {s:Sa} {k:Nat} (hk:k < s.points.length) (i:Nat):u0 (rmS s k).points i=if i < k then u0 s.points i else u0 s.points (i+1):=by
 have hl:(s.points.take k).length=k:=by simp;omega
 unfold u0 rmS
 simp only [List.getD_eq_getElem?_getD]
 by_cases h:i < k
 · rw [if_pos h,List.getElem?_append_left (by omega),List.getElem?_take,if_pos h]
 · rw [if_neg h,List.getElem?_append_right (by omega),hl,List.getElem?_drop,show k+1+(i - k)=i+1 by omega]
theorem zum {s:Sa} {k:Nat} (hk:k < s.points.length) (i:Nat):pv (rmS s k) i=if i≤k then pv s i else pv s (i+1):=by
 cases i with
 | zero=> simp [pv]
 | succ i=>
   rw [z21,zuh hk,z21,z21]
   by_cases h:i < k
   · rw [if_pos h,if_pos (by omega)]
   · rw [if_neg h,if_neg (by omega)]
theorem zuy {s:Sa} (h:SOk s) {k:Nat} (hk:k < s.points.length) {C:List Ex} (hC:Mk s.blocks C) (h2:Kp (pv s (k+1)).map C (pv s (k+1)).gen):Kp (pv s k).map C (pv s k).gen:=by
 have hp:=h.2.2.2.2.2.2.2.1 k hk
 rw [z21] at h2
 exact zr8 hp.1.1 hC (by have:=hp.2.2.2.1;omega) hp.2.2.2.2.2 h2
theorem rm_ok {s:Sa} (h:SOk s) {k:Nat} (hk:k < s.points.length):SOk (rmS s k):=by
 have hlen:=zw9 hk
 have h4:=h.2.2.2.1
 refine ⟨h.1,h.2.1,h.2.2.1,by omega,h.2.2.2.2.1,h.2.2.2.2.2.1,h.2.2.2.2.2.2.1,fun i hi=> ?_,?_⟩
 · rw [hlen] at hi
   unfold PP
   rw [zuh hk,zum hk]
   by_cases h1:i < k
   · rw [if_pos h1,if_pos (by omega)]
     exact h.2.2.2.2.2.2.2.1 i (by omega)
   rw [if_neg h1]
   have hp:=h.2.2.2.2.2.2.2.1 (i+1) (by omega)
   by_cases h2:i≤k
   · have:i=k:=by omega
     subst this
     rw [if_pos (Nat.le_refl _)]
     have hq:=h.2.2.2.2.2.2.2.1 i hk
     have e:pv s (i+1)=u0 s.points i:=z21 s i
     refine ⟨hp.1,?_,hp.2.2.1,?_,hp.2.2.2.2.1,zuy h hk hp.1.1 hp.2.2.2.2.2⟩
     · have:=hp.2.1;have:=hq.2.1;rw [e] at*;omega
     · have:=hp.2.2.2.1;have:=hq.2.2.2.1;rw [e] at*;omega
   · rw [if_neg h2];exact hp
 · rw [hlen,zum hk]
   have hf:=h.2.2.2.2.2.2.2.2
   by_cases h1:s.points.length - 1≤k
   · rw [if_pos h1]
     have e:s.points.length=k+1:=by omega
     rw [show s.points.length - 1=k by omega]
     rw [e] at hf
     exact zuy h hk h.1.1 hf
   · rw [if_neg h1,show s.points.length - 1+1=s.points.length by omega];exact hf
end Ab
end Go.Proofs.Ytimcbhhebnikiaa
namespace Go.Proofs.Ytimcbhhebnikiaa
open Go Go.Proofs.Ytimcbhhebnikiaa.Ab
set_option linter.unusedVariables false
set_option linter.unusedSimpArgs false
namespace Ab
theorem zia {l:List Ex} {x:Ex} (hx:x∈l) {k:Int} (h1:x.lba≤k) (h2:k < x.lba+x.len):Den l k (bAt x k):=⟨x,hx,h1,h2,rfl⟩
theorem zvb {b g:Int} {m:List Ex} {y:Ex} (h:Up b m g) (hy:z5b b y) (hg:y.gen≤g):Up b (put m y) g:=by
 obtain ⟨p1,p2⟩:=z5p h.1 hy.1 hy.2
 refine ⟨p1,fun x hx=> ?_⟩
 have px:=z0r ((zbv (z8y p1) x hx).1)
 have hd:=zia hx (k:=x.lba) (by omega) (by omega)
 rcases (p2 _ _).1 hd with ⟨_,z,hz,_,_,e⟩ | ⟨_,_,e⟩
 · have:x.gen=z.gen:=congrArg (fun c:Int×Int×List UInt8=> c.2.1) e
   rw [this];exact h.2 z hz
 · have:x.gen=y.gen:=congrArg (fun c:Int×Int×List UInt8=> c.2.1) e
   omega
theorem zw0 {b g:Int} {was m:List Ex} {y:Ex} (h:Mk b m) (hy:z5b b y) (hg:g < y.gen) (hk:Kp was m g):Kp was (put m y) g:=by
 obtain ⟨p1,p2⟩:=z5p h hy.1 hy.2
 intro x hx hxg w hw k k1 k2 k3 k4
 rcases (p2 _ _).1 (zia hx k1 k2) with ⟨_,z,hz,q1,q2,e⟩ | ⟨_,_,e⟩
 · have e2:x.gen=z.gen:=congrArg (fun c:Int×Int×List UInt8=> c.2.1) e
   exact e.trans (hk z hz (by omega) w hw k q1 q2 k3 k4)
 · have:x.gen=y.gen:=congrArg (fun c:Int×Int×List UInt8=> c.2.1) e
   omega
theorem zo3 {b G:Int}:∀(o m:List Ex),Up b m G→(∀x∈o,z5b b x)→(∀x∈o,x.gen=G)→Up b (o.foldl put m) G
 | [],m,h,_,_=> h
 | y::o,m,h,ho,hg=> zo3 o _ (zvb h (ho y (by simp)) (Int.le_of_eq (hg y (by simp)))) (fun x hx=> ho x (by simp [hx])) fun x hx=> hg x (by simp [hx])
theorem znx {b G g:Int} {was:List Ex} (hG:g < G):∀(o m:List Ex),Mk b m→(∀x∈o,z5b b x)→(∀x∈o,x.gen=G)→Kp was m g→Kp was (o.foldl put m) g
 | [],m,_,_,_,h=> h
 | y::o,m,hm,ho,hg,h=> znx hG o _ ((z5p hm (ho y (by simp)).1 (ho y (by simp)).2).1) (fun x hx=> ho x (by simp [hx])) (fun x hx=> hg x (by simp [hx])) (zw0 hm (ho y (by simp)) (by rw [hg y (by simp)];exact hG) h)
theorem zn8 {g:Int} {o:List Ex}:∀x∈o.map (gn g),x.gen=g:=by
 intro x hx
 obtain ⟨y,_,rfl⟩:=List.mem_map.1 hx
 rfl
theorem zh9 {s:Sa} (h:SOk s):(pv s s.points.length).gen < s.gen:=by
 rcases Nat.eq_zero_or_pos s.points.length with g | g
 · rw [g];have:=h.2.1;simp [pv];omega
 · obtain ⟨j,hj⟩:∃j,s.points.length=j+1:=⟨s.points.length - 1,by omega⟩
   rw [hj,z21]
   exact (h.2.2.2.2.2.2.2.1 j (by omega)).2.2.2.2.1
theorem zrq {s:Sa} (h:SOk s):(pv s s.points.length).id≤s.last:=by
 rcases Nat.eq_zero_or_pos s.points.length with g | g
 · rw [g];have:=h.2.2.2.2.1;simp [pv];omega
 · obtain ⟨j,hj⟩:∃j,s.points.length=j+1:=⟨s.points.length - 1,by omega⟩
   rw [hj,z21]
   exact (h.2.2.2.2.2.2.2.1 j (by omega)).2.2.1
theorem zwc {s:Sa} {m:List Ex} (h:SOk s) (h1:Up s.blocks m s.gen) (h2:Kp (pv s s.points.length).map m (pv s s.points.length).gen):SOk ⟨s.blocks,s.gen,m,s.points,s.last,s.staged⟩:=by
 obtain ⟨_,a2,a3,a4,a5,a6,a7,a8,_⟩:=h
 exact ⟨h1,a2,a3,a4,a5,a6,a7,a8,h2⟩
theorem zol {s:Sa} (h:SOk s) (o:List Ex):SOk (lyS s o).1:=by
 unfold lyS
 split
 · rename_i h0
   obtain ⟨_,q1,q2,q3⟩:=zhm h0
   rw [q3]
   exact zwc h (zo3 _ _ h.1 q2 zn8) (znx (zh9 h) _ _ h.1.1 q2 zn8 h.2.2.2.2.2.2.2.2)
 · exact h
theorem zu4 {b:Int} {m:List Ex} (h:Mk b m) (g:Int):Kp m m g:=fun x hx _ y hy k k1 k2 k3 k4=> zmd (z8y h) (zia hx k1 k2) (zia hy k3 k4)
theorem zog {l:List Po} {p:Po} {i:Nat} (hi:i < l.length):u0 (l++[p]) i=u0 l i:=by
 unfold u0;simp only [List.getD_eq_getElem?_getD];rw [List.getElem?_append_left hi]
theorem zof (l:List Po) (p:Po):u0 (l++[p]) l.length=p:=by
 unfold u0;simp
def adS (s:Sa) (id:Int):Sa:=⟨s.blocks,s.gen+1,s.map,s.points++[⟨id,s.gen,s.map⟩],id,s.staged⟩
theorem zo9 {s:Sa} {id:Int} {i:Nat} (hi:i≤s.points.length):pv (adS s id) i=pv s i:=by
 cases i with
 | zero=> simp [pv]
 | succ i=> rw [z21,z21];exact zog (by omega)
theorem ad_ok {s:Sa} (h:SOk s) {id:Int} (h1:¬id≤s.last) (h2:¬s.points.length=4) (h3:¬s.gen=2147483647) (h4:id≤2147483647):SOk (adS s id):=by
 obtain ⟨a1,a2,a3,a4,a5,a6,a7,a8,a9⟩:=h
 have hlt:=zh9 ⟨a1,a2,a3,a4,a5,a6,a7,a8,a9⟩
 have hid:=zrq ⟨a1,a2,a3,a4,a5,a6,a7,a8,a9⟩
 have hl:(adS s id).points.length=s.points.length+1:=by simp [adS]
 refine ⟨⟨a1.1,fun x hx=> by have:=a1.2 x hx;show x.gen≤s.gen+1;omega⟩,by show 1≤s.gen+1;omega,by show s.gen+1≤_;omega,by omega,by show 0≤id;omega,h4,a7,fun i hi=> ?_,?_⟩
 · rw [hl] at hi
   unfold PP
   by_cases g:i < s.points.length
   · have hp:=a8 i g
     rw [show (adS s id).points=s.points++[⟨id,s.gen,s.map⟩] from rfl,zog g,zo9 (by omega)]
     exact ⟨hp.1,hp.2.1,by have:=hp.2.2.1;show _≤id;omega,hp.2.2.2.1,by have:=hp.2.2.2.2.1;show _ < s.gen+1;omega,hp.2.2.2.2.2⟩
   · have e:i=s.points.length:=by omega
     subst e
     rw [show (adS s id).points=s.points++[⟨id,s.gen,s.map⟩] from rfl,zof,zo9 (Nat.le_refl _)]
     exact ⟨a1,by show _ < id;omega,Int.le_refl _,hlt,by show s.gen < s.gen+1;omega,a9⟩
 · rw [hl,z21,show (adS s id).points=s.points++[⟨id,s.gen,s.map⟩] from rfl,zof]
   exact zu4 a1.1 _
theorem zuj {s:Sa} (h:SOk s) {id:Int} (h4:id≤2147483647):SOk (mkS s id).1:=by
 unfold mkS
 split
 · exact h
 split
 · exact h
 split
 · exact h
 · rename_i h1 h2 h3
   exact ad_ok h h1 h2 h3 h4
theorem dr_ok {s:Sa} (h:SOk s) (id:Int):SOk (drS s id).1:=by
 unfold drS
 split
 · rename_i h1;exact rm_ok h h1
 · exact h
theorem st_ok {s:Sa} (h:SOk s) (d:List UInt8):SOk (stS s d).1:=by
 unfold stS
 split
 · exact h
 · rename_i h1
   exact zh4 h (by simp;omega)
theorem zuk {s:Sa} (h:SOk s):SOk (abS s):=zh4 h (by simp)
theorem do_ok {s:Sa} {c:Ch} (h:SOk s) (hc:CkH c):SOk (doK s c).1:=by
 have kk:=z7m hc
 unfold doK
 split
 · exact zol h _
 split
 · exact zol h _
 split
 · exact zol h _
 split
 · rename_i k4;exact zuj h (((zuw k4).1 hc).2.1.2)
 split
 · exact dr_ok h _
 split
 · exact st_ok h _
 split
 · exact zuk h
 · have k8:c.kind=8:=by omega
   unfold apS
   split
   · split
     · exact zuk (zuj (zol h _) (((znk k8).1 hc).2.1.2))
     · exact h
   · exact h
theorem zn2 {s:Sa} (h:SOk s) (c:Ch):SOk (doS s c).1:=by
 by_cases hc:CkH c
 · rw [zgt h hc];exact do_ok h hc
 · rw [zdl h hc];exact h
theorem z93 {s:Sa} (h:SOk s) (c:Ch):(doS s c).1.blocks=s.blocks:=by
 by_cases hc:CkH c
 case neg=> rw [zdl h hc]
 rw [zgt h hc]
 have hl:∀o,(lyS s o).1.blocks=s.blocks:=fun o=> by unfold lyS;split <;> rfl
 have hm:∀(t:Sa) id,(mkS t id).1.blocks=t.blocks:=fun t id=> by
  unfold mkS
  split
  · rfl
  split
  · rfl
  split <;> rfl
 unfold doK
 split
 · exact hl _
 split
 · exact hl _
 split
 · exact hl _
 split
 · exact hm _ _
 split
 · unfold drS;split <;> rfl
 split
 · unfold stS;split <;> rfl
 split
 · rfl
 · unfold apS
   split
   · split
     · show (mkS _ _).1.blocks=_;rw [hm,hl]
     · rfl
   · rfl
end Ab
end Go.Proofs.Ytimcbhhebnikiaa
namespace Go.Proofs.Ytimcbhhebnikiaa
open Go Go.Proofs.Ytimcbhhebnikiaa.Ab
set_option linter.unusedVariables false
set_option linter.unusedSimpArgs false
namespace Ab
def Nw (g:Int) (m:List Ex) (k:Int):Prop:=∃x∈m,g < x.gen∧x.lba≤k∧k < x.lba+x.len
def On (o:List Ex) (k:Int):Prop:=∃x∈o,x.lba≤k∧k < x.lba+x.len
theorem zsp {g:Int} {m:List Ex} {k:Int}:Nw g m k↔∃c:Int×Int×List UInt8,Den m k c∧g < c.2.1:=by
 constructor
 · rintro ⟨x,hx,h1,h2,h3⟩
   exact ⟨bAt x k,⟨x,hx,h2,h3,rfl⟩,h1⟩
 · rintro ⟨c,⟨x,hx,h2,h3,rfl⟩,h1⟩
   exact ⟨x,hx,h1,h2,h3⟩
theorem zvf {b g:Int} {m:List Ex} {y:Ex} {k:Int} (h:Mk b m) (hy:z5b b y) (hg:g < y.gen):Nw g (put m y) k↔Nw g m k∨(y.lba≤k∧k < y.lba+y.len):=by
 obtain ⟨_,p2⟩:=z5p h hy.1 hy.2
 rw [zsp,zsp]
 constructor
 · rintro ⟨c,hc,hgc⟩
   rcases (p2 _ _).1 hc with ⟨_,hd⟩ | ⟨q1,q2,e⟩
   · exact .inl ⟨c,hd,hgc⟩
   · exact .inr ⟨q1,q2⟩
 · intro q
   by_cases hk:y.lba≤k∧k < y.lba+y.len
   · exact ⟨bAt y k,(p2 _ _).2 (.inr ⟨hk.1,hk.2,rfl⟩),hg⟩
   · rcases q with ⟨c,hc,hgc⟩ | q
     · exact ⟨c,(p2 _ _).2 (.inl ⟨by omega,hc⟩),hgc⟩
     · exact absurd q hk
theorem zo0 {b g k:Int}:∀(o m:List Ex),Mk b m→(∀x∈o,z5b b x)→(∀x∈o,g < x.gen)→(Nw g (o.foldl put m) k↔Nw g m k∨On o k)
 | [],m,_,_,_=> by simp [On]
 | y::o,m,hm,ho,hg=> by
   have hy:=ho y (by simp)
   rw [List.foldl_cons,zo0 o _ ((z5p hm hy.1 hy.2).1) (fun x hx=> ho x (by simp [hx])) (fun x hx=> hg x (by simp [hx])),zvf hm hy (hg y (by simp))]
   simp only [On,List.mem_cons,exists_eq_or_imp]
   constructor
   · rintro ((q | q) | q)
     · exact .inl q
     · exact .inr (.inl q)
     · exact .inr (.inr q)
   · rintro (q | q | q)
     · exact .inl (.inl q)
     · exact .inl (.inr q)
     · exact .inr q
theorem on_gn {g k:Int} {o:List Ex}:On (o.map (gn g)) k↔On o k:=by
 simp only [On,List.mem_map]
 constructor
 · rintro ⟨x,⟨y,hy,rfl⟩,q⟩;exact ⟨y,hy,q⟩
 · rintro ⟨y,hy,q⟩;exact ⟨gn g y,⟨y,hy,rfl⟩,q⟩
theorem znm {s:Sa} (h:SOk s) {g k:Int} (hg:g < s.gen) {o:List Ex} (he:(lyS s o).2=0):(lyS s o).1.gen=s.gen∧(Nw g (lyS s o).1.map k↔Nw g s.map k∨On o k):=by
 unfold lyS at he⊢
 split at he
 · rename_i h0
   rw [if_pos h0]
   obtain ⟨_,_,q2,q3⟩:=zhm h0
   refine ⟨rfl,?_⟩
   show Nw g (z9n s.blocks s.map (o.map (gn s.gen))).1 k↔_
   rw [q3,zo0 _ _ h.1.1 q2 (fun x hx=> by rw [zn8 x hx];exact hg),on_gn]
 · rename_i h0;exact absurd he h0
theorem zrz {s:Sa} {g k id:Int}:s.gen≤(mkS s id).1.gen∧(Nw g (mkS s id).1.map k↔Nw g s.map k):=by
 unfold mkS
 split
 · exact ⟨Int.le_refl _,Iff.rfl⟩
 split
 · exact ⟨Int.le_refl _,Iff.rfl⟩
 split
 · exact ⟨Int.le_refl _,Iff.rfl⟩
 · exact ⟨by show s.gen≤s.gen+1;omega,Iff.rfl⟩
theorem zdo {k:Int}:¬On [] k:=fun ⟨x,hx,_⟩=> by cases hx
theorem zm7 {x:Ex} {k:Int}:On [x] k↔x.lba≤k∧k < x.lba+x.len:=by simp [On]
theorem nw_do {s:Sa} {c:Ch} (h:SOk s) {g:Int} (hg:g < s.gen) (he:(doS s c).2=0) (k:Int):s.gen≤(doS s c).1.gen∧(Nw g (doS s c).1.map k↔(Nw g s.map k∨(c.kind≤3∧c.lba≤k∧k < c.lba+c.n))∨On c.list k):=by
 have hc:CkH c:=Classical.byContradiction fun hn=> by rw [zdl h hn] at he;exact absurd he (by simp)
 rw [zgt h hc] at he⊢
 have kk:=z7m hc
 have nl:c.kind≠8→c.list=[]:=fun q=> List.eq_nil_of_length_eq_zero (by
  unfold CkH at hc
  omega)
 unfold doK at he⊢
 by_cases k1:c.kind=1
 · rw [if_pos k1] at he⊢
   obtain ⟨e1,e2⟩:=znm h hg he (k:=k)
   rw [nl (by omega),e2,zm7]
   exact ⟨by omega,by simp only [zdo,or_false];constructor <;> rintro (q | q) <;> first | exact .inl q | exact .inr ⟨by omega,q⟩ | exact .inr q.2⟩
 rw [if_neg k1] at he⊢
 by_cases k2:c.kind=2
 · rw [if_pos k2] at he⊢
   obtain ⟨e1,e2⟩:=znm h hg he (k:=k)
   rw [nl (by omega),e2,zm7]
   exact ⟨by omega,by simp only [zdo,or_false];constructor <;> rintro (q | q) <;> first | exact .inl q | exact .inr ⟨by omega,q⟩ | exact .inr q.2⟩
 rw [if_neg k2] at he⊢
 by_cases k3:c.kind=3
 · rw [if_pos k3] at he⊢
   obtain ⟨e1,e2⟩:=znm h hg he (k:=k)
   rw [nl (by omega),e2,zm7]
   exact ⟨by omega,by simp only [zdo,or_false];constructor <;> rintro (q | q) <;> first | exact .inl q | exact .inr ⟨by omega,q⟩ | exact .inr q.2⟩
 rw [if_neg k3] at he⊢
 have hno:¬(c.kind≤3∧c.lba≤k∧k < c.lba+c.n):=fun q=> by omega
 have same:∀t:Sa,c.kind≠8→s.gen≤t.gen→(Nw g t.map k↔Nw g s.map k)→s.gen≤t.gen∧(Nw g t.map k↔(Nw g s.map k∨(c.kind≤3∧c.lba≤k∧k < c.lba+c.n))∨On c.list k):=fun t q h1 h2=> by
  rw [nl q,h2]
  refine ⟨h1,?_⟩
  simp only [zdo,hno,or_false]
 by_cases k4:c.kind=4
 · rw [if_pos k4];exact same _ (by omega) (zrz (g:=g) (k:=k)).1 zrz.2
 rw [if_neg k4] at he⊢
 by_cases k5:c.kind=5
 · rw [if_pos k5];exact same _ (by omega) (by unfold drS;split <;> exact Int.le_refl _) (by unfold drS;split <;> exact Iff.rfl)
 rw [if_neg k5] at he⊢
 by_cases k6:c.kind=6
 · rw [if_pos k6];exact same _ (by omega) (by unfold stS;split <;> exact Int.le_refl _) (by unfold stS;split <;> exact Iff.rfl)
 rw [if_neg k6] at he⊢
 by_cases k7:c.kind=7
 · rw [if_pos k7];exact same _ (by omega) (Int.le_refl _) Iff.rfl
 rw [if_neg k7] at he⊢
 have hly:(lyS s c.list).2=0:=by
  unfold apS at he
  split at he
  · assumption
  · rename_i q;exact absurd he q
 obtain ⟨e1,e2⟩:=znm h hg hly (k:=k)
 have hmk:(mkS (lyS s c.list).1 c.id).2=0:=by
  unfold apS at he
  rw [if_pos hly] at he
  split at he
  · assumption
  · rename_i q;exact absurd he q
 have hap:apS s c=(abS (mkS (lyS s c.list).1 c.id).1,0):=by unfold apS;rw [if_pos hly,if_pos hmk]
 rw [hap]
 have hm:=zrz (s:=(lyS s c.list).1) (g:=g) (k:=k) (id:=c.id)
 refine ⟨by show s.gen≤(mkS _ _).1.gen;omega,?_⟩
 show Nw g (mkS _ _).1.map k↔_
 rw [hm.2,e2]
 simp only [hno,or_false]
theorem zv1 {x:Ex} (h:Ck x):0≤x.lba∧1≤x.len∧x.lba+x.len≤64:=by
 unfold Ck at h;omega
theorem do_in {s:Sa} {c:Ch} (h:SOk s) (he:(doS s c).2=0):(c.kind≤3→0≤c.lba∧1≤c.n∧c.lba+c.n≤64)∧(∀x∈c.list,Ck x)∧c.list.length≤64:=by
 have hc:CkH c:=Classical.byContradiction fun hn=> by rw [zdl h hn] at he;exact absurd he (by simp)
 have kk:=z7m hc
 by_cases k8:c.kind=8
 · have hf:=((znk k8).1 hc).2.2.2
   exact ⟨fun q=> by omega,(z1o c.list Ck).1 fun i hi=> (hf.1 i hi).1,hf.2⟩
 · have hl:c.list=[]:=List.eq_nil_of_length_eq_zero (by unfold CkH at hc;omega)
   refine ⟨fun q=> by unfold CkH at hc;omega,?_,by rw [hl];simp⟩
   rw [hl];intro x hx;cases hx
/-! Arrays of z89. -/
def z78 (t:List Bool) (a n:Int):List Bool:=(List.range t.length).map fun (i:Nat)=> t.getD i false || (decide (a≤(i:Int)) && decide ((i:Int) < a+n))
theorem z32 (t:List Bool) (a n:Int):(z78 t a n).length=t.length:=by simp [z78]
theorem zah (t:List Bool) (a n:Int) {k:Nat} (hk:k < t.length):(z78 t a n).getD k false=(t.getD k false || (decide (a≤(k:Int)) && decide ((k:Int) < a+n))):=by
 unfold z78
 rw [List.getD_eq_getElem?_getD,List.getElem?_map,List.getElem?_range hk]
 rfl
theorem zmk {t u:List Bool} (h:t.length=u.length) (hk:∀k,k < t.length→t.getD k false=u.getD k false):t=u:=by
 refine List.ext_getElem h fun i h1 h2=> ?_
 have:=hk i h1
 simpa [h1,h2] using this
theorem zwf (t:List Bool) (a:Int):z78 t a 0=t:=zmk (z32 _ _ _) fun k hk=> by
 rw [z32] at hk
 rw [zah t a 0 hk]
 have:(decide (a≤(k:Int)) && decide ((k:Int) < a+0))=false:=by
  by_cases h:a≤(k:Int)
  · rw [decide_eq_true h,decide_eq_false (by omega)];rfl
  · rw [decide_eq_false h];rfl
 rw [this,Bool.or_false]
theorem zpw (t:List Bool) {a:Int} {j:Nat} (ha:0≤a) (h:a+j < t.length):(z78 t a j).set (a+j).toNat true=z78 t a ((j:Int)+1):=zmk (by rw [List.length_set,z32,z32]) fun k hk=> by
 rw [List.length_set,z32] at hk
 rw [zah t a _ hk]
 by_cases e:k=(a+j).toNat
 · subst e
   have:((z78 t a j).set (a+j).toNat true).getD (a+j).toNat false=true:=by
    rw [List.getD_eq_getElem?_getD,List.getElem?_set_self (by rw [z32];exact hk)];rfl
   rw [this,decide_eq_true (by omega),decide_eq_true (by omega)]
   simp
 · have:((z78 t a j).set (a+j).toNat true).getD k false=(z78 t a j).getD k false:=by
    rw [List.getD_eq_getElem?_getD,List.getD_eq_getElem?_getD,List.getElem?_set_ne (fun q=> e q.symm)]
   rw [this,zah t a _ hk]
   congr 2
   exact decide_eq_decide.2 (by omega)
def zak (t:List Bool) (l:List Ex):List Bool:=l.foldl (fun t x=> z78 t x.lba x.len) t
theorem zev:∀(l:List Ex) (t:List Bool),(zak t l).length=t.length
 | [],t=> rfl
 | x::l,t=> by unfold zak;rw [List.foldl_cons];exact (zev l _).trans (z32 _ _ _)
theorem zgo (t:List Bool) (l:List Ex) (i:Nat) (hi:i < l.length):zak t (l.take (i+1))=z78 (zak t (l.take i)) (z0 l i).lba (z0 l i).len:=by
 unfold zak
 rw [z86 l i hi,List.foldl_append]
 rfl
def Tl (t:List Bool) (p:Int→Prop):Prop:=t.length=64∧∀k:Nat,k < 64→(t.getD k false=true↔p k)
theorem zud {t u:List Bool} {p:Int→Prop} (h1:Tl t p) (h2:Tl u p):t=u:=zmk (by rw [h1.1,h2.1]) fun k hk=> by
 have hk:k < 64:=by have:=h1.1;omega
 exact Bool.eq_iff_iff.2 ((h1.2 k hk).trans (h2.2 k hk).symm)
theorem zbg {t:List Bool} {p q:Int→Prop} (h:Tl t p) (hq:∀k,p k↔q k):Tl t q:=⟨h.1,fun k hk=> (h.2 k hk).trans (hq k)⟩
theorem zr3 {t:List Bool} {p:Int→Prop} (h:Tl t p) (a n:Int):Tl (z78 t a n) (fun k=> p k∨(a≤k∧k < a+n)):=by
 refine ⟨(z32 _ _ _).trans h.1,fun k hk=> ?_⟩
 rw [zah t a n (by rw [h.1];exact hk),Bool.or_eq_true,h.2 k hk,Bool.and_eq_true,decide_eq_true_iff,decide_eq_true_iff]
theorem zcm:∀(l:List Ex) {p:Int→Prop} {t:List Bool},Tl t p→Tl (zak t l) (fun k=> p k∨On l k)
 | [],p,t,h=> zbg h fun k=> by simp [zdo]
 | x::l,p,t,h=> by
   unfold zak
   rw [List.foldl_cons]
   refine zbg (q:=fun k=> p k∨On (x::l) k) (zcm l (zr3 h x.lba x.len)) fun k=> ?_
   simp only [On,List.mem_cons,exists_eq_or_imp]
   exact or_assoc
theorem zoo:Tl (List.replicate 64 false) (fun _=> False):=⟨List.length_replicate,fun k hk=> by
 rw [List.getD_eq_getElem?_getD,List.getElem?_replicate,if_pos hk]
 simp only [Option.getD_some,Bool.false_eq_true]⟩
theorem zso {g:Int} (m:List Ex):Tl (zak (List.replicate 64 false) (m.filter fun x=> decide (x.gen > g))) (Nw g m):=zbg (zcm _ zoo) fun k=> by
 simp only [false_or,On,Nw,List.mem_filter,decide_eq_true_iff]
 constructor
 · rintro ⟨x,⟨h1,h2⟩,h3⟩;exact ⟨x,h1,h2,h3⟩
 · rintro ⟨x,h1,h2,h3⟩;exact ⟨x,⟨h1,h2⟩,h3⟩
theorem zwy {α:Type} {t:List Bool} (ht:t.length=64) {a n:Int} (ha:0≤a) (hn:0≤n) (h:a+n≤64) {σ:Type} (mk:List Bool→Int→σ) {step:σ→Option σ} {f:σ→Option α}
 (hs:∀(u:List Bool) (b:Int),u.length=64→0≤b→b < 64→b < a+n→step (mk u b)=some (mk (u.set b.toNat true) (b+1))) (he:∀u:List Bool,step (mk u (a+n))=none):th step (mk t a) f=f (mk (z78 t a n) (a+n)):=by
 have:=z2m (step:=step) (f:=f) (fun i=> mk (z78 t a (i:Int)) (a+(i:Int))) n.toNat (fun i hi=> by
  rw [hs _ _ (by rw [z32];exact ht) (by omega) (by omega) (by omega),zpw t ha (by omega)]
  congr 2
  omega) (by rw [show ((n.toNat:Nat):Int)=n by omega];exact he _)
 rw [show ((n.toNat:Nat):Int)=n by omega] at this
 simpa [zwf] using this
end Ab
end Go.Proofs.Ytimcbhhebnikiaa
namespace Go.Proofs.Ytimcbhhebnikiaa
open Go Go.Proofs.Ytimcbhhebnikiaa.Ab
set_option linter.unusedVariables false
set_option linter.unusedSimpArgs false
namespace Ab
theorem zu3 {s:Sa} {c:Ch} (h:SOk s) (he:(doS s c).2≠0):(doS s c).1=s:=by
 by_cases hc:CkH c
 case neg=> rw [zdl h hc]
 rw [zgt h hc] at he⊢
 have hl:∀o,(lyS s o).2≠0→(lyS s o).1=s:=fun o g=> by
  unfold lyS at g⊢
  split
  · rename_i h0;rw [if_pos h0] at g;exact absurd rfl g
  · rfl
 have hm:∀id,(mkS s id).2≠0→(mkS s id).1=s:=fun id g=> by
  unfold mkS at g⊢
  split
  · rfl
  split
  · rfl
  split
  · rfl
  · rename_i h1 h2 h3
    rw [if_neg h1,if_neg h2,if_neg h3] at g
    exact absurd rfl g
 unfold doK at he⊢
 split
 · rename_i k;rw [if_pos k] at he;exact hl _ he
 rename_i k1;rw [if_neg k1] at he
 split
 · rename_i k;rw [if_pos k] at he;exact hl _ he
 rename_i k2;rw [if_neg k2] at he
 split
 · rename_i k;rw [if_pos k] at he;exact hl _ he
 rename_i k3;rw [if_neg k3] at he
 split
 · rename_i k;rw [if_pos k] at he;exact hm _ he
 rename_i k4;rw [if_neg k4] at he
 split
 · rename_i k
   rw [if_pos k] at he
   unfold drS at he⊢
   split
   · rename_i q;rw [if_pos q] at he;exact absurd rfl he
   · rfl
 rename_i k5;rw [if_neg k5] at he
 split
 · rename_i k
   rw [if_pos k] at he
   unfold stS at he⊢
   split
   · rfl
   · rename_i q;rw [if_neg q] at he;exact absurd rfl he
 rename_i k6;rw [if_neg k6] at he
 split
 · rename_i k;rw [if_pos k] at he;exact absurd rfl he
 rename_i k7;rw [if_neg k7] at he
 unfold apS at he⊢
 split
 · rename_i q
   rw [if_pos q] at he
   split
   · rename_i q2;rw [if_pos q2] at he;exact absurd rfl he
   · rfl
 · rfl
noncomputable def tcS (q:Sa×List Bool) (c:Ch):Sa×List Bool:=((doS q.1 c).1,if (doS q.1 c).2=0 then zak (if c.kind≤3 then z78 q.2 c.lba c.n else q.2) c.list else q.2)
def SI (b g:Int) (q:Sa×List Bool):Prop:=SOk q.1∧q.1.blocks=b∧g < q.1.gen∧Tl q.2 (Nw g q.1.map)
theorem zuc {b g:Int} {q:Sa×List Bool} {c:Ch} (h:SI b g q):SI b g (tcS q c):=by
 obtain ⟨h1,h2,h3,h4⟩:=h
 unfold tcS
 by_cases he:(doS q.1 c).2=0
 case neg=>
  rw [if_neg he,zu3 h1 he]
  exact ⟨h1,h2,h3,h4⟩
 have hn:=fun k=> nw_do h1 h3 he k
 refine ⟨zn2 h1 c,(z93 h1 c).trans h2,?_,?_⟩
 · have:=(hn 0).1
   show g < (doS q.1 c).1.gen
   omega
 · rw [if_pos he]
   by_cases k:c.kind≤3
   · rw [if_pos k]
     exact zbg (zcm c.list (zr3 h4 c.lba c.n)) fun j=> by
      rw [(hn j).2]
      exact or_congr (or_congr Iff.rfl ⟨fun x=> ⟨k,x⟩,fun x=> x.2⟩) Iff.rfl
   · rw [if_neg k]
     exact zbg (zcm c.list h4) fun j=> by
      rw [(hn j).2]
      exact or_congr ⟨fun x=> .inl x,fun x=> x.elim id fun y=> absurd y.1 k⟩ Iff.rfl
theorem zoh {b g:Int}:∀(l:List Ch) (q:Sa×List Bool),SI b g q→SI b g (l.foldl tcS q)
 | [],q,h=> h
 | c::l,q,h=> zoh l _ (zuc h)
noncomputable def dos (s:Sa) (l:List Ch):Sa:=l.foldl (fun s c=> (doS s c).1) s
theorem zo4 {b:Int}:∀(l:List Ch) (s:Sa),SOk s→s.blocks=b→SOk (dos s l)∧(dos s l).blocks=b
 | [],s,h1,h3=> ⟨h1,h3⟩
 | c::l,s,h1,h3=> zo4 l _ (zn2 h1 c) ((z93 h1 c).trans h3)
theorem zj4 (l:List Ch) (i:Nat) (hi:i < l.length):l.take (i+1)=l.take i++[x8 l i]:=by
 rw [List.take_succ_eq_append_getElem hi]
 simp [x8,hi]
theorem zs3 (s:Sa) (l:List Ch) (i:Nat) (hi:i < l.length):dos s (l.take (i+1))=(doS (dos s (l.take i)) (x8 l i)).1:=by
 unfold dos;rw [zj4 l i hi,List.foldl_append];rfl
theorem zrl (q:Sa×List Bool) (l:List Ch) (i:Nat) (hi:i < l.length):(l.take (i+1)).foldl tcS q=tcS ((l.take i).foldl tcS q) (x8 l i):=by
 rw [zj4 l i hi,List.foldl_append];rfl
theorem mk_do {s:Sa} {c:Ch} (h:SOk s) (hk:c.kind=4) (he:(doS s c).2=0):(doS s c).1=⟨s.blocks,s.gen+1,s.map,s.points++[⟨c.id,s.gen,s.map⟩],c.id,s.staged⟩:=by
 have hc:CkH c:=Classical.byContradiction fun hn=> by rw [zdl h hn] at he;exact absurd he (by simp)
 rw [zgt h hc] at he⊢
 unfold doK at he⊢
 rw [if_neg (by omega),if_neg (by omega),if_neg (by omega),if_pos hk] at he⊢
 unfold mkS at he⊢
 split at he
 · cases he
 rename_i a;rw [if_neg a]
 split at he
 · cases he
 rename_i b;rw [if_neg b]
 split at he
 · cases he
 rename_i d;rw [if_neg d]
theorem ztg {s:Sa} (h:SOk s) {k:Int}:¬Nw s.gen s.map k:=by
 rintro ⟨x,hx,h1,_⟩
 have:=h.1.2 x hx
 omega
end Ab
end Go.Proofs.Ytimcbhhebnikiaa
namespace Go.Proofs.Ytimcbhhebnikiaa
open Go Go.Proofs.Ytimcbhhebnikiaa.Ab
set_option linter.unusedVariables false
set_option linter.unusedSimpArgs false
set_option maxRecDepth 1000000
set_option maxHeartbeats 0
namespace Ab
def aw11:Option Bool:=some true
theorem zp9:znj Try.prog cf 4000 11 []=some (.b true):=by kernel_rfl
theorem zd5 (r:Bool):aw11=some r→z0n Try.prog cf true 11 [] (.b r):=fun h=> by
 cases h
 exact z0n.of_bool zp9
end Ab
end Go.Proofs.Ytimcbhhebnikiaa
