/- The law 'SendTells': it returns true, and nothing that was there changes. No condition. (Part 10 of 12.) -/
import Derived.Test.YtpflcogplhigcaaSt9
import Derived.Test.YtpflcogplhigcaaRows
namespace Go.Proofs.Ytpflcogplhigcaa
open Go Go.Proofs.Ytpflcogplhigcaa.Ab
set_option linter.unusedVariables false
set_option linter.unusedSimpArgs false
set_option maxRecDepth 1000000
set_option maxHeartbeats 0
namespace Ab
noncomputable abbrev zm1 (s:Sa) (c:Ch) (s0:Int) (s2:Bool) (s4:Sa) (s6:List Ex):St:=(St.mk [(0,(AV.pt 6 0)),(1,(AV.rf 9 5 0 1)),(4,(AV.i 0)),(9,(AV.rf 9 5 0 1)),(10,(AV.rf 10 5 0 s6.length)),(5,(AV.rf 10 5 0 s6.length)),(11,(AV.rf 10 5 0 s6.length)),(12,(AV.i (s6.length:Int))),(13,(AV.i 0))] 45 (AH.mk 11 [(10,(AObj.cells (s6.flatMap Ex.cells))),(9,(AObj.ro [(AV.i c.lba),(AV.i c.n),(AV.i 2),(AV.i 0),(bys c.d)])),(8,(AObj.cells [(AV.i c.kind),(AV.i c.lba),(AV.i c.n),(AV.i c.id),(bys c.d),(exs c.list)])),(7,(AObj.map [((AV.i 1),(AV.fn (55:Nat) ([]:List AV))),((AV.i 2),(AV.fn (56:Nat) ([]:List AV))),((AV.i 3),(AV.fn (57:Nat) ([]:List AV))),((AV.i 4),(AV.fn (58:Nat) ([]:List AV))),((AV.i 5),(AV.fn (59:Nat) ([]:List AV))),((AV.i 6),(AV.fn (60:Nat) ([]:List AV))),((AV.i 7),(AV.fn (61:Nat) ([]:List AV))),((AV.i 8),(AV.fn (62:Nat) ([]:List AV)))])),(6,(AObj.cells [(AV.i s4.blocks),(AV.i s4.gen),(AV.rf 3 5 0 s4.map.length),(AV.rf 4 3 0 s4.points.length),(AV.i s4.last),(AV.rf 5 1 0 s4.staged.length)])),(5,(AObj.cells (List.map AV.y s4.staged))),(4,(AObj.cells (s4.points.flatMap Po.cells))),(3,(AObj.cells (s4.map.flatMap Ex.cells))),(2,(AObj.cells [(AV.i 0),(AV.i 0),AV.nl,AV.nl,(AV.i 0),AV.nl])),(1,(AObj.cells [(AV.i c.kind),(AV.i c.lba),(AV.i c.n),(AV.i c.id),(bys c.d),(exs c.list)])),(0,(AObj.cells [(AV.i s.blocks),(AV.i s.gen),(exs s.map),(AV.sl s.points.length (s.points.flatMap Po.cells)),(AV.i s.last),(bys s.staged)]))]) false)
noncomputable abbrev z70 (s:Sa) (c:Ch) (s0:Int) (s2:Bool) (s4:Sa) (s6:List Ex) (s7:Int×List Ex):St:=(St.mk [(0,(AV.pt 6 0)),(5,(AV.rf 10 5 0 s6.length)),(12,(AV.i (s6.length:Int))),(13,(AV.i s7.1))] 45 (AH.mk 11 [(10,(AObj.cells (s7.2.flatMap Ex.cells))),(9,(AObj.ro [(AV.i c.lba),(AV.i c.n),(AV.i 2),(AV.i 0),(bys c.d)])),(8,(AObj.cells [(AV.i c.kind),(AV.i c.lba),(AV.i c.n),(AV.i c.id),(bys c.d),(exs c.list)])),(6,(AObj.cells [(AV.i s4.blocks),(AV.i s4.gen),(AV.rf 3 5 0 s4.map.length),(AV.rf 4 3 0 s4.points.length),(AV.i s4.last),(AV.rf 5 1 0 s4.staged.length)])),(5,(AObj.cells (List.map AV.y s4.staged))),(4,(AObj.cells (s4.points.flatMap Po.cells))),(3,(AObj.cells (s4.map.flatMap Ex.cells))),(2,(AObj.cells [(AV.i 0),(AV.i 0),AV.nl,AV.nl,(AV.i 0),AV.nl])),(1,(AObj.cells [(AV.i c.kind),(AV.i c.lba),(AV.i c.n),(AV.i c.id),(bys c.d),(exs c.list)])),(0,(AObj.cells [(AV.i s.blocks),(AV.i s.gen),(exs s.map),(AV.sl s.points.length (s.points.flatMap Po.cells)),(AV.i s.last),(bys s.staged)]))]) false)
noncomputable def z8z (s:Sa) (c:Ch) (s0:Int) (s2:Bool) (s4:Sa) (s6:List Ex) (s7:Int×List Ex):Option (Int×List Ex):=
 (tb ((decide (s7.1 < (s6.length:Int)))) (tp ((((0:Int)≤s7.1)∧(s7.1 < (s6.length:Int)))) (tp ((((List.length [(AV.i s4.gen)])=(1:Nat))∧(((((0:Nat)+(s7.1.toNat*5))+(3:Nat))+(List.length [(AV.i s4.gen)]))≤(List.length (s7.2.flatMap Ex.cells))))) (some (((wr (s7.1+(1:Int))),(List.set s7.2 s7.1.toNat (Ex.mk (z0 s7.2 s7.1.toNat).lba (z0 s7.2 s7.1.toNat).len (z0 s7.2 s7.1.toNat).kind s4.gen (z0 s7.2 s7.1.toNat).d))))))) none)
theorem zh9 (s:Sa) (c:Ch) (s0:Int) (s2:Bool) (s4:Sa) (s6:List Ex) (s7 zz:Int×List Ex):z8z s c s0 s2 s4 s6 s7=some zz→u7 Try.prog cf 11 (lp Try.prog 80 0) (z70 s c s0 s2 s4 s6 s7) (z70 s c s0 s2 s4 s6 zz):=by
 unfold z8z
 exact tbD (fun h8 h8p=> x8 fun h9=> x8 fun h10=> by intro e;injection e with e;subst e;exact j0 z9 (k:=300) (r:=[]) (hs:=hz [(1,[.yes]),(9,[.yes]),(1,[.yes,.cells ((List.flatMap Ex.cells (List.set s7.2 s7.1.toNat (Ex.mk (z0 s7.2 s7.1.toNat).lba (z0 s7.2 s7.1.toNat).len (z0 s7.2 s7.1.toNat).kind s4.gen (z0 s7.2 s7.1.toNat).d))))]),(2,[])]) (ks:=[0,5,12,13]) (st1:=(St.mk [(0,(AV.pt 6 0)),(5,(AV.rf 10 5 0 s6.length)),(12,(AV.i (s6.length:Int))),(13,(AV.i (wr (s7.1+(1:Int)))))] 45 (AH.mk 11 [(10,(AObj.cells (List.flatMap Ex.cells (List.set s7.2 s7.1.toNat (Ex.mk (z0 s7.2 s7.1.toNat).lba (z0 s7.2 s7.1.toNat).len (z0 s7.2 s7.1.toNat).kind s4.gen (z0 s7.2 s7.1.toNat).d))))),(9,(AObj.ro [(AV.i c.lba),(AV.i c.n),(AV.i 2),(AV.i 0),(bys c.d)])),(8,(AObj.cells [(AV.i c.kind),(AV.i c.lba),(AV.i c.n),(AV.i c.id),(bys c.d),(exs c.list)])),(6,(AObj.cells [(AV.i s4.blocks),(AV.i s4.gen),(AV.rf 3 5 0 s4.map.length),(AV.rf 4 3 0 s4.points.length),(AV.i s4.last),(AV.rf 5 1 0 s4.staged.length)])),(5,(AObj.cells (List.map AV.y s4.staged))),(4,(AObj.cells (s4.points.flatMap Po.cells))),(3,(AObj.cells (s4.map.flatMap Ex.cells))),(2,(AObj.cells [(AV.i 0),(AV.i 0),AV.nl,AV.nl,(AV.i 0),AV.nl])),(1,(AObj.cells [(AV.i c.kind),(AV.i c.lba),(AV.i c.n),(AV.i c.id),(bys c.d),(exs c.list)])),(0,(AObj.cells [(AV.i s.blocks),(AV.i s.gen),(exs s.map),(AV.sl s.points.length (s.points.flatMap Po.cells)),(AV.i s.last),(bys s.staged)]))]) false)) kq (ac h8 (ac h9 (ac h10 (ac (show (((List.take (((0:Nat)+(s7.1.toNat*5))+(3:Nat)) (s7.2.flatMap Ex.cells))++[(AV.i s4.gen)])++(List.drop ((((0:Nat)+(s7.1.toNat*5))+(3:Nat))+(List.length [(AV.i s4.gen)])) (s7.2.flatMap Ex.cells)))=(List.flatMap Ex.cells (List.set s7.2 s7.1.toNat (Ex.mk (z0 s7.2 s7.1.toNat).lba (z0 s7.2 s7.1.toNat).len (z0 s7.2 s7.1.toNat).kind s4.gen (z0 s7.2 s7.1.toNat).d))) from (by rw [show (((0:Nat)+(s7.1.toNat*5))+(3:Nat))=(s7.1.toNat)*5+3 by omega];exact zak _ _ 3 _ ((Ex.mk (z0 s7.2 s7.1.toNat).lba (z0 s7.2 s7.1.toNat).len (z0 s7.2 s7.1.toNat).kind s4.gen (z0 s7.2 s7.1.toNat).d)) bq (by simp) rfl)) an)))) (Nat.le_of_ble_eq_true rfl) (Nat.le_of_ble_eq_true rfl) (y9 [] [] kq (.consn kq (.pt rfl) (.consn kq (.rf rfl) (.consn kq (.eqv tq rfl) (.consn kq (.eqv tq rfl) .nil)))) (.cons (.old rfl rfl (.cells (.pl tq pq))) (.cons (.old rfl rfl (.ro (.pl rfl (by simp)))) (.cons (.old rfl rfl (.cells (.pl rfl pq))) (.cons (.old rfl rfl (.cells (.cons (.eqv tq rfl) (.cons (.eqv tq rfl) (.cons (.rf rfl) (.cons (.rf rfl) (.cons (.eqv tq rfl) (.cons (.rf rfl) .nil)))))))) (.cons (.old rfl rfl (.cells (.pl rfl (by simp)))) (.cons (.old rfl rfl (.cells (.pl rfl (by simp)))) (.cons (.old rfl rfl (.cells (.pl rfl (by simp)))) (.cons (.old rfl rfl (.cells (.cons (.eqv tq rfl) (.cons (.eqv tq rfl) (.cons .nl0 (.cons .nl0 (.cons (.eqv tq rfl) (.cons .nl0 .nil)))))))) (.cons (.old rfl rfl (.cells (.pl rfl pq))) (.cons (.old rfl rfl (.cells (.pl rfl pq))) .nil)))))))))))) fun h8 h8p=> u6
noncomputable abbrev zlb (s:Sa) (c:Ch) (s0:Int) (s2:Bool) (s4:Sa) (s7:List Ex):St:=(St.mk [(0,(AV.pt 6 0)),(1,(AV.rf 9 5 0 1)),(4,(AV.i 0)),(9,(AV.rf 9 5 0 1)),(10,(AV.rf 10 5 0 s7.length)),(5,(AV.rf 10 5 0 s7.length)),(11,(AV.rf 10 5 0 s7.length)),(12,(AV.i (s7.length:Int))),(13,(AV.i 0))] 45 (AH.mk 11 [(10,(AObj.cells (s7.flatMap Ex.cells))),(9,(AObj.ro [(AV.i c.lba),(AV.i c.n),(AV.i 1),(AV.i 0),AV.nl])),(8,(AObj.cells [(AV.i c.kind),(AV.i c.lba),(AV.i c.n),(AV.i c.id),(bys c.d),(exs c.list)])),(7,(AObj.map [((AV.i 1),(AV.fn (55:Nat) ([]:List AV))),((AV.i 2),(AV.fn (56:Nat) ([]:List AV))),((AV.i 3),(AV.fn (57:Nat) ([]:List AV))),((AV.i 4),(AV.fn (58:Nat) ([]:List AV))),((AV.i 5),(AV.fn (59:Nat) ([]:List AV))),((AV.i 6),(AV.fn (60:Nat) ([]:List AV))),((AV.i 7),(AV.fn (61:Nat) ([]:List AV))),((AV.i 8),(AV.fn (62:Nat) ([]:List AV)))])),(6,(AObj.cells [(AV.i s4.blocks),(AV.i s4.gen),(AV.rf 3 5 0 s4.map.length),(AV.rf 4 3 0 s4.points.length),(AV.i s4.last),(AV.rf 5 1 0 s4.staged.length)])),(5,(AObj.cells (List.map AV.y s4.staged))),(4,(AObj.cells (s4.points.flatMap Po.cells))),(3,(AObj.cells (s4.map.flatMap Ex.cells))),(2,(AObj.cells [(AV.i 0),(AV.i 0),AV.nl,AV.nl,(AV.i 0),AV.nl])),(1,(AObj.cells [(AV.i c.kind),(AV.i c.lba),(AV.i c.n),(AV.i c.id),(bys c.d),(exs c.list)])),(0,(AObj.cells [(AV.i s.blocks),(AV.i s.gen),(exs s.map),(AV.sl s.points.length (s.points.flatMap Po.cells)),(AV.i s.last),(bys s.staged)]))]) false)
noncomputable abbrev z76 (s:Sa) (c:Ch) (s0:Int) (s2:Bool) (s4:Sa) (s7:List Ex) (s8:Int×List Ex):St:=(St.mk [(0,(AV.pt 6 0)),(5,(AV.rf 10 5 0 s7.length)),(12,(AV.i (s7.length:Int))),(13,(AV.i s8.1))] 45 (AH.mk 11 [(10,(AObj.cells (s8.2.flatMap Ex.cells))),(9,(AObj.ro [(AV.i c.lba),(AV.i c.n),(AV.i (Int.ofNat 1)),(AV.i (Int.ofNat 0)),AV.nl])),(8,(AObj.cells [(AV.i c.kind),(AV.i c.lba),(AV.i c.n),(AV.i c.id),(bys c.d),(exs c.list)])),(6,(AObj.cells [(AV.i s4.blocks),(AV.i s4.gen),(AV.rf 3 5 0 s4.map.length),(AV.rf 4 3 0 s4.points.length),(AV.i s4.last),(AV.rf 5 1 0 s4.staged.length)])),(5,(AObj.cells (List.map AV.y s4.staged))),(4,(AObj.cells (s4.points.flatMap Po.cells))),(3,(AObj.cells (s4.map.flatMap Ex.cells))),(2,(AObj.cells [(AV.i 0),(AV.i 0),AV.nl,AV.nl,(AV.i 0),AV.nl])),(1,(AObj.cells [(AV.i c.kind),(AV.i c.lba),(AV.i c.n),(AV.i c.id),(bys c.d),(exs c.list)])),(0,(AObj.cells [(AV.i s.blocks),(AV.i s.gen),(exs s.map),(AV.sl s.points.length (s.points.flatMap Po.cells)),(AV.i s.last),(bys s.staged)]))]) false)
noncomputable def z8w (s:Sa) (c:Ch) (s0:Int) (s2:Bool) (s4:Sa) (s7:List Ex) (s8:Int×List Ex):Option (Int×List Ex):=
 (tb ((decide (s8.1 < (s7.length:Int)))) (tp ((((0:Int)≤s8.1)∧(s8.1 < (s7.length:Int)))) (tp ((((List.length [(AV.i s4.gen)])=(1:Nat))∧(((((0:Nat)+(s8.1.toNat*5))+(3:Nat))+(List.length [(AV.i s4.gen)]))≤(List.length (s8.2.flatMap Ex.cells))))) (some (((wr (s8.1+(1:Int))),(List.set s8.2 s8.1.toNat (Ex.mk (z0 s8.2 s8.1.toNat).lba (z0 s8.2 s8.1.toNat).len (z0 s8.2 s8.1.toNat).kind s4.gen (z0 s8.2 s8.1.toNat).d))))))) none)
theorem zii (s:Sa) (c:Ch) (s0:Int) (s2:Bool) (s4:Sa) (s7:List Ex) (s8 zz:Int×List Ex):z8w s c s0 s2 s4 s7 s8=some zz→u7 Try.prog cf 11 (lp Try.prog 80 0) (z76 s c s0 s2 s4 s7 s8) (z76 s c s0 s2 s4 s7 zz):=by
 unfold z8w
 exact tbD (fun h9 h9p=> x8 fun h10=> x8 fun h11=> by intro e;injection e with e;subst e;exact j0 z9 (k:=300) (r:=[]) (hs:=hz [(1,[.yes]),(9,[.yes]),(1,[.yes,.cells ((List.flatMap Ex.cells (List.set s8.2 s8.1.toNat (Ex.mk (z0 s8.2 s8.1.toNat).lba (z0 s8.2 s8.1.toNat).len (z0 s8.2 s8.1.toNat).kind s4.gen (z0 s8.2 s8.1.toNat).d))))]),(2,[])]) (ks:=[0,5,12,13]) (st1:=(St.mk [(0,(AV.pt 6 0)),(5,(AV.rf 10 5 0 s7.length)),(12,(AV.i (s7.length:Int))),(13,(AV.i (wr (s8.1+(1:Int)))))] 45 (AH.mk 11 [(10,(AObj.cells (List.flatMap Ex.cells (List.set s8.2 s8.1.toNat (Ex.mk (z0 s8.2 s8.1.toNat).lba (z0 s8.2 s8.1.toNat).len (z0 s8.2 s8.1.toNat).kind s4.gen (z0 s8.2 s8.1.toNat).d))))),(9,(AObj.ro [(AV.i c.lba),(AV.i c.n),(AV.i 1),(AV.i 0),AV.nl])),(8,(AObj.cells [(AV.i c.kind),(AV.i c.lba),(AV.i c.n),(AV.i c.id),(bys c.d),(exs c.list)])),(6,(AObj.cells [(AV.i s4.blocks),(AV.i s4.gen),(AV.rf 3 5 0 s4.map.length),(AV.rf 4 3 0 s4.points.length),(AV.i s4.last),(AV.rf 5 1 0 s4.staged.length)])),(5,(AObj.cells (List.map AV.y s4.staged))),(4,(AObj.cells (s4.points.flatMap Po.cells))),(3,(AObj.cells (s4.map.flatMap Ex.cells))),(2,(AObj.cells [(AV.i 0),(AV.i 0),AV.nl,AV.nl,(AV.i 0),AV.nl])),(1,(AObj.cells [(AV.i c.kind),(AV.i c.lba),(AV.i c.n),(AV.i c.id),(bys c.d),(exs c.list)])),(0,(AObj.cells [(AV.i s.blocks),(AV.i s.gen),(exs s.map),(AV.sl s.points.length (s.points.flatMap Po.cells)),(AV.i s.last),(bys s.staged)]))]) false)) kq (ac h9 (ac h10 (ac h11 (ac (show (((List.take (((0:Nat)+(s8.1.toNat*5))+(3:Nat)) (s8.2.flatMap Ex.cells))++[(AV.i s4.gen)])++(List.drop ((((0:Nat)+(s8.1.toNat*5))+(3:Nat))+(List.length [(AV.i s4.gen)])) (s8.2.flatMap Ex.cells)))=(List.flatMap Ex.cells (List.set s8.2 s8.1.toNat (Ex.mk (z0 s8.2 s8.1.toNat).lba (z0 s8.2 s8.1.toNat).len (z0 s8.2 s8.1.toNat).kind s4.gen (z0 s8.2 s8.1.toNat).d))) from (by rw [show (((0:Nat)+(s8.1.toNat*5))+(3:Nat))=(s8.1.toNat)*5+3 by omega];exact zak _ _ 3 _ ((Ex.mk (z0 s8.2 s8.1.toNat).lba (z0 s8.2 s8.1.toNat).len (z0 s8.2 s8.1.toNat).kind s4.gen (z0 s8.2 s8.1.toNat).d)) bq (by simp) rfl)) an)))) (Nat.le_of_ble_eq_true rfl) (Nat.le_of_ble_eq_true rfl) (y9 [] [] kq (.consn kq (.pt rfl) (.consn kq (.rf rfl) (.consn kq (.eqv tq rfl) (.consn kq (.eqv tq rfl) .nil)))) (.cons (.old rfl rfl (.cells (.pl tq pq))) (.cons (.old rfl rfl (.ro (.pl0 rfl))) (.cons (.old rfl rfl (.cells (.pl rfl pq))) (.cons (.old rfl rfl (.cells (.cons (.eqv tq rfl) (.cons (.eqv tq rfl) (.cons (.rf rfl) (.cons (.rf rfl) (.cons (.eqv tq rfl) (.cons (.rf rfl) .nil)))))))) (.cons (.old rfl rfl (.cells (.pl rfl (by simp)))) (.cons (.old rfl rfl (.cells (.pl rfl (by simp)))) (.cons (.old rfl rfl (.cells (.pl rfl (by simp)))) (.cons (.old rfl rfl (.cells (.cons (.eqv tq rfl) (.cons (.eqv tq rfl) (.cons .nl0 (.cons .nl0 (.cons (.eqv tq rfl) (.cons .nl0 .nil)))))))) (.cons (.old rfl rfl (.cells (.pl rfl pq))) (.cons (.old rfl rfl (.cells (.pl rfl pq))) .nil)))))))))))) fun h9 h9p=> u6
noncomputable abbrev zlf (s:Sa) (c:Ch) (s0:Int) (s2:Bool) (s4:Sa) (s8:List Ex):St:=(St.mk [(0,(AV.pt 6 0)),(1,(AV.rf 9 5 0 1)),(4,(AV.i 0)),(9,(AV.rf 9 5 0 1)),(10,(AV.rf 10 5 0 s8.length)),(5,(AV.rf 10 5 0 s8.length)),(11,(AV.rf 10 5 0 s8.length)),(12,(AV.i (s8.length:Int))),(13,(AV.i 0))] 45 (AH.mk 11 [(10,(AObj.cells (s8.flatMap Ex.cells))),(9,(AObj.ro [(AV.i c.lba),(AV.i c.n),(AV.i 0),(AV.i 0),AV.nl])),(8,(AObj.cells [(AV.i c.kind),(AV.i c.lba),(AV.i c.n),(AV.i c.id),(bys c.d),(exs c.list)])),(7,(AObj.map [((AV.i 1),(AV.fn (55:Nat) ([]:List AV))),((AV.i 2),(AV.fn (56:Nat) ([]:List AV))),((AV.i 3),(AV.fn (57:Nat) ([]:List AV))),((AV.i 4),(AV.fn (58:Nat) ([]:List AV))),((AV.i 5),(AV.fn (59:Nat) ([]:List AV))),((AV.i 6),(AV.fn (60:Nat) ([]:List AV))),((AV.i 7),(AV.fn (61:Nat) ([]:List AV))),((AV.i 8),(AV.fn (62:Nat) ([]:List AV)))])),(6,(AObj.cells [(AV.i s4.blocks),(AV.i s4.gen),(AV.rf 3 5 0 s4.map.length),(AV.rf 4 3 0 s4.points.length),(AV.i s4.last),(AV.rf 5 1 0 s4.staged.length)])),(5,(AObj.cells (List.map AV.y s4.staged))),(4,(AObj.cells (s4.points.flatMap Po.cells))),(3,(AObj.cells (s4.map.flatMap Ex.cells))),(2,(AObj.cells [(AV.i 0),(AV.i 0),AV.nl,AV.nl,(AV.i 0),AV.nl])),(1,(AObj.cells [(AV.i c.kind),(AV.i c.lba),(AV.i c.n),(AV.i c.id),(bys c.d),(exs c.list)])),(0,(AObj.cells [(AV.i s.blocks),(AV.i s.gen),(exs s.map),(AV.sl s.points.length (s.points.flatMap Po.cells)),(AV.i s.last),(bys s.staged)]))]) false)
noncomputable abbrev z6y (s:Sa) (c:Ch) (s0:Int) (s2:Bool) (s4:Sa) (s8:List Ex) (s9:Int×List Ex):St:=(St.mk [(0,(AV.pt 6 0)),(5,(AV.rf 10 5 0 s8.length)),(12,(AV.i (s8.length:Int))),(13,(AV.i s9.1))] 45 (AH.mk 11 [(10,(AObj.cells (s9.2.flatMap Ex.cells))),(9,(AObj.ro [(AV.i c.lba),(AV.i c.n),(AV.i (Int.ofNat 0)),(AV.i (Int.ofNat 0)),AV.nl])),(8,(AObj.cells [(AV.i c.kind),(AV.i c.lba),(AV.i c.n),(AV.i c.id),(bys c.d),(exs c.list)])),(6,(AObj.cells [(AV.i s4.blocks),(AV.i s4.gen),(AV.rf 3 5 0 s4.map.length),(AV.rf 4 3 0 s4.points.length),(AV.i s4.last),(AV.rf 5 1 0 s4.staged.length)])),(5,(AObj.cells (List.map AV.y s4.staged))),(4,(AObj.cells (s4.points.flatMap Po.cells))),(3,(AObj.cells (s4.map.flatMap Ex.cells))),(2,(AObj.cells [(AV.i 0),(AV.i 0),AV.nl,AV.nl,(AV.i 0),AV.nl])),(1,(AObj.cells [(AV.i c.kind),(AV.i c.lba),(AV.i c.n),(AV.i c.id),(bys c.d),(exs c.list)])),(0,(AObj.cells [(AV.i s.blocks),(AV.i s.gen),(exs s.map),(AV.sl s.points.length (s.points.flatMap Po.cells)),(AV.i s.last),(bys s.staged)]))]) false)
noncomputable def z8y (s:Sa) (c:Ch) (s0:Int) (s2:Bool) (s4:Sa) (s8:List Ex) (s9:Int×List Ex):Option (Int×List Ex):=
 (tb ((decide (s9.1 < (s8.length:Int)))) (tp ((((0:Int)≤s9.1)∧(s9.1 < (s8.length:Int)))) (tp ((((List.length [(AV.i s4.gen)])=(1:Nat))∧(((((0:Nat)+(s9.1.toNat*5))+(3:Nat))+(List.length [(AV.i s4.gen)]))≤(List.length (s9.2.flatMap Ex.cells))))) (some (((wr (s9.1+(1:Int))),(List.set s9.2 s9.1.toNat (Ex.mk (z0 s9.2 s9.1.toNat).lba (z0 s9.2 s9.1.toNat).len (z0 s9.2 s9.1.toNat).kind s4.gen (z0 s9.2 s9.1.toNat).d))))))) none)
theorem zhm (s:Sa) (c:Ch) (s0:Int) (s2:Bool) (s4:Sa) (s8:List Ex) (s9 zz:Int×List Ex):z8y s c s0 s2 s4 s8 s9=some zz→u7 Try.prog cf 11 (lp Try.prog 80 0) (z6y s c s0 s2 s4 s8 s9) (z6y s c s0 s2 s4 s8 zz):=by
 unfold z8y
 exact tbD (fun h10 h10p=> x8 fun h11=> x8 fun h12=> by intro e;injection e with e;subst e;exact j0 z9 (k:=300) (r:=[]) (hs:=hz [(1,[.yes]),(9,[.yes]),(1,[.yes,.cells ((List.flatMap Ex.cells (List.set s9.2 s9.1.toNat (Ex.mk (z0 s9.2 s9.1.toNat).lba (z0 s9.2 s9.1.toNat).len (z0 s9.2 s9.1.toNat).kind s4.gen (z0 s9.2 s9.1.toNat).d))))]),(2,[])]) (ks:=[0,5,12,13]) (st1:=(St.mk [(0,(AV.pt 6 0)),(5,(AV.rf 10 5 0 s8.length)),(12,(AV.i (s8.length:Int))),(13,(AV.i (wr (s9.1+(1:Int)))))] 45 (AH.mk 11 [(10,(AObj.cells (List.flatMap Ex.cells (List.set s9.2 s9.1.toNat (Ex.mk (z0 s9.2 s9.1.toNat).lba (z0 s9.2 s9.1.toNat).len (z0 s9.2 s9.1.toNat).kind s4.gen (z0 s9.2 s9.1.toNat).d))))),(9,(AObj.ro [(AV.i c.lba),(AV.i c.n),(AV.i 0),(AV.i 0),AV.nl])),(8,(AObj.cells [(AV.i c.kind),(AV.i c.lba),(AV.i c.n),(AV.i c.id),(bys c.d),(exs c.list)])),(6,(AObj.cells [(AV.i s4.blocks),(AV.i s4.gen),(AV.rf 3 5 0 s4.map.length),(AV.rf 4 3 0 s4.points.length),(AV.i s4.last),(AV.rf 5 1 0 s4.staged.length)])),(5,(AObj.cells (List.map AV.y s4.staged))),(4,(AObj.cells (s4.points.flatMap Po.cells))),(3,(AObj.cells (s4.map.flatMap Ex.cells))),(2,(AObj.cells [(AV.i 0),(AV.i 0),AV.nl,AV.nl,(AV.i 0),AV.nl])),(1,(AObj.cells [(AV.i c.kind),(AV.i c.lba),(AV.i c.n),(AV.i c.id),(bys c.d),(exs c.list)])),(0,(AObj.cells [(AV.i s.blocks),(AV.i s.gen),(exs s.map),(AV.sl s.points.length (s.points.flatMap Po.cells)),(AV.i s.last),(bys s.staged)]))]) false)) kq (ac h10 (ac h11 (ac h12 (ac (show (((List.take (((0:Nat)+(s9.1.toNat*5))+(3:Nat)) (s9.2.flatMap Ex.cells))++[(AV.i s4.gen)])++(List.drop ((((0:Nat)+(s9.1.toNat*5))+(3:Nat))+(List.length [(AV.i s4.gen)])) (s9.2.flatMap Ex.cells)))=(List.flatMap Ex.cells (List.set s9.2 s9.1.toNat (Ex.mk (z0 s9.2 s9.1.toNat).lba (z0 s9.2 s9.1.toNat).len (z0 s9.2 s9.1.toNat).kind s4.gen (z0 s9.2 s9.1.toNat).d))) from (by rw [show (((0:Nat)+(s9.1.toNat*5))+(3:Nat))=(s9.1.toNat)*5+3 by omega];exact zak _ _ 3 _ ((Ex.mk (z0 s9.2 s9.1.toNat).lba (z0 s9.2 s9.1.toNat).len (z0 s9.2 s9.1.toNat).kind s4.gen (z0 s9.2 s9.1.toNat).d)) bq (by simp) rfl)) an)))) (Nat.le_of_ble_eq_true rfl) (Nat.le_of_ble_eq_true rfl) (y9 [] [] kq (.consn kq (.pt rfl) (.consn kq (.rf rfl) (.consn kq (.eqv tq rfl) (.consn kq (.eqv tq rfl) .nil)))) (.cons (.old rfl rfl (.cells (.pl tq pq))) (.cons (.old rfl rfl (.ro (.pl0 rfl))) (.cons (.old rfl rfl (.cells (.pl rfl pq))) (.cons (.old rfl rfl (.cells (.cons (.eqv tq rfl) (.cons (.eqv tq rfl) (.cons (.rf rfl) (.cons (.rf rfl) (.cons (.eqv tq rfl) (.cons (.rf rfl) .nil)))))))) (.cons (.old rfl rfl (.cells (.pl rfl (by simp)))) (.cons (.old rfl rfl (.cells (.pl rfl (by simp)))) (.cons (.old rfl rfl (.cells (.pl rfl (by simp)))) (.cons (.old rfl rfl (.cells (.cons (.eqv tq rfl) (.cons (.eqv tq rfl) (.cons .nl0 (.cons .nl0 (.cons (.eqv tq rfl) (.cons .nl0 .nil)))))))) (.cons (.old rfl rfl (.cells (.pl rfl pq))) (.cons (.old rfl rfl (.cells (.pl rfl pq))) .nil)))))))))))) fun h10 h10p=> u6
noncomputable abbrev zf0 (s:Sa) (c:Ch) (s0:Int) (s2:Bool) (s4:Sa):St:=(St.mk [(0,(AV.rf 4 3 0 s4.points.length)),(1,(AV.fn (82:Nat) [(AV.pt 8 0)])),(4,(AV.i 0)),(6,(AV.rf 4 3 0 s4.points.length)),(7,(AV.i (s4.points.length:Int))),(8,(AV.i 0))] 19 (AH.mk 9 [(8,(AObj.cells [(AV.i c.kind),(AV.i c.lba),(AV.i c.n),(AV.i c.id),(bys c.d),(exs c.list)])),(7,(AObj.map [((AV.i 1),(AV.fn (55:Nat) ([]:List AV))),((AV.i 2),(AV.fn (56:Nat) ([]:List AV))),((AV.i 3),(AV.fn (57:Nat) ([]:List AV))),((AV.i 4),(AV.fn (58:Nat) ([]:List AV))),((AV.i 5),(AV.fn (59:Nat) ([]:List AV))),((AV.i 6),(AV.fn (60:Nat) ([]:List AV))),((AV.i 7),(AV.fn (61:Nat) ([]:List AV))),((AV.i 8),(AV.fn (62:Nat) ([]:List AV)))])),(6,(AObj.cells [(AV.i s4.blocks),(AV.i s4.gen),(AV.rf 3 5 0 s4.map.length),(AV.rf 4 3 0 s4.points.length),(AV.i s4.last),(AV.rf 5 1 0 s4.staged.length)])),(5,(AObj.cells (List.map AV.y s4.staged))),(4,(AObj.cells (s4.points.flatMap Po.cells))),(3,(AObj.cells (s4.map.flatMap Ex.cells))),(2,(AObj.cells [(AV.i 0),(AV.i 0),AV.nl,AV.nl,(AV.i 0),AV.nl])),(1,(AObj.cells [(AV.i c.kind),(AV.i c.lba),(AV.i c.n),(AV.i c.id),(bys c.d),(exs c.list)])),(0,(AObj.cells [(AV.i s.blocks),(AV.i s.gen),(exs s.map),(AV.sl s.points.length (s.points.flatMap Po.cells)),(AV.i s.last),(bys s.staged)]))]) false)
noncomputable abbrev z57 (s:Sa) (c:Ch) (s0:Int) (s2:Bool) (s4:Sa) (s10:Int):St:=(St.mk [(0,(AV.rf 4 3 0 s4.points.length)),(1,(AV.fn (82:Nat) [(AV.pt 8 0)])),(7,(AV.i (s4.points.length:Int))),(8,(AV.i s10))] 19 (AH.mk 9 [(8,(AObj.cells [(AV.i c.kind),(AV.i c.lba),(AV.i c.n),(AV.i c.id),(bys c.d),(exs c.list)])),(6,(AObj.cells [(AV.i s4.blocks),(AV.i s4.gen),(AV.rf 3 5 0 s4.map.length),(AV.rf 4 3 0 s4.points.length),(AV.i s4.last),(AV.rf 5 1 0 s4.staged.length)])),(5,(AObj.cells (List.map AV.y s4.staged))),(4,(AObj.cells (s4.points.flatMap Po.cells))),(3,(AObj.cells (s4.map.flatMap Ex.cells))),(2,(AObj.cells [(AV.i 0),(AV.i 0),AV.nl,AV.nl,(AV.i 0),AV.nl])),(1,(AObj.cells [(AV.i c.kind),(AV.i c.lba),(AV.i c.n),(AV.i c.id),(bys c.d),(exs c.list)])),(0,(AObj.cells [(AV.i s.blocks),(AV.i s.gen),(exs s.map),(AV.sl s.points.length (s.points.flatMap Po.cells)),(AV.i s.last),(bys s.staged)]))]) false)
noncomputable def z3x (s:Sa) (c:Ch) (s0:Int) (s2:Bool) (s4:Sa) (s10:Int):Option (Int):=
 (tb ((decide (s10 < (s4.points.length:Int)))) (tp ((((0:Int)≤s10)∧(s10 < (s4.points.length:Int)))) (tb (((v9 s4.points s10.toNat).id==c.id)) none (some ((wr (s10+(1:Int))))))) none)
theorem zcb (s:Sa) (c:Ch) (s0:Int) (s2:Bool) (s4:Sa) (s10 zz:Int):z3x s c s0 s2 s4 s10=some zz→u7 Try.prog cf 9 (lp Try.prog 81 0) (z57 s c s0 s2 s4 s10) (z57 s c s0 s2 s4 zz):=by
 unfold z3x
 exact tbD (fun h11 h11p=> x8 fun h12=> tbE (fun h13 h13p=> u6) fun h13 h13p=> by intro e;injection e with e;subst e;exact j0 z9 (k:=300) (r:=[]) (hs:=hz [(1,[.yes]),(5,[.yes,.yes,.cells ((Po.cells (v9 s4.points s10.toNat)))]),(11,[.no]),(2,[])]) (ks:=[0,1,7,8]) (st1:=(St.mk [(0,(AV.rf 4 3 0 s4.points.length)),(1,(AV.fn (82:Nat) [(AV.pt 8 0)])),(7,(AV.i (s4.points.length:Int))),(8,(AV.i (wr (s10+(1:Int)))))] 19 (AH.mk 10 [(9,(AObj.cells [(AV.i (v9 s4.points s10.toNat).id),(AV.i (v9 s4.points s10.toNat).gen),(exs (v9 s4.points s10.toNat).map)])),(8,(AObj.cells [(AV.i c.kind),(AV.i c.lba),(AV.i c.n),(AV.i c.id),(bys c.d),(exs c.list)])),(6,(AObj.cells [(AV.i s4.blocks),(AV.i s4.gen),(AV.rf 3 5 0 s4.map.length),(AV.rf 4 3 0 s4.points.length),(AV.i s4.last),(AV.rf 5 1 0 s4.staged.length)])),(5,(AObj.cells (List.map AV.y s4.staged))),(4,(AObj.cells (s4.points.flatMap Po.cells))),(3,(AObj.cells (s4.map.flatMap Ex.cells))),(2,(AObj.cells [(AV.i 0),(AV.i 0),AV.nl,AV.nl,(AV.i 0),AV.nl])),(1,(AObj.cells [(AV.i c.kind),(AV.i c.lba),(AV.i c.n),(AV.i c.id),(bys c.d),(exs c.list)])),(0,(AObj.cells [(AV.i s.blocks),(AV.i s.gen),(exs s.map),(AV.sl s.points.length (s.points.flatMap Po.cells)),(AV.i s.last),(bys s.staged)]))]) false)) kq (ac h11 (ac h12 (ac (fq (p:=((((0:Nat)+(s10.toNat*3))+(3:Nat))≤(List.length (s4.points.flatMap Po.cells))))) (ac (show (List.take 3 (List.drop ((0:Nat)+(s10.toNat*3)) (s4.points.flatMap Po.cells)))=(Po.cells (v9 s4.points s10.toNat)) from (z10 bq bq)) (ac h13 an))))) (Nat.le_of_ble_eq_true rfl) (Nat.le_of_ble_eq_true rfl) (y9 [] [] kq (.consn kq (.rf rfl) (.consn kq (.fn (.cons (.pt rfl) .nil)) (.consn kq (.eqv tq rfl) (.consn kq (.eqv tq rfl) .nil)))) (.cons (.old rfl rfl (.cells (.pl rfl pq))) (.cons (.old rfl rfl (.cells (.cons (.eqv tq rfl) (.cons (.eqv tq rfl) (.cons (.rf rfl) (.cons (.rf rfl) (.cons (.eqv tq rfl) (.cons (.rf rfl) .nil)))))))) (.cons (.old rfl rfl (.cells (.pl rfl (by simp)))) (.cons (.old rfl rfl (.cells (.pl rfl (by simp)))) (.cons (.old rfl rfl (.cells (.pl rfl (by simp)))) (.cons (.old rfl rfl (.cells (.cons (.eqv tq rfl) (.cons (.eqv tq rfl) (.cons .nl0 (.cons .nl0 (.cons (.eqv tq rfl) (.cons .nl0 .nil)))))))) (.cons (.old rfl rfl (.cells (.pl rfl pq))) (.cons (.old rfl rfl (.cells (.pl rfl pq))) .nil)))))))))) fun h11 h11p=> u6
noncomputable abbrev z8o (s:Sa) (c:Ch) (s0:Int) (s2:Bool) (s4:Sa) (s13:List Ex):St:=(St.mk [(0,(AV.pt 6 0)),(1,(exs c.list)),(4,(AV.i 0)),(9,(exs c.list)),(10,(AV.rf 9 5 0 s13.length)),(5,(AV.rf 9 5 0 s13.length)),(11,(AV.rf 9 5 0 s13.length)),(12,(AV.i (s13.length:Int))),(13,(AV.i 0))] 45 (AH.mk 10 [(9,(AObj.cells (s13.flatMap Ex.cells))),(8,(AObj.cells [(AV.i c.kind),(AV.i c.lba),(AV.i c.n),(AV.i c.id),(bys c.d),(exs c.list)])),(7,(AObj.map [((AV.i 1),(AV.fn (55:Nat) ([]:List AV))),((AV.i 2),(AV.fn (56:Nat) ([]:List AV))),((AV.i 3),(AV.fn (57:Nat) ([]:List AV))),((AV.i 4),(AV.fn (58:Nat) ([]:List AV))),((AV.i 5),(AV.fn (59:Nat) ([]:List AV))),((AV.i 6),(AV.fn (60:Nat) ([]:List AV))),((AV.i 7),(AV.fn (61:Nat) ([]:List AV))),((AV.i 8),(AV.fn (62:Nat) ([]:List AV)))])),(6,(AObj.cells [(AV.i s4.blocks),(AV.i s4.gen),(AV.rf 3 5 0 s4.map.length),(AV.rf 4 3 0 s4.points.length),(AV.i s4.last),(AV.rf 5 1 0 s4.staged.length)])),(5,(AObj.cells (List.map AV.y s4.staged))),(4,(AObj.cells (s4.points.flatMap Po.cells))),(3,(AObj.cells (s4.map.flatMap Ex.cells))),(2,(AObj.cells [(AV.i 0),(AV.i 0),AV.nl,AV.nl,(AV.i 0),AV.nl])),(1,(AObj.cells [(AV.i c.kind),(AV.i c.lba),(AV.i c.n),(AV.i c.id),(bys c.d),(exs c.list)])),(0,(AObj.cells [(AV.i s.blocks),(AV.i s.gen),(exs s.map),(AV.sl s.points.length (s.points.flatMap Po.cells)),(AV.i s.last),(bys s.staged)]))]) false)
noncomputable abbrev z2d (s:Sa) (c:Ch) (s0:Int) (s2:Bool) (s4:Sa) (s13:List Ex) (s14:Int×List Ex):St:=(St.mk [(0,(AV.pt 6 0)),(5,(AV.rf 9 5 0 s13.length)),(12,(AV.i (s13.length:Int))),(13,(AV.i s14.1))] 45 (AH.mk 10 [(9,(AObj.cells (s14.2.flatMap Ex.cells))),(8,(AObj.cells [(AV.i c.kind),(AV.i c.lba),(AV.i c.n),(AV.i c.id),(bys c.d),(exs c.list)])),(6,(AObj.cells [(AV.i s4.blocks),(AV.i s4.gen),(AV.rf 3 5 0 s4.map.length),(AV.rf 4 3 0 s4.points.length),(AV.i s4.last),(AV.rf 5 1 0 s4.staged.length)])),(5,(AObj.cells (List.map AV.y s4.staged))),(4,(AObj.cells (s4.points.flatMap Po.cells))),(3,(AObj.cells (s4.map.flatMap Ex.cells))),(2,(AObj.cells [(AV.i 0),(AV.i 0),AV.nl,AV.nl,(AV.i 0),AV.nl])),(1,(AObj.cells [(AV.i c.kind),(AV.i c.lba),(AV.i c.n),(AV.i c.id),(bys c.d),(exs c.list)])),(0,(AObj.cells [(AV.i s.blocks),(AV.i s.gen),(exs s.map),(AV.sl s.points.length (s.points.flatMap Po.cells)),(AV.i s.last),(bys s.staged)]))]) false)
noncomputable def z86 (s:Sa) (c:Ch) (s0:Int) (s2:Bool) (s4:Sa) (s13:List Ex) (s14:Int×List Ex):Option (Int×List Ex):=
 (tb ((decide (s14.1 < (s13.length:Int)))) (tp ((((0:Int)≤s14.1)∧(s14.1 < (s13.length:Int)))) (tp ((((List.length [(AV.i s4.gen)])=(1:Nat))∧(((((0:Nat)+(s14.1.toNat*5))+(3:Nat))+(List.length [(AV.i s4.gen)]))≤(List.length (s14.2.flatMap Ex.cells))))) (some (((wr (s14.1+(1:Int))),(List.set s14.2 s14.1.toNat (Ex.mk (z0 s14.2 s14.1.toNat).lba (z0 s14.2 s14.1.toNat).len (z0 s14.2 s14.1.toNat).kind s4.gen (z0 s14.2 s14.1.toNat).d))))))) none)
theorem z79 (s:Sa) (c:Ch) (s0:Int) (s2:Bool) (s4:Sa) (s13:List Ex) (s14 zz:Int×List Ex):z86 s c s0 s2 s4 s13 s14=some zz→u7 Try.prog cf 10 (lp Try.prog 80 0) (z2d s c s0 s2 s4 s13 s14) (z2d s c s0 s2 s4 s13 zz):=by
 unfold z86
 exact tbD (fun h15 h15p=> x8 fun h16=> x8 fun h17=> by intro e;injection e with e;subst e;exact j0 z9 (k:=300) (r:=[]) (hs:=hz [(1,[.yes]),(9,[.yes]),(1,[.yes,.cells ((List.flatMap Ex.cells (List.set s14.2 s14.1.toNat (Ex.mk (z0 s14.2 s14.1.toNat).lba (z0 s14.2 s14.1.toNat).len (z0 s14.2 s14.1.toNat).kind s4.gen (z0 s14.2 s14.1.toNat).d))))]),(2,[])]) (ks:=[0,5,12,13]) (st1:=(St.mk [(0,(AV.pt 6 0)),(5,(AV.rf 9 5 0 s13.length)),(12,(AV.i (s13.length:Int))),(13,(AV.i (wr (s14.1+(1:Int)))))] 45 (AH.mk 10 [(9,(AObj.cells (List.flatMap Ex.cells (List.set s14.2 s14.1.toNat (Ex.mk (z0 s14.2 s14.1.toNat).lba (z0 s14.2 s14.1.toNat).len (z0 s14.2 s14.1.toNat).kind s4.gen (z0 s14.2 s14.1.toNat).d))))),(8,(AObj.cells [(AV.i c.kind),(AV.i c.lba),(AV.i c.n),(AV.i c.id),(bys c.d),(exs c.list)])),(6,(AObj.cells [(AV.i s4.blocks),(AV.i s4.gen),(AV.rf 3 5 0 s4.map.length),(AV.rf 4 3 0 s4.points.length),(AV.i s4.last),(AV.rf 5 1 0 s4.staged.length)])),(5,(AObj.cells (List.map AV.y s4.staged))),(4,(AObj.cells (s4.points.flatMap Po.cells))),(3,(AObj.cells (s4.map.flatMap Ex.cells))),(2,(AObj.cells [(AV.i 0),(AV.i 0),AV.nl,AV.nl,(AV.i 0),AV.nl])),(1,(AObj.cells [(AV.i c.kind),(AV.i c.lba),(AV.i c.n),(AV.i c.id),(bys c.d),(exs c.list)])),(0,(AObj.cells [(AV.i s.blocks),(AV.i s.gen),(exs s.map),(AV.sl s.points.length (s.points.flatMap Po.cells)),(AV.i s.last),(bys s.staged)]))]) false)) kq (ac h15 (ac h16 (ac h17 (ac (show (((List.take (((0:Nat)+(s14.1.toNat*5))+(3:Nat)) (s14.2.flatMap Ex.cells))++[(AV.i s4.gen)])++(List.drop ((((0:Nat)+(s14.1.toNat*5))+(3:Nat))+(List.length [(AV.i s4.gen)])) (s14.2.flatMap Ex.cells)))=(List.flatMap Ex.cells (List.set s14.2 s14.1.toNat (Ex.mk (z0 s14.2 s14.1.toNat).lba (z0 s14.2 s14.1.toNat).len (z0 s14.2 s14.1.toNat).kind s4.gen (z0 s14.2 s14.1.toNat).d))) from (by rw [show (((0:Nat)+(s14.1.toNat*5))+(3:Nat))=(s14.1.toNat)*5+3 by omega];exact zak _ _ 3 _ ((Ex.mk (z0 s14.2 s14.1.toNat).lba (z0 s14.2 s14.1.toNat).len (z0 s14.2 s14.1.toNat).kind s4.gen (z0 s14.2 s14.1.toNat).d)) bq (by simp) rfl)) an)))) (Nat.le_of_ble_eq_true rfl) (Nat.le_of_ble_eq_true rfl) (y9 [] [] kq (.consn kq (.pt rfl) (.consn kq (.rf rfl) (.consn kq (.eqv tq rfl) (.consn kq (.eqv tq rfl) .nil)))) (.cons (.old rfl rfl (.cells (.pl tq pq))) (.cons (.old rfl rfl (.cells (.pl rfl pq))) (.cons (.old rfl rfl (.cells (.cons (.eqv tq rfl) (.cons (.eqv tq rfl) (.cons (.rf rfl) (.cons (.rf rfl) (.cons (.eqv tq rfl) (.cons (.rf rfl) .nil)))))))) (.cons (.old rfl rfl (.cells (.pl rfl (by simp)))) (.cons (.old rfl rfl (.cells (.pl rfl (by simp)))) (.cons (.old rfl rfl (.cells (.pl rfl (by simp)))) (.cons (.old rfl rfl (.cells (.cons (.eqv tq rfl) (.cons (.eqv tq rfl) (.cons .nl0 (.cons .nl0 (.cons (.eqv tq rfl) (.cons .nl0 .nil)))))))) (.cons (.old rfl rfl (.cells (.pl rfl pq))) (.cons (.old rfl rfl (.cells (.pl rfl pq))) .nil))))))))))) fun h15 h15p=> u6
noncomputable def sDo (s:Sa) (c:Ch):Option (Sa×Int):=
 (tc (z8g (s)) fun s0=> (tb ((s0 !=(0:Int))) (some (((Sa.mk 0 0 ([]:List Ex) ([]:List Po) 0 ([]:List UInt8)),(110:Int)))) (tc (zfo (c)) fun s2=> (tb ((!s2)) (tc (z3s (s)) fun s4=> (tp ((((0:Nat)=(0:Nat))∧((List.length (s4.map.flatMap Ex.cells))=(s4.map.length*5)))) (some ((s4,(100:Int)))))) (tc (z3s (s)) fun s4=> (tb ((decide ((1:Int)=c.kind))) (tc (z2g ([(Ex.mk c.lba c.n 2 0 c.d)])) fun s6=> (th (z8z s c s0 s2 s4 s6) (((0:Int),s6)) fun s7=> (tb ((decide (s7.1 < (s6.length:Int)))) none (tp ((((0:Nat)=(0:Nat))∧((List.length (s4.map.flatMap Ex.cells))=(s4.map.length*5)))) (tp ((((0:Nat)=(0:Nat))∧((List.length (s7.2.flatMap Ex.cells))=(s6.length*5)))) (tc (zkt (s4.blocks) (s4.map) (s7.2)) fun s11=> (tb ((s11.2==(0:Int))) (some (((Sa.mk s4.blocks s4.gen s11.1 s4.points s4.last s4.staged),(0:Int)))) (tc (z3s (s)) fun s13=> (some ((s13,s11.2))))))))))) (tb ((decide ((2:Int)=c.kind))) (tc (z2g ([(Ex.mk c.lba c.n 1 0 ([]:List UInt8))])) fun s7=> (th (z8w s c s0 s2 s4 s7) (((0:Int),s7)) fun s8=> (tb ((decide (s8.1 < (s7.length:Int)))) none (tp ((((0:Nat)=(0:Nat))∧((List.length (s4.map.flatMap Ex.cells))=(s4.map.length*5)))) (tp ((((0:Nat)=(0:Nat))∧((List.length (s8.2.flatMap Ex.cells))=(s7.length*5)))) (tc (zkt (s4.blocks) (s4.map) (s8.2)) fun s12=> (tb ((s12.2==(0:Int))) (some (((Sa.mk s4.blocks s4.gen s12.1 s4.points s4.last s4.staged),(0:Int)))) (tc (z3s (s)) fun s14=> (some ((s14,s12.2))))))))))) (tb ((decide ((3:Int)=c.kind))) (tc (z2g ([(Ex.mk c.lba c.n 0 0 ([]:List UInt8))])) fun s8=> (th (z8y s c s0 s2 s4 s8) (((0:Int),s8)) fun s9=> (tb ((decide (s9.1 < (s8.length:Int)))) none (tp ((((0:Nat)=(0:Nat))∧((List.length (s4.map.flatMap Ex.cells))=(s4.map.length*5)))) (tp ((((0:Nat)=(0:Nat))∧((List.length (s9.2.flatMap Ex.cells))=(s8.length*5)))) (tc (zkt (s4.blocks) (s4.map) (s9.2)) fun s13=> (tb ((s13.2==(0:Int))) (some (((Sa.mk s4.blocks s4.gen s13.1 s4.points s4.last s4.staged),(0:Int)))) (tc (z3s (s)) fun s15=> (some ((s15,s13.2))))))))))) (tb ((decide ((4:Int)=c.kind))) (tb ((decide (c.id≤s4.last))) (tc (z3s (s)) fun s10=> (tp ((((0:Nat)=(0:Nat))∧((List.length (s10.map.flatMap Ex.cells))=(s10.map.length*5)))) (some ((s10,(112:Int)))))) (tb (((s4.points.length:Int)==(4:Int))) (tc (z3s (s)) fun s11=> (tp ((((0:Nat)=(0:Nat))∧((List.length (s11.map.flatMap Ex.cells))=(s11.map.length*5)))) (some ((s11,(113:Int)))))) (tb ((s4.gen==(2147483647:Int))) (tc (z3s (s)) fun s12=> (tp ((((0:Nat)=(0:Nat))∧((List.length (s12.map.flatMap Ex.cells))=(s12.map.length*5)))) (some ((s12,(113:Int)))))) (tp ((((0:Nat)=(0:Nat))∧((List.length (s4.map.flatMap Ex.cells))=(s4.map.length*5)))) (tc (z2g (s4.map)) fun s13=> (tp ((((List.length (s4.points.flatMap Po.cells))=(s4.points.length*3))∧((s4.points.length+(1:Nat))≤(4294967296:Nat)))) (tp ((((0:Nat)=(0:Nat))∧((List.length ((s4.points.flatMap Po.cells)++[(AV.i c.id),(AV.i s4.gen),(AV.rf 9 5 0 s13.length)]))=((s4.points.length+(1:Nat))*3)))) (some (((Sa.mk s4.blocks (wr (s4.gen+(1:Int))) s4.map (s4.points++[(Po.mk c.id s4.gen (List.take s13.length s13))]) c.id s4.staged),(0:Int))))))))))) (tb ((decide ((5:Int)=c.kind))) (th (z3x s c s0 s2 s4) ((0:Int)) fun s10=> (tb ((decide (s10 < (s4.points.length:Int)))) (tp ((((0:Int)≤s10)∧(s10 < (s4.points.length:Int)))) (tb (((v9 s4.points s10.toNat).id==c.id)) (tb ((decide (s10 < (0:Int)))) (tc (z3s (s)) fun s15=> (some ((s15,(111:Int))))) (tp ((s4.points.length≤(4294967296:Nat))) (tp (((List.length (s4.points.flatMap Po.cells))=(s4.points.length*3))) (tp (((wr (s10+(1:Int)))=(s10+(1:Int)))) (tp ((((0:Nat)=(0:Nat))∧((List.length (s4.map.flatMap Ex.cells))=(s4.map.length*5)))) (tp ((((0:Nat)=(0:Nat))∧((List.length (List.flatMap Po.cells ((List.take s10.toNat s4.points)++(List.drop (s10.toNat+(1:Nat)) s4.points))))=((s4.points.length - (1:Nat))*3)))) (some (((Sa.mk s4.blocks s4.gen s4.map ((List.take s10.toNat s4.points)++(List.drop (s10.toNat+(1:Nat)) s4.points)) s4.last s4.staged),(0:Int)))))))))) none)) (tc (z3s (s)) fun s12=> (tp ((((0:Nat)=(0:Nat))∧((List.length (s12.map.flatMap Ex.cells))=(s12.map.length*5)))) (some ((s12,(111:Int)))))))) (tb ((decide ((6:Int)=c.kind))) (tb ((decide ((c.d.length:Int) > (wr ((4000:Int) - (s4.staged.length:Int)))))) (tc (z3s (s)) fun s12=> (tp ((((0:Nat)=(0:Nat))∧((List.length (s12.map.flatMap Ex.cells))=(s12.map.length*5)))) (some ((s12,(113:Int)))))) (tp ((((List.length (List.map AV.y s4.staged))=(s4.staged.length*1))∧((s4.staged.length+c.d.length)≤(4294967296:Nat)))) (tp ((((0:Nat)=(0:Nat))∧((List.length (s4.map.flatMap Ex.cells))=(s4.map.length*5)))) (some (((Sa.mk s4.blocks s4.gen s4.map s4.points s4.last (s4.staged++c.d)),(0:Int))))))) (tb ((decide ((7:Int)=c.kind))) (tp ((((0:Nat)=(0:Nat))∧((List.length (s4.map.flatMap Ex.cells))=(s4.map.length*5)))) (some (((Sa.mk s4.blocks s4.gen s4.map s4.points s4.last ([]:List UInt8)),(0:Int))))) (tb ((decide ((8:Int)=c.kind))) (tc (z2g (c.list)) fun s13=> (th (z86 s c s0 s2 s4 s13) (((0:Int),s13)) fun s14=> (tb ((decide (s14.1 < (s13.length:Int)))) none (tp ((((0:Nat)=(0:Nat))∧((List.length (s4.map.flatMap Ex.cells))=(s4.map.length*5)))) (tp ((((0:Nat)=(0:Nat))∧((List.length (s14.2.flatMap Ex.cells))=(s13.length*5)))) (tc (zkt (s4.blocks) (s4.map) (s14.2)) fun s18=> (tb ((s18.2==(0:Int))) (tb ((decide (c.id≤s4.last))) (tc (z3s (s)) fun s21=> (some ((s21,(112:Int))))) (tb (((s4.points.length:Int)==(4:Int))) (tc (z3s (s)) fun s22=> (some ((s22,(113:Int))))) (tb ((s4.gen==(2147483647:Int))) (tc (z3s (s)) fun s23=> (some ((s23,(113:Int))))) (tc (z2g (s18.1)) fun s23=> (tp ((((List.length (s4.points.flatMap Po.cells))=(s4.points.length*3))∧((s4.points.length+(1:Nat))≤(4294967296:Nat)))) (tp ((((0:Nat)=(0:Nat))∧((List.length ((s4.points.flatMap Po.cells)++[(AV.i c.id),(AV.i s4.gen),(AV.rf 11 5 0 s23.length)]))=((s4.points.length+(1:Nat))*3)))) (some (((Sa.mk s4.blocks (wr (s4.gen+(1:Int))) s18.1 (s4.points++[(Po.mk c.id s4.gen (List.take s23.length s23))]) c.id ([]:List UInt8)),(0:Int)))))))))) (tc (z3s (s)) fun s20=> (some ((s20,s18.2))))))))))) none)))))))))))))
abbrev sDo_G (s:Sa) (c:Ch) (r:Sa×Int):Prop:=z06 Try.prog cf false 12 [Sa.av (s),Ch.av (c)] (.tu [Sa.av (r.1),.i (r.2)])
theorem z5z (s:Sa) (c:Ch) (r:Sa×Int):sDo s c=some r→sDo_G s c r:=by
 unfold sDo
 exact w6 fun s0 h0=> tbN (fun h1 h1p=> by intro e;injection e with e;subst e;exact x4 z9 (k:=300) (r:=[]) (hs:=hz [(5,[.fc]),(1,[.fres (.i (s0))]),(2,[.yes]),(2,[.fc]),(2,[.fc])]) (raw:=(AV.tu [(AV.ag [(AV.i 0),(AV.i 0),(AV.sl 0 ([]:List AV)),(AV.sl 0 ([]:List AV)),(AV.i 0),(AV.sl 0 ([]:List AV))]),(AV.i 110)])) kq (ac (d3 (s) _ h0).any0 (ac h1 an)) tq) fun h1 h1p=> w6 fun s2 h2=> t6 (fun h3=> w6 fun s4 h4=> x8 fun h5=> by intro e;injection e with e;subst e;exact x4 z9 (k:=300) (r:=[]) (hs:=hz [(5,[.fc]),(1,[.fres (.i (s0))]),(2,[.no]),(1,[.fc]),(1,[.fres (.b (s2))]),(2,[.yes]),(1,[.fc]),(1,[.fres (Sa.av (s4))]),(1,[.fc]),(2,[.fc,.yes,.yes,.yes,.yes,.yes,.yes])]) (raw:=(AV.tu [(AV.ag [(AV.i s4.blocks),(AV.i s4.gen),(exs s4.map),(AV.sl s4.points.length (s4.points.flatMap Po.cells)),(AV.i s4.last),(bys s4.staged)]),(AV.i 100)])) kq (ac (d3 (s) _ h0).any0 (ac h1 (ac (z03 (c) _ h2).any0 (ac h3 (ac (t8 (s) _ h4) (ac h5 (ac (pq (p:=Pl false ((s4.map.flatMap Ex.cells)))) (ac (fq (p:=(((0:Nat)=(0:Nat))∧((List.length (s4.points.flatMap Po.cells))=(s4.points.length*3))))) (ac (pq (p:=Pl false ((s4.points.flatMap Po.cells)))) (ac (tq (p:=(((0:Nat)=(0:Nat))∧((List.length (List.map AV.y s4.staged))=(s4.staged.length*1))))) (ac (pq (p:=Pl false ((List.map AV.y s4.staged)))) an))))))))))) tq) fun h3=> w6 fun s4 h4=> tbD (fun h5 h5p=> w6 fun s6 h6=> z13 fun s7 h7=> tbD (fun h8 h8p=> u6) fun h8 h8p=> x8 fun h9=> x8 fun h10=> w6 fun s11 h11=> tbE (fun h12 h12p=> by intro e;injection e with e;subst e;exact x4 z9 (k:=300) (r:=[]) (hs:=hz [(5,[.fc]),(1,[.fres (.i (s0))]),(2,[.no]),(1,[.fc]),(1,[.fres (.b (s2))]),(2,[.no]),(1,[.fc]),(1,[.fres (Sa.av (s4))]),(2,[.fc]),(17,[.yes]),(1,[.fc]),(15,[.fc,.fc]),(4,[.yes]),(1,[.fres (exs (s6))]),(4,[.head (z70 s c s0 s2 s4 s6 s7)]),(1,[.no]),(12,[.yes,.yes,.yes,.yes,.fres (.tu [exs (s11.1),.i (s11.2)])]),(5,[.yes]),(2,[.yes]),(5,[.fc]),(4,[.yes]),(2,[.no]),(1,[.fc]),(1,[.fc]),(2,[.fc,.yes,.yes,.yes,.yes])]) (raw:=(AV.tu [(AV.ag [(AV.i s4.blocks),(AV.i s4.gen),(exs s11.1),(AV.sl s4.points.length (s4.points.flatMap Po.cells)),(AV.i s4.last),(bys s4.staged)]),(AV.i 0)])) kq (ac (d3 (s) _ h0).any0 (ac h1 (ac (z03 (c) _ h2).any0 (ac h3 (ac (t8 (s) _ h4) (ac h5 (ac (tq (p:=(((0:Nat)=(0:Nat))∧((List.length [(AV.i c.lba),(AV.i c.n),(AV.i 2),(AV.i 0),(bys c.d)])=(5:Nat))))) (ac (z07 ([(Ex.mk c.lba c.n 2 0 c.d)]) _ h6) (ac (show x5 Try.prog cf (lp Try.prog 80 0) (zm1 s c s0 s2 s4 s6) (z70 s c s0 s2 s4 s6 s7) from (x5.of (zh9 s c s0 s2 s4 s6) (y9 [] [] kq (.consn kq (.pt rfl) (.consn kq (.rf rfl) (.consn kq (.eqv tq rfl) (.consn kq (.eqv tq rfl) .nil)))) (.cons (.old rfl rfl (.cells (.pl tq pq))) (.cons (.old rfl rfl (.ro (.pl rfl (by simp)))) (.cons (.old rfl rfl (.cells (.pl rfl pq))) (.cons (.old rfl rfl (.cells (.cons (.eqv tq rfl) (.cons (.eqv tq rfl) (.cons (.rf rfl) (.cons (.rf rfl) (.cons (.eqv tq rfl) (.cons (.rf rfl) .nil)))))))) (.cons (.old rfl rfl (.cells (.pl rfl (by simp)))) (.cons (.old rfl rfl (.cells (.pl rfl (by simp)))) (.cons (.old rfl rfl (.cells (.pl rfl (by simp)))) (.cons (.old rfl rfl (.cells (.cons (.eqv tq rfl) (.cons (.eqv tq rfl) (.cons .nl0 (.cons .nl0 (.cons (.eqv tq rfl) (.cons .nl0 .nil)))))))) (.cons (.old rfl rfl (.cells (.pl rfl pq))) (.cons (.old rfl rfl (.cells (.pl rfl pq))) .nil))))))))))) h7)) (ac h8 (ac h9 (ac (pq (p:=Pl false ((s4.map.flatMap Ex.cells)))) (ac h10 (ac (pq (p:=Pl false ((s7.2.flatMap Ex.cells)))) (ac (show z06 Try.prog cf false 28 [(AV.i s4.blocks),(exs s4.map),(AV.sl s6.length (s7.2.flatMap Ex.cells))] (.tu [exs (s11.1),.i (s11.2)]) from ((z44 (s4.blocks) (s4.map) (s7.2) _ h11).cast tq)) (ac (show z8 (rg Try.prog 80 0)=true∧x7 (Region.before (rg Try.prog 80 0)) [] 0 [(some [],some []),(some [],some []),(some [],some []),(some [6],some []),(some [],some []),(some [],some []),(some [],some []),(some [6],some []),(some [],some []),(some [3,10],some [3,10]),(some [],some []),(some [],some []),(some [],some []),(some [],some []),(some [],some [])]=true from (x0 z2w z30 kq)) (ac h12 (ac (show z8 (rg Try.prog 12 0)=true∧x7 (Region.before (rg Try.prog 12 0)) [] 0 [(some [],some [7]),(some [],some []),(some [1],some []),(some [7],some []),(some [1],some []),(none,none),(some [],some [])]=true from (x0 z0b z0c kq)) (ac (congrArg not h12) (ac (fq (p:=(((0:Nat)=(0:Nat))∧((List.length (s4.points.flatMap Po.cells))=(s4.points.length*3))))) (ac (pq (p:=Pl false ((s4.points.flatMap Po.cells)))) (ac (tq (p:=(((0:Nat)=(0:Nat))∧((List.length (List.map AV.y s4.staged))=(s4.staged.length*1))))) (ac (pq (p:=Pl false ((List.map AV.y s4.staged)))) an))))))))))))))))))))))) tq) fun h12 h12p=> w6 fun s13 h13=> by intro e;injection e with e;subst e;exact x4 z9 (k:=300) (r:=[]) (hs:=hz [(5,[.fc]),(1,[.fres (.i (s0))]),(2,[.no]),(1,[.fc]),(1,[.fres (.b (s2))]),(2,[.no]),(1,[.fc]),(1,[.fres (Sa.av (s4))]),(2,[.fc]),(17,[.yes]),(1,[.fc]),(15,[.fc,.fc]),(4,[.yes]),(1,[.fres (exs (s6))]),(4,[.head (z70 s c s0 s2 s4 s6 s7)]),(1,[.no]),(12,[.yes,.yes,.yes,.yes,.fres (.tu [exs (s11.1),.i (s11.2)])]),(5,[.yes]),(2,[.no]),(4,[.yes]),(2,[.yes]),(1,[.fc]),(1,[.fres (Sa.av (s13))]),(2,[.fc]),(2,[.fc,.yes,.yes,.yes,.yes,.yes,.yes])]) (raw:=(AV.tu [(AV.ag [(AV.i s13.blocks),(AV.i s13.gen),(exs s13.map),(AV.sl s13.points.length (s13.points.flatMap Po.cells)),(AV.i s13.last),(bys s13.staged)]),(AV.i s11.2)])) kq (ac (d3 (s) _ h0).any0 (ac h1 (ac (z03 (c) _ h2).any0 (ac h3 (ac (t8 (s) _ h4) (ac h5 (ac (tq (p:=(((0:Nat)=(0:Nat))∧((List.length [(AV.i c.lba),(AV.i c.n),(AV.i 2),(AV.i 0),(bys c.d)])=(5:Nat))))) (ac (z07 ([(Ex.mk c.lba c.n 2 0 c.d)]) _ h6) (ac (show x5 Try.prog cf (lp Try.prog 80 0) (zm1 s c s0 s2 s4 s6) (z70 s c s0 s2 s4 s6 s7) from (x5.of (zh9 s c s0 s2 s4 s6) (y9 [] [] kq (.consn kq (.pt rfl) (.consn kq (.rf rfl) (.consn kq (.eqv tq rfl) (.consn kq (.eqv tq rfl) .nil)))) (.cons (.old rfl rfl (.cells (.pl tq pq))) (.cons (.old rfl rfl (.ro (.pl rfl (by simp)))) (.cons (.old rfl rfl (.cells (.pl rfl pq))) (.cons (.old rfl rfl (.cells (.cons (.eqv tq rfl) (.cons (.eqv tq rfl) (.cons (.rf rfl) (.cons (.rf rfl) (.cons (.eqv tq rfl) (.cons (.rf rfl) .nil)))))))) (.cons (.old rfl rfl (.cells (.pl rfl (by simp)))) (.cons (.old rfl rfl (.cells (.pl rfl (by simp)))) (.cons (.old rfl rfl (.cells (.pl rfl (by simp)))) (.cons (.old rfl rfl (.cells (.cons (.eqv tq rfl) (.cons (.eqv tq rfl) (.cons .nl0 (.cons .nl0 (.cons (.eqv tq rfl) (.cons .nl0 .nil)))))))) (.cons (.old rfl rfl (.cells (.pl rfl pq))) (.cons (.old rfl rfl (.cells (.pl rfl pq))) .nil))))))))))) h7)) (ac h8 (ac h9 (ac (pq (p:=Pl false ((s4.map.flatMap Ex.cells)))) (ac h10 (ac (pq (p:=Pl false ((s7.2.flatMap Ex.cells)))) (ac (show z06 Try.prog cf false 28 [(AV.i s4.blocks),(exs s4.map),(AV.sl s6.length (s7.2.flatMap Ex.cells))] (.tu [exs (s11.1),.i (s11.2)]) from ((z44 (s4.blocks) (s4.map) (s7.2) _ h11).cast tq)) (ac (show z8 (rg Try.prog 80 0)=true∧x7 (Region.before (rg Try.prog 80 0)) [] 0 [(some [],some []),(some [],some []),(some [],some []),(some [6],some []),(some [],some []),(some [],some []),(some [],some []),(some [6],some []),(some [],some []),(some [3,10],some [3,10]),(some [],some []),(some [],some []),(some [],some []),(some [],some []),(some [],some [])]=true from (x0 z2w z30 kq)) (ac h12 (ac (show z8 (rg Try.prog 12 0)=true∧x7 (Region.before (rg Try.prog 12 0)) [] 0 [(some [],some [7]),(some [],some []),(some [1],some []),(some [7],some []),(some [1],some []),(none,none),(some [],some [])]=true from (x0 z0b z0c kq)) (ac (congrArg not h12) (ac (t8 (s) _ h13) (ac (fq (p:=(((0:Nat)=(0:Nat))∧((List.length (s13.map.flatMap Ex.cells))=(s13.map.length*5))))) (ac (pq (p:=Pl false ((s13.map.flatMap Ex.cells)))) (ac (fq (p:=(((0:Nat)=(0:Nat))∧((List.length (s13.points.flatMap Po.cells))=(s13.points.length*3))))) (ac (pq (p:=Pl false ((s13.points.flatMap Po.cells)))) (ac (tq (p:=(((0:Nat)=(0:Nat))∧((List.length (List.map AV.y s13.staged))=(s13.staged.length*1))))) (ac (pq (p:=Pl false ((List.map AV.y s13.staged)))) an)))))))))))))))))))))))))) tq) fun h5 h5p=> tbD (fun h6 h6p=> w6 fun s7 h7=> z13 fun s8 h8=> tbD (fun h9 h9p=> u6) fun h9 h9p=> x8 fun h10=> x8 fun h11=> w6 fun s12 h12=> tbE (fun h13 h13p=> by intro e;injection e with e;subst e;exact x4 z9 (k:=300) (r:=[]) (hs:=hz [(5,[.fc]),(1,[.fres (.i (s0))]),(2,[.no]),(1,[.fc]),(1,[.fres (.b (s2))]),(2,[.no]),(1,[.fc]),(1,[.fres (Sa.av (s4))]),(2,[.fc]),(17,[.no,.yes]),(1,[.fc]),(12,[.fc,.fc]),(4,[.yes]),(1,[.fres (exs (s7))]),(4,[.head (z76 s c s0 s2 s4 s7 s8)]),(1,[.no]),(12,[.yes,.yes,.yes,.yes,.fres (.tu [exs (s12.1),.i (s12.2)])]),(5,[.yes]),(2,[.yes]),(5,[.fc]),(4,[.yes]),(2,[.no]),(1,[.fc]),(1,[.fc]),(2,[.fc,.yes,.yes,.yes,.yes])]) (raw:=(AV.tu [(AV.ag [(AV.i s4.blocks),(AV.i s4.gen),(exs s12.1),(AV.sl s4.points.length (s4.points.flatMap Po.cells)),(AV.i s4.last),(bys s4.staged)]),(AV.i 0)])) kq (ac (d3 (s) _ h0).any0 (ac h1 (ac (z03 (c) _ h2).any0 (ac h3 (ac (t8 (s) _ h4) (ac h5 (ac h6 (ac (tq (p:=(((0:Nat)=(0:Nat))∧((List.length [(AV.i c.lba),(AV.i c.n),(AV.i (Int.ofNat 1)),(AV.i (Int.ofNat 0)),AV.nl])=(5:Nat))))) (ac (z07 ([(Ex.mk c.lba c.n 1 0 ([]:List UInt8))]) _ h7) (ac (show x5 Try.prog cf (lp Try.prog 80 0) (zlb s c s0 s2 s4 s7) (z76 s c s0 s2 s4 s7 s8) from (x5.of (zii s c s0 s2 s4 s7) (y9 [] [] kq (.consn kq (.pt rfl) (.consn kq (.rf rfl) (.consn kq (.eqv tq rfl) (.consn kq (.eqv tq rfl) .nil)))) (.cons (.old rfl rfl (.cells (.pl tq pq))) (.cons (.old rfl rfl (.ro (.pl0 rfl))) (.cons (.old rfl rfl (.cells (.pl rfl pq))) (.cons (.old rfl rfl (.cells (.cons (.eqv tq rfl) (.cons (.eqv tq rfl) (.cons (.rf rfl) (.cons (.rf rfl) (.cons (.eqv tq rfl) (.cons (.rf rfl) .nil)))))))) (.cons (.old rfl rfl (.cells (.pl rfl (by simp)))) (.cons (.old rfl rfl (.cells (.pl rfl (by simp)))) (.cons (.old rfl rfl (.cells (.pl rfl (by simp)))) (.cons (.old rfl rfl (.cells (.cons (.eqv tq rfl) (.cons (.eqv tq rfl) (.cons .nl0 (.cons .nl0 (.cons (.eqv tq rfl) (.cons .nl0 .nil)))))))) (.cons (.old rfl rfl (.cells (.pl rfl pq))) (.cons (.old rfl rfl (.cells (.pl rfl pq))) .nil))))))))))) h8)) (ac h9 (ac h10 (ac (pq (p:=Pl false ((s4.map.flatMap Ex.cells)))) (ac h11 (ac (pq (p:=Pl false ((s8.2.flatMap Ex.cells)))) (ac (show z06 Try.prog cf false 28 [(AV.i s4.blocks),(exs s4.map),(AV.sl s7.length (s8.2.flatMap Ex.cells))] (.tu [exs (s12.1),.i (s12.2)]) from ((z44 (s4.blocks) (s4.map) (s8.2) _ h12).cast tq)) (ac (show z8 (rg Try.prog 80 0)=true∧x7 (Region.before (rg Try.prog 80 0)) [] 0 [(some [],some []),(some [],some []),(some [],some []),(some [6],some []),(some [],some []),(some [],some []),(some [],some []),(some [6],some []),(some [],some []),(some [3,10],some [3,10]),(some [],some []),(some [],some []),(some [],some []),(some [],some []),(some [],some [])]=true from (x0 z2w z30 kq)) (ac h13 (ac (show z8 (rg Try.prog 12 0)=true∧x7 (Region.before (rg Try.prog 12 0)) [] 0 [(some [],some [7]),(some [],some []),(some [1],some []),(some [7],some []),(some [1],some []),(none,none),(some [],some [])]=true from (x0 z0b z0c kq)) (ac (congrArg not h13) (ac (fq (p:=(((0:Nat)=(0:Nat))∧((List.length (s4.points.flatMap Po.cells))=(s4.points.length*3))))) (ac (pq (p:=Pl false ((s4.points.flatMap Po.cells)))) (ac (tq (p:=(((0:Nat)=(0:Nat))∧((List.length (List.map AV.y s4.staged))=(s4.staged.length*1))))) (ac (pq (p:=Pl false ((List.map AV.y s4.staged)))) an)))))))))))))))))))))))) tq) fun h13 h13p=> w6 fun s14 h14=> by intro e;injection e with e;subst e;exact x4 z9 (k:=300) (r:=[]) (hs:=hz [(5,[.fc]),(1,[.fres (.i (s0))]),(2,[.no]),(1,[.fc]),(1,[.fres (.b (s2))]),(2,[.no]),(1,[.fc]),(1,[.fres (Sa.av (s4))]),(2,[.fc]),(17,[.no,.yes]),(1,[.fc]),(12,[.fc,.fc]),(4,[.yes]),(1,[.fres (exs (s7))]),(4,[.head (z76 s c s0 s2 s4 s7 s8)]),(1,[.no]),(12,[.yes,.yes,.yes,.yes,.fres (.tu [exs (s12.1),.i (s12.2)])]),(5,[.yes]),(2,[.no]),(4,[.yes]),(2,[.yes]),(1,[.fc]),(1,[.fres (Sa.av (s14))]),(2,[.fc]),(2,[.fc,.yes,.yes,.yes,.yes,.yes,.yes])]) (raw:=(AV.tu [(AV.ag [(AV.i s14.blocks),(AV.i s14.gen),(exs s14.map),(AV.sl s14.points.length (s14.points.flatMap Po.cells)),(AV.i s14.last),(bys s14.staged)]),(AV.i s12.2)])) kq (ac (d3 (s) _ h0).any0 (ac h1 (ac (z03 (c) _ h2).any0 (ac h3 (ac (t8 (s) _ h4) (ac h5 (ac h6 (ac (tq (p:=(((0:Nat)=(0:Nat))∧((List.length [(AV.i c.lba),(AV.i c.n),(AV.i (Int.ofNat 1)),(AV.i (Int.ofNat 0)),AV.nl])=(5:Nat))))) (ac (z07 ([(Ex.mk c.lba c.n 1 0 ([]:List UInt8))]) _ h7) (ac (show x5 Try.prog cf (lp Try.prog 80 0) (zlb s c s0 s2 s4 s7) (z76 s c s0 s2 s4 s7 s8) from (x5.of (zii s c s0 s2 s4 s7) (y9 [] [] kq (.consn kq (.pt rfl) (.consn kq (.rf rfl) (.consn kq (.eqv tq rfl) (.consn kq (.eqv tq rfl) .nil)))) (.cons (.old rfl rfl (.cells (.pl tq pq))) (.cons (.old rfl rfl (.ro (.pl0 rfl))) (.cons (.old rfl rfl (.cells (.pl rfl pq))) (.cons (.old rfl rfl (.cells (.cons (.eqv tq rfl) (.cons (.eqv tq rfl) (.cons (.rf rfl) (.cons (.rf rfl) (.cons (.eqv tq rfl) (.cons (.rf rfl) .nil)))))))) (.cons (.old rfl rfl (.cells (.pl rfl (by simp)))) (.cons (.old rfl rfl (.cells (.pl rfl (by simp)))) (.cons (.old rfl rfl (.cells (.pl rfl (by simp)))) (.cons (.old rfl rfl (.cells (.cons (.eqv tq rfl) (.cons (.eqv tq rfl) (.cons .nl0 (.cons .nl0 (.cons (.eqv tq rfl) (.cons .nl0 .nil)))))))) (.cons (.old rfl rfl (.cells (.pl rfl pq))) (.cons (.old rfl rfl (.cells (.pl rfl pq))) .nil))))))))))) h8)) (ac h9 (ac h10 (ac (pq (p:=Pl false ((s4.map.flatMap Ex.cells)))) (ac h11 (ac (pq (p:=Pl false ((s8.2.flatMap Ex.cells)))) (ac (show z06 Try.prog cf false 28 [(AV.i s4.blocks),(exs s4.map),(AV.sl s7.length (s8.2.flatMap Ex.cells))] (.tu [exs (s12.1),.i (s12.2)]) from ((z44 (s4.blocks) (s4.map) (s8.2) _ h12).cast tq)) (ac (show z8 (rg Try.prog 80 0)=true∧x7 (Region.before (rg Try.prog 80 0)) [] 0 [(some [],some []),(some [],some []),(some [],some []),(some [6],some []),(some [],some []),(some [],some []),(some [],some []),(some [6],some []),(some [],some []),(some [3,10],some [3,10]),(some [],some []),(some [],some []),(some [],some []),(some [],some []),(some [],some [])]=true from (x0 z2w z30 kq)) (ac h13 (ac (show z8 (rg Try.prog 12 0)=true∧x7 (Region.before (rg Try.prog 12 0)) [] 0 [(some [],some [7]),(some [],some []),(some [1],some []),(some [7],some []),(some [1],some []),(none,none),(some [],some [])]=true from (x0 z0b z0c kq)) (ac (congrArg not h13) (ac (t8 (s) _ h14) (ac (fq (p:=(((0:Nat)=(0:Nat))∧((List.length (s14.map.flatMap Ex.cells))=(s14.map.length*5))))) (ac (pq (p:=Pl false ((s14.map.flatMap Ex.cells)))) (ac (fq (p:=(((0:Nat)=(0:Nat))∧((List.length (s14.points.flatMap Po.cells))=(s14.points.length*3))))) (ac (pq (p:=Pl false ((s14.points.flatMap Po.cells)))) (ac (tq (p:=(((0:Nat)=(0:Nat))∧((List.length (List.map AV.y s14.staged))=(s14.staged.length*1))))) (ac (pq (p:=Pl false ((List.map AV.y s14.staged)))) an))))))))))))))))))))))))))) tq) fun h6 h6p=> tbD (fun h7 h7p=> w6 fun s8 h8=> z13 fun s9 h9=> tbD (fun h10 h10p=> u6) fun h10 h10p=> x8 fun h11=> x8 fun h12=> w6 fun s13 h13=> tbE (fun h14 h14p=> by intro e;injection e with e;subst e;exact x4 z9 (k:=300) (r:=[]) (hs:=hz [(5,[.fc]),(1,[.fres (.i (s0))]),(2,[.no]),(1,[.fc]),(1,[.fres (.b (s2))]),(2,[.no]),(1,[.fc]),(1,[.fres (Sa.av (s4))]),(2,[.fc]),(17,[.no,.no,.yes]),(1,[.fc]),(12,[.fc,.fc]),(4,[.yes]),(1,[.fres (exs (s8))]),(4,[.head (z6y s c s0 s2 s4 s8 s9)]),(1,[.no]),(12,[.yes,.yes,.yes,.yes,.fres (.tu [exs (s13.1),.i (s13.2)])]),(5,[.yes]),(2,[.yes]),(5,[.fc]),(4,[.yes]),(2,[.no]),(1,[.fc]),(1,[.fc]),(2,[.fc,.yes,.yes,.yes,.yes])]) (raw:=(AV.tu [(AV.ag [(AV.i s4.blocks),(AV.i s4.gen),(exs s13.1),(AV.sl s4.points.length (s4.points.flatMap Po.cells)),(AV.i s4.last),(bys s4.staged)]),(AV.i 0)])) kq (ac (d3 (s) _ h0).any0 (ac h1 (ac (z03 (c) _ h2).any0 (ac h3 (ac (t8 (s) _ h4) (ac h5 (ac h6 (ac h7 (ac (tq (p:=(((0:Nat)=(0:Nat))∧((List.length [(AV.i c.lba),(AV.i c.n),(AV.i (Int.ofNat 0)),(AV.i (Int.ofNat 0)),AV.nl])=(5:Nat))))) (ac (z07 ([(Ex.mk c.lba c.n 0 0 ([]:List UInt8))]) _ h8) (ac (show x5 Try.prog cf (lp Try.prog 80 0) (zlf s c s0 s2 s4 s8) (z6y s c s0 s2 s4 s8 s9) from (x5.of (zhm s c s0 s2 s4 s8) (y9 [] [] kq (.consn kq (.pt rfl) (.consn kq (.rf rfl) (.consn kq (.eqv tq rfl) (.consn kq (.eqv tq rfl) .nil)))) (.cons (.old rfl rfl (.cells (.pl tq pq))) (.cons (.old rfl rfl (.ro (.pl0 rfl))) (.cons (.old rfl rfl (.cells (.pl rfl pq))) (.cons (.old rfl rfl (.cells (.cons (.eqv tq rfl) (.cons (.eqv tq rfl) (.cons (.rf rfl) (.cons (.rf rfl) (.cons (.eqv tq rfl) (.cons (.rf rfl) .nil)))))))) (.cons (.old rfl rfl (.cells (.pl rfl (by simp)))) (.cons (.old rfl rfl (.cells (.pl rfl (by simp)))) (.cons (.old rfl rfl (.cells (.pl rfl (by simp)))) (.cons (.old rfl rfl (.cells (.cons (.eqv tq rfl) (.cons (.eqv tq rfl) (.cons .nl0 (.cons .nl0 (.cons (.eqv tq rfl) (.cons .nl0 .nil)))))))) (.cons (.old rfl rfl (.cells (.pl rfl pq))) (.cons (.old rfl rfl (.cells (.pl rfl pq))) .nil))))))))))) h9)) (ac h10 (ac h11 (ac (pq (p:=Pl false ((s4.map.flatMap Ex.cells)))) (ac h12 (ac (pq (p:=Pl false ((s9.2.flatMap Ex.cells)))) (ac (show z06 Try.prog cf false 28 [(AV.i s4.blocks),(exs s4.map),(AV.sl s8.length (s9.2.flatMap Ex.cells))] (.tu [exs (s13.1),.i (s13.2)]) from ((z44 (s4.blocks) (s4.map) (s9.2) _ h13).cast tq)) (ac (show z8 (rg Try.prog 80 0)=true∧x7 (Region.before (rg Try.prog 80 0)) [] 0 [(some [],some []),(some [],some []),(some [],some []),(some [6],some []),(some [],some []),(some [],some []),(some [],some []),(some [6],some []),(some [],some []),(some [3,10],some [3,10]),(some [],some []),(some [],some []),(some [],some []),(some [],some []),(some [],some [])]=true from (x0 z2w z30 kq)) (ac h14 (ac (show z8 (rg Try.prog 12 0)=true∧x7 (Region.before (rg Try.prog 12 0)) [] 0 [(some [],some [7]),(some [],some []),(some [1],some []),(some [7],some []),(some [1],some []),(none,none),(some [],some [])]=true from (x0 z0b z0c kq)) (ac (congrArg not h14) (ac (fq (p:=(((0:Nat)=(0:Nat))∧((List.length (s4.points.flatMap Po.cells))=(s4.points.length*3))))) (ac (pq (p:=Pl false ((s4.points.flatMap Po.cells)))) (ac (tq (p:=(((0:Nat)=(0:Nat))∧((List.length (List.map AV.y s4.staged))=(s4.staged.length*1))))) (ac (pq (p:=Pl false ((List.map AV.y s4.staged)))) an))))))))))))))))))))))))) tq) fun h14 h14p=> w6 fun s15 h15=> by intro e;injection e with e;subst e;exact x4 z9 (k:=300) (r:=[]) (hs:=hz [(5,[.fc]),(1,[.fres (.i (s0))]),(2,[.no]),(1,[.fc]),(1,[.fres (.b (s2))]),(2,[.no]),(1,[.fc]),(1,[.fres (Sa.av (s4))]),(2,[.fc]),(17,[.no,.no,.yes]),(1,[.fc]),(12,[.fc,.fc]),(4,[.yes]),(1,[.fres (exs (s8))]),(4,[.head (z6y s c s0 s2 s4 s8 s9)]),(1,[.no]),(12,[.yes,.yes,.yes,.yes,.fres (.tu [exs (s13.1),.i (s13.2)])]),(5,[.yes]),(2,[.no]),(4,[.yes]),(2,[.yes]),(1,[.fc]),(1,[.fres (Sa.av (s15))]),(2,[.fc]),(2,[.fc,.yes,.yes,.yes,.yes,.yes,.yes])]) (raw:=(AV.tu [(AV.ag [(AV.i s15.blocks),(AV.i s15.gen),(exs s15.map),(AV.sl s15.points.length (s15.points.flatMap Po.cells)),(AV.i s15.last),(bys s15.staged)]),(AV.i s13.2)])) kq (ac (d3 (s) _ h0).any0 (ac h1 (ac (z03 (c) _ h2).any0 (ac h3 (ac (t8 (s) _ h4) (ac h5 (ac h6 (ac h7 (ac (tq (p:=(((0:Nat)=(0:Nat))∧((List.length [(AV.i c.lba),(AV.i c.n),(AV.i (Int.ofNat 0)),(AV.i (Int.ofNat 0)),AV.nl])=(5:Nat))))) (ac (z07 ([(Ex.mk c.lba c.n 0 0 ([]:List UInt8))]) _ h8) (ac (show x5 Try.prog cf (lp Try.prog 80 0) (zlf s c s0 s2 s4 s8) (z6y s c s0 s2 s4 s8 s9) from (x5.of (zhm s c s0 s2 s4 s8) (y9 [] [] kq (.consn kq (.pt rfl) (.consn kq (.rf rfl) (.consn kq (.eqv tq rfl) (.consn kq (.eqv tq rfl) .nil)))) (.cons (.old rfl rfl (.cells (.pl tq pq))) (.cons (.old rfl rfl (.ro (.pl0 rfl))) (.cons (.old rfl rfl (.cells (.pl rfl pq))) (.cons (.old rfl rfl (.cells (.cons (.eqv tq rfl) (.cons (.eqv tq rfl) (.cons (.rf rfl) (.cons (.rf rfl) (.cons (.eqv tq rfl) (.cons (.rf rfl) .nil)))))))) (.cons (.old rfl rfl (.cells (.pl rfl (by simp)))) (.cons (.old rfl rfl (.cells (.pl rfl (by simp)))) (.cons (.old rfl rfl (.cells (.pl rfl (by simp)))) (.cons (.old rfl rfl (.cells (.cons (.eqv tq rfl) (.cons (.eqv tq rfl) (.cons .nl0 (.cons .nl0 (.cons (.eqv tq rfl) (.cons .nl0 .nil)))))))) (.cons (.old rfl rfl (.cells (.pl rfl pq))) (.cons (.old rfl rfl (.cells (.pl rfl pq))) .nil))))))))))) h9)) (ac h10 (ac h11 (ac (pq (p:=Pl false ((s4.map.flatMap Ex.cells)))) (ac h12 (ac (pq (p:=Pl false ((s9.2.flatMap Ex.cells)))) (ac (show z06 Try.prog cf false 28 [(AV.i s4.blocks),(exs s4.map),(AV.sl s8.length (s9.2.flatMap Ex.cells))] (.tu [exs (s13.1),.i (s13.2)]) from ((z44 (s4.blocks) (s4.map) (s9.2) _ h13).cast tq)) (ac (show z8 (rg Try.prog 80 0)=true∧x7 (Region.before (rg Try.prog 80 0)) [] 0 [(some [],some []),(some [],some []),(some [],some []),(some [6],some []),(some [],some []),(some [],some []),(some [],some []),(some [6],some []),(some [],some []),(some [3,10],some [3,10]),(some [],some []),(some [],some []),(some [],some []),(some [],some []),(some [],some [])]=true from (x0 z2w z30 kq)) (ac h14 (ac (show z8 (rg Try.prog 12 0)=true∧x7 (Region.before (rg Try.prog 12 0)) [] 0 [(some [],some [7]),(some [],some []),(some [1],some []),(some [7],some []),(some [1],some []),(none,none),(some [],some [])]=true from (x0 z0b z0c kq)) (ac (congrArg not h14) (ac (t8 (s) _ h15) (ac (fq (p:=(((0:Nat)=(0:Nat))∧((List.length (s15.map.flatMap Ex.cells))=(s15.map.length*5))))) (ac (pq (p:=Pl false ((s15.map.flatMap Ex.cells)))) (ac (fq (p:=(((0:Nat)=(0:Nat))∧((List.length (s15.points.flatMap Po.cells))=(s15.points.length*3))))) (ac (pq (p:=Pl false ((s15.points.flatMap Po.cells)))) (ac (tq (p:=(((0:Nat)=(0:Nat))∧((List.length (List.map AV.y s15.staged))=(s15.staged.length*1))))) (ac (pq (p:=Pl false ((List.map AV.y s15.staged)))) an)))))))))))))))))))))))))))) tq) fun h7 h7p=> tbD (fun h8 h8p=> tbD (fun h9 h9p=> w6 fun s10 h10=> x8 fun h11=> by intro e;injection e with e;subst e;exact x4 z9 (k:=300) (r:=[]) (hs:=hz [(5,[.fc]),(1,[.fres (.i (s0))]),(2,[.no]),(1,[.fc]),(1,[.fres (.b (s2))]),(2,[.no]),(1,[.fc]),(1,[.fres (Sa.av (s4))]),(2,[.fc]),(17,[.no,.no,.no,.yes]),(1,[.fc]),(13,[.yes,.yes]),(2,[.yes]),(4,[.fc]),(1,[.fres (Sa.av (s10))]),(2,[.fc]),(2,[.fc,.yes,.yes,.yes,.yes,.yes,.yes])]) (raw:=(AV.tu [(AV.ag [(AV.i s10.blocks),(AV.i s10.gen),(exs s10.map),(AV.sl s10.points.length (s10.points.flatMap Po.cells)),(AV.i s10.last),(bys s10.staged)]),(AV.i 112)])) kq (ac (d3 (s) _ h0).any0 (ac h1 (ac (z03 (c) _ h2).any0 (ac h3 (ac (t8 (s) _ h4) (ac h5 (ac h6 (ac h7 (ac h8 (ac (show z8 (rg Try.prog 58 0)=true∧x7 (Region.before (rg Try.prog 58 0)) [] 0 [(some [],some []),(some [8],some []),(some [],some []),(some [],some []),(some [],some []),(some [6],some []),(some [],some []),(some [],some [])]=true from (x0 z56 z58 kq)) (ac h9 (ac (show z8 (rg Try.prog 12 0)=true∧x7 (Region.before (rg Try.prog 12 0)) [] 0 [(some [],some [7]),(some [],some []),(some [1],some []),(some [7],some []),(some [1],some []),(none,none),(some [],some [])]=true from (x0 z0b z0c kq)) (ac (t8 (s) _ h10) (ac h11 (ac (pq (p:=Pl false ((s10.map.flatMap Ex.cells)))) (ac (fq (p:=(((0:Nat)=(0:Nat))∧((List.length (s10.points.flatMap Po.cells))=(s10.points.length*3))))) (ac (pq (p:=Pl false ((s10.points.flatMap Po.cells)))) (ac (tq (p:=(((0:Nat)=(0:Nat))∧((List.length (List.map AV.y s10.staged))=(s10.staged.length*1))))) (ac (pq (p:=Pl false ((List.map AV.y s10.staged)))) an))))))))))))))))))) tq) fun h9 h9p=> tbE (fun h10 h10p=> w6 fun s11 h11=> x8 fun h12=> by intro e;injection e with e;subst e;exact x4 z9 (k:=300) (r:=[]) (hs:=hz [(5,[.fc]),(1,[.fres (.i (s0))]),(2,[.no]),(1,[.fc]),(1,[.fres (.b (s2))]),(2,[.no]),(1,[.fc]),(1,[.fres (Sa.av (s4))]),(2,[.fc]),(17,[.no,.no,.no,.yes]),(1,[.fc]),(13,[.yes,.no]),(8,[.yes,.yes,.yes,.yes,.yes,.yes]),(4,[.yes]),(4,[.fc]),(1,[.fres (Sa.av (s11))]),(2,[.fc]),(2,[.fc,.yes,.yes,.yes,.yes,.yes,.yes])]) (raw:=(AV.tu [(AV.ag [(AV.i s11.blocks),(AV.i s11.gen),(exs s11.map),(AV.sl s11.points.length (s11.points.flatMap Po.cells)),(AV.i s11.last),(bys s11.staged)]),(AV.i 113)])) kq (ac (d3 (s) _ h0).any0 (ac h1 (ac (z03 (c) _ h2).any0 (ac h3 (ac (t8 (s) _ h4) (ac h5 (ac h6 (ac h7 (ac h8 (ac (show z8 (rg Try.prog 58 0)=true∧x7 (Region.before (rg Try.prog 58 0)) [] 0 [(some [],some []),(some [8],some []),(some [],some []),(some [],some []),(some [],some []),(some [6],some []),(some [],some []),(some [],some [])]=true from (x0 z56 z58 kq)) (ac h9 (ac h10 (ac h10 (ac h10 (ac h10 (ac h10 (ac h10 (ac (show z8 (rg Try.prog 12 0)=true∧x7 (Region.before (rg Try.prog 12 0)) [] 0 [(some [],some [7]),(some [],some []),(some [1],some []),(some [7],some []),(some [1],some []),(none,none),(some [],some [])]=true from (x0 z0b z0c kq)) (ac (t8 (s) _ h11) (ac h12 (ac (pq (p:=Pl false ((s11.map.flatMap Ex.cells)))) (ac (fq (p:=(((0:Nat)=(0:Nat))∧((List.length (s11.points.flatMap Po.cells))=(s11.points.length*3))))) (ac (pq (p:=Pl false ((s11.points.flatMap Po.cells)))) (ac (tq (p:=(((0:Nat)=(0:Nat))∧((List.length (List.map AV.y s11.staged))=(s11.staged.length*1))))) (ac (pq (p:=Pl false ((List.map AV.y s11.staged)))) an))))))))))))))))))))))))) tq) fun h10 h10p=> tbE (fun h11 h11p=> w6 fun s12 h12=> x8 fun h13=> by intro e;injection e with e;subst e;exact x4 z9 (k:=300) (r:=[]) (hs:=hz [(5,[.fc]),(1,[.fres (.i (s0))]),(2,[.no]),(1,[.fc]),(1,[.fres (.b (s2))]),(2,[.no]),(1,[.fc]),(1,[.fres (Sa.av (s4))]),(2,[.fc]),(17,[.no,.no,.no,.yes]),(1,[.fc]),(13,[.yes,.no]),(8,[.no]),(1,[.no]),(1,[.no]),(1,[.no]),(2,[.no]),(1,[.no]),(1,[.yes]),(2,[.yes]),(4,[.fc]),(1,[.fres (Sa.av (s12))]),(2,[.fc]),(2,[.fc,.yes,.yes,.yes,.yes,.yes,.yes])]) (raw:=(AV.tu [(AV.ag [(AV.i s12.blocks),(AV.i s12.gen),(exs s12.map),(AV.sl s12.points.length (s12.points.flatMap Po.cells)),(AV.i s12.last),(bys s12.staged)]),(AV.i 113)])) kq (ac (d3 (s) _ h0).any0 (ac h1 (ac (z03 (c) _ h2).any0 (ac h3 (ac (t8 (s) _ h4) (ac h5 (ac h6 (ac h7 (ac h8 (ac (show z8 (rg Try.prog 58 0)=true∧x7 (Region.before (rg Try.prog 58 0)) [] 0 [(some [],some []),(some [8],some []),(some [],some []),(some [],some []),(some [],some []),(some [6],some []),(some [],some []),(some [],some [])]=true from (x0 z56 z58 kq)) (ac h9 (ac h10 (ac h10 (ac h10 (ac h10 (ac h10 (ac h10 (ac h11 (ac (show z8 (rg Try.prog 12 0)=true∧x7 (Region.before (rg Try.prog 12 0)) [] 0 [(some [],some [7]),(some [],some []),(some [1],some []),(some [7],some []),(some [1],some []),(none,none),(some [],some [])]=true from (x0 z0b z0c kq)) (ac (t8 (s) _ h12) (ac h13 (ac (pq (p:=Pl false ((s12.map.flatMap Ex.cells)))) (ac (fq (p:=(((0:Nat)=(0:Nat))∧((List.length (s12.points.flatMap Po.cells))=(s12.points.length*3))))) (ac (pq (p:=Pl false ((s12.points.flatMap Po.cells)))) (ac (tq (p:=(((0:Nat)=(0:Nat))∧((List.length (List.map AV.y s12.staged))=(s12.staged.length*1))))) (ac (pq (p:=Pl false ((List.map AV.y s12.staged)))) an)))))))))))))))))))))))))) tq) fun h11 h11p=> x8 fun h12=> w6 fun s13 h13=> x8 fun h14=> x8 fun h15=> by intro e;injection e with e;subst e;exact x4 z9 (k:=300) (r:=[]) (hs:=hz [(5,[.fc]),(1,[.fres (.i (s0))]),(2,[.no]),(1,[.fc]),(1,[.fres (.b (s2))]),(2,[.no]),(1,[.fc]),(1,[.fres (Sa.av (s4))]),(2,[.fc]),(17,[.no,.no,.no,.yes]),(1,[.fc]),(13,[.yes,.no]),(8,[.no]),(1,[.no]),(1,[.no]),(1,[.no]),(2,[.no]),(1,[.no]),(1,[.no]),(20,[.yes,.yes,.fres (exs (s13))]),(2,[.fc,.fc,.yes,.yes]),(3,[.fc,.yes]),(7,[.fc]),(9,[.fc]),(2,[.yes]),(4,[.fc]),(1,[.fc]),(2,[.fc,.yes,.yes,.yes,.cellsb ((s4.points.flatMap Po.cells)++[(AV.i c.id),(AV.i s4.gen),(AV.sl s13.length (List.take (s13.length*5) (s13.flatMap Ex.cells)))]) [9],.yes,.yes])]) (raw:=(AV.tu [(AV.ag [(AV.i s4.blocks),(AV.i (wr (s4.gen+(1:Int)))),(exs s4.map),(AV.sl (s4.points.length+(1:Nat)) ((s4.points.flatMap Po.cells)++[(AV.i c.id),(AV.i s4.gen),(AV.sl s13.length (List.take (s13.length*5) (s13.flatMap Ex.cells)))])),(AV.i c.id),(bys s4.staged)]),(AV.i 0)])) kq (ac (d3 (s) _ h0).any0 (ac h1 (ac (z03 (c) _ h2).any0 (ac h3 (ac (t8 (s) _ h4) (ac h5 (ac h6 (ac h7 (ac h8 (ac (show z8 (rg Try.prog 58 0)=true∧x7 (Region.before (rg Try.prog 58 0)) [] 0 [(some [],some []),(some [8],some []),(some [],some []),(some [],some []),(some [],some []),(some [6],some []),(some [],some []),(some [],some [])]=true from (x0 z56 z58 kq)) (ac h9 (ac h10 (ac h10 (ac h10 (ac h10 (ac h10 (ac h10 (ac h11 (ac h12 (ac (pq (p:=Pl false ((s4.map.flatMap Ex.cells)))) (ac (z07 (s4.map) _ h13) (ac (tq (p:=(((0:Nat)=(0:Nat))∧((List.length [(AV.i c.id),(AV.i s4.gen),(AV.rf 9 5 0 s13.length)])=(3:Nat))))) (ac h14 (ac (show z8 (rg Try.prog 58 1)=true∧x7 (Region.before (rg Try.prog 58 1)) [] 0 [(some [],some []),(some [],some []),(some [],some []),(some [],some []),(some [6],some []),(some [],some []),(some [8],some []),(some [],some []),(some [],some []),(some [],some []),(some [6],some []),(some [],some []),(some [],some []),(some [],some []),(some [6],some []),(some [3],some [3,9]),(some [],some []),(some [],some [10]),(some [4,10],some [4,11]),(some [],some []),(some [],some []),(some [6],some [6])]=true from (x0 zkx zmd kq)) (ac (show z8 (rg Try.prog 12 0)=true∧x7 (Region.before (rg Try.prog 12 0)) [] 0 [(some [],some [7]),(some [],some []),(some [1],some []),(some [7],some []),(some [1],some []),(none,none),(some [],some [])]=true from (x0 z0b z0c kq)) (ac h12 (ac (pq (p:=Pl false ((s4.map.flatMap Ex.cells)))) (ac h15 (ac (show z05 (t7 (AH.mk 12 [(11,(AObj.cells ((s4.points.flatMap Po.cells)++[(AV.i c.id),(AV.i s4.gen),(AV.rf 9 5 0 s13.length)]))),(10,(AObj.cells [(AV.i c.id),(AV.i s4.gen),(AV.rf 9 5 0 s13.length)])),(9,(AObj.cells (s13.flatMap Ex.cells))),(8,(AObj.cells [(AV.i c.kind),(AV.i c.lba),(AV.i c.n),(AV.i c.id),(bys c.d),(exs c.list)])),(7,(AObj.map [((AV.i 1),(AV.fn (55:Nat) ([]:List AV))),((AV.i 2),(AV.fn (56:Nat) ([]:List AV))),((AV.i 3),(AV.fn (57:Nat) ([]:List AV))),((AV.i 4),(AV.fn (58:Nat) ([]:List AV))),((AV.i 5),(AV.fn (59:Nat) ([]:List AV))),((AV.i 6),(AV.fn (60:Nat) ([]:List AV))),((AV.i 7),(AV.fn (61:Nat) ([]:List AV))),((AV.i 8),(AV.fn (62:Nat) ([]:List AV)))])),(6,(AObj.cells [(AV.i s4.blocks),(AV.i (wr (s4.gen+(1:Int)))),(AV.rf 3 5 0 s4.map.length),(AV.rf 11 3 0 (s4.points.length+(1:Nat))),(AV.i c.id),(AV.rf 5 1 0 s4.staged.length)])),((((3:Nat)+(1:Nat))+(1:Nat)),(AObj.cells (List.map AV.y s4.staged))),(4,AObj.dead),(3,(AObj.ro (s4.map.flatMap Ex.cells))),(2,(AObj.cells [(AV.i s4.blocks),(AV.i (wr (s4.gen+(1:Int)))),(AV.rf 3 5 0 s4.map.length),(AV.rf 11 3 0 (s4.points.length+(1:Nat))),(AV.i c.id),(AV.rf 5 1 0 s4.staged.length)])),(1,(AObj.cells [(AV.i c.kind),(AV.i c.lba),(AV.i c.n),(AV.i c.id),(bys c.d),(exs c.list)])),(0,(AObj.cells [(AV.i s.blocks),(AV.i s.gen),(exs s.map),(AV.sl s.points.length (s.points.flatMap Po.cells)),(AV.i s.last),(bys s.staged)]))]) false 9) ((s4.points.flatMap Po.cells)++[(AV.i c.id),(AV.i s4.gen),(AV.rf 9 5 0 s13.length)])=some (((s4.points.flatMap Po.cells)++[(AV.i c.id),(AV.i s4.gen),(AV.sl s13.length (List.take (s13.length*5) (s13.flatMap Ex.cells)))]),[9]) from (zco (x:=[]) (y:=[9]) (z4i _ _ _ _ pq) (z4e (x:=[]) (y:=[9]) (z4j rfl) (z4e (x:=[]) (y:=[9]) (z4j rfl) (z4e (x:=[9]) (y:=[]) (zm3 (cs:=(s13.flatMap Ex.cells)) rfl tq pq) rfl))))) (ac (tq (p:=(((0:Nat)=(0:Nat))∧((List.length (List.map AV.y s4.staged))=(s4.staged.length*1))))) (ac (pq (p:=Pl false ((List.map AV.y s4.staged)))) an))))))))))))))))))))))))))))))) tq) fun h8 h8p=> tbD (fun h9 h9p=> z13 fun s10 h10=> tbD (fun h11 h11p=> x8 fun h12=> tbE (fun h13 h13p=> tbD (fun h14 h14p=> w6 fun s15 h15=> by intro e;injection e with e;subst e;exact x4 z9 (k:=300) (r:=[]) (hs:=hz [(5,[.fc]),(1,[.fres (.i (s0))]),(2,[.no]),(1,[.fc]),(1,[.fres (.b (s2))]),(2,[.no]),(1,[.fc]),(1,[.fres (Sa.av (s4))]),(2,[.fc]),(17,[.no,.no,.no,.no,.yes]),(1,[.fc]),(14,[.head (z57 s c s0 s2 s4 s10)]),(1,[.yes]),(5,[.yes,.yes,.cells ((Po.cells (v9 s4.points s10.toNat)))]),(11,[.yes]),(5,[.yes]),(2,[.yes]),(4,[.fc]),(1,[.fres (Sa.av (s15))]),(2,[.fc]),(2,[.fc,.yes,.yes,.yes,.yes,.yes,.yes])]) (raw:=(AV.tu [(AV.ag [(AV.i s15.blocks),(AV.i s15.gen),(exs s15.map),(AV.sl s15.points.length (s15.points.flatMap Po.cells)),(AV.i s15.last),(bys s15.staged)]),(AV.i 111)])) kq (ac (d3 (s) _ h0).any0 (ac h1 (ac (z03 (c) _ h2).any0 (ac h3 (ac (t8 (s) _ h4) (ac h5 (ac h6 (ac h7 (ac h8 (ac h9 (ac (show x5 Try.prog cf (lp Try.prog 81 0) (zf0 s c s0 s2 s4) (z57 s c s0 s2 s4 s10) from (x5.of (zcb s c s0 s2 s4) (y9 [] [] kq (.consn kq (.rf rfl) (.consn kq (.fn (.cons (.pt rfl) .nil)) (.consn kq (.eqv tq rfl) (.consn kq (.eqv tq rfl) .nil)))) (.cons (.old rfl rfl (.cells (.pl rfl pq))) (.cons (.old rfl rfl (.cells (.cons (.eqv tq rfl) (.cons (.eqv tq rfl) (.cons (.rf rfl) (.cons (.rf rfl) (.cons (.eqv tq rfl) (.cons (.rf rfl) .nil)))))))) (.cons (.old rfl rfl (.cells (.pl rfl (by simp)))) (.cons (.old rfl rfl (.cells (.pl rfl (by simp)))) (.cons (.old rfl rfl (.cells (.pl rfl (by simp)))) (.cons (.old rfl rfl (.cells (.cons (.eqv tq rfl) (.cons (.eqv tq rfl) (.cons .nl0 (.cons .nl0 (.cons (.eqv tq rfl) (.cons .nl0 .nil)))))))) (.cons (.old rfl rfl (.cells (.pl rfl pq))) (.cons (.old rfl rfl (.cells (.pl rfl pq))) .nil))))))))) h10)) (ac h11 (ac h12 (ac (fq (p:=((((0:Nat)+(s10.toNat*3))+(3:Nat))≤(List.length (s4.points.flatMap Po.cells))))) (ac (show (List.take 3 (List.drop ((0:Nat)+(s10.toNat*3)) (s4.points.flatMap Po.cells)))=(Po.cells (v9 s4.points s10.toNat)) from (z10 bq bq)) (ac h13 (ac h14 (ac (show z8 (rg Try.prog 12 0)=true∧x7 (Region.before (rg Try.prog 12 0)) [] 0 [(some [],some [7]),(some [],some []),(some [1],some []),(some [7],some []),(some [1],some []),(none,none),(some [],some [])]=true from (x0 z0b z0c kq)) (ac (t8 (s) _ h15) (ac (fq (p:=(((0:Nat)=(0:Nat))∧((List.length (s15.map.flatMap Ex.cells))=(s15.map.length*5))))) (ac (pq (p:=Pl false ((s15.map.flatMap Ex.cells)))) (ac (fq (p:=(((0:Nat)=(0:Nat))∧((List.length (s15.points.flatMap Po.cells))=(s15.points.length*3))))) (ac (pq (p:=Pl false ((s15.points.flatMap Po.cells)))) (ac (tq (p:=(((0:Nat)=(0:Nat))∧((List.length (List.map AV.y s15.staged))=(s15.staged.length*1))))) (ac (pq (p:=Pl false ((List.map AV.y s15.staged)))) an))))))))))))))))))))))))) tq) fun h14 h14p=> x8 fun h15=> x8 fun h16=> x8 fun h17=> x8 fun h18=> x8 fun h19=> by intro e;injection e with e;subst e;exact x4 z9 (k:=300) (r:=[]) (hs:=hz [(5,[.fc]),(1,[.fres (.i (s0))]),(2,[.no]),(1,[.fc]),(1,[.fres (.b (s2))]),(2,[.no]),(1,[.fc]),(1,[.fres (Sa.av (s4))]),(2,[.fc]),(17,[.no,.no,.no,.no,.yes]),(1,[.fc]),(14,[.head (z57 s c s0 s2 s4 s10)]),(1,[.yes]),(5,[.yes,.yes,.cells ((Po.cells (v9 s4.points s10.toNat)))]),(11,[.yes]),(5,[.no]),(10,[.yes,.yes,.yes,.yes,.cells ((List.flatMap Po.cells ((List.take s10.toNat s4.points)++(List.drop (s10.toNat+(1:Nat)) s4.points))))]),(3,[.fc]),(2,[.yes]),(4,[.fc]),(1,[.fc]),(2,[.fc,.yes,.yes,.yes,.yes,.yes,.yes])]) (raw:=(AV.tu [(AV.ag [(AV.i s4.blocks),(AV.i s4.gen),(exs s4.map),(AV.sl (s4.points.length - (1:Nat)) (List.flatMap Po.cells ((List.take s10.toNat s4.points)++(List.drop (s10.toNat+(1:Nat)) s4.points)))),(AV.i s4.last),(bys s4.staged)]),(AV.i 0)])) kq (ac (d3 (s) _ h0).any0 (ac h1 (ac (z03 (c) _ h2).any0 (ac h3 (ac (t8 (s) _ h4) (ac h5 (ac h6 (ac h7 (ac h8 (ac h9 (ac (show x5 Try.prog cf (lp Try.prog 81 0) (zf0 s c s0 s2 s4) (z57 s c s0 s2 s4 s10) from (x5.of (zcb s c s0 s2 s4) (y9 [] [] kq (.consn kq (.rf rfl) (.consn kq (.fn (.cons (.pt rfl) .nil)) (.consn kq (.eqv tq rfl) (.consn kq (.eqv tq rfl) .nil)))) (.cons (.old rfl rfl (.cells (.pl rfl pq))) (.cons (.old rfl rfl (.cells (.cons (.eqv tq rfl) (.cons (.eqv tq rfl) (.cons (.rf rfl) (.cons (.rf rfl) (.cons (.eqv tq rfl) (.cons (.rf rfl) .nil)))))))) (.cons (.old rfl rfl (.cells (.pl rfl (by simp)))) (.cons (.old rfl rfl (.cells (.pl rfl (by simp)))) (.cons (.old rfl rfl (.cells (.pl rfl (by simp)))) (.cons (.old rfl rfl (.cells (.cons (.eqv tq rfl) (.cons (.eqv tq rfl) (.cons .nl0 (.cons .nl0 (.cons (.eqv tq rfl) (.cons .nl0 .nil)))))))) (.cons (.old rfl rfl (.cells (.pl rfl pq))) (.cons (.old rfl rfl (.cells (.pl rfl pq))) .nil))))))))) h10)) (ac h11 (ac h12 (ac (fq (p:=((((0:Nat)+(s10.toNat*3))+(3:Nat))≤(List.length (s4.points.flatMap Po.cells))))) (ac (show (List.take 3 (List.drop ((0:Nat)+(s10.toNat*3)) (s4.points.flatMap Po.cells)))=(Po.cells (v9 s4.points s10.toNat)) from (z10 bq bq)) (ac h13 (ac h14 (ac h15 (ac h16 (ac h12 (ac h17 (ac (show delC 3 (s10.toNat) ((s4.points.flatMap Po.cells))=(List.flatMap Po.cells ((List.take s10.toNat s4.points)++(List.drop (s10.toNat+(1:Nat)) s4.points))) from (zxp _ _)) (ac (show z8 (rg Try.prog 12 0)=true∧x7 (Region.before (rg Try.prog 12 0)) [] 0 [(some [],some [7]),(some [],some []),(some [1],some []),(some [7],some []),(some [1],some []),(none,none),(some [],some [])]=true from (x0 z0b z0c kq)) (ac h18 (ac (pq (p:=Pl false ((s4.map.flatMap Ex.cells)))) (ac h19 (ac (pq (p:=Pl false ((List.flatMap Po.cells ((List.take s10.toNat s4.points)++(List.drop (s10.toNat+(1:Nat)) s4.points)))))) (ac (tq (p:=(((0:Nat)=(0:Nat))∧((List.length (List.map AV.y s4.staged))=(s4.staged.length*1))))) (ac (pq (p:=Pl false ((List.map AV.y s4.staged)))) an))))))))))))))))))))))))))))) tq) fun h13 h13p=> u6) fun h11 h11p=> w6 fun s12 h12=> x8 fun h13=> by intro e;injection e with e;subst e;exact x4 z9 (k:=300) (r:=[]) (hs:=hz [(5,[.fc]),(1,[.fres (.i (s0))]),(2,[.no]),(1,[.fc]),(1,[.fres (.b (s2))]),(2,[.no]),(1,[.fc]),(1,[.fres (Sa.av (s4))]),(2,[.fc]),(17,[.no,.no,.no,.no,.yes]),(1,[.fc]),(14,[.head (z57 s c s0 s2 s4 s10)]),(1,[.no]),(7,[.yes]),(4,[.fc]),(1,[.fres (Sa.av (s12))]),(2,[.fc]),(2,[.fc,.yes,.yes,.yes,.yes,.yes,.yes])]) (raw:=(AV.tu [(AV.ag [(AV.i s12.blocks),(AV.i s12.gen),(exs s12.map),(AV.sl s12.points.length (s12.points.flatMap Po.cells)),(AV.i s12.last),(bys s12.staged)]),(AV.i 111)])) kq (ac (d3 (s) _ h0).any0 (ac h1 (ac (z03 (c) _ h2).any0 (ac h3 (ac (t8 (s) _ h4) (ac h5 (ac h6 (ac h7 (ac h8 (ac h9 (ac (show x5 Try.prog cf (lp Try.prog 81 0) (zf0 s c s0 s2 s4) (z57 s c s0 s2 s4 s10) from (x5.of (zcb s c s0 s2 s4) (y9 [] [] kq (.consn kq (.rf rfl) (.consn kq (.fn (.cons (.pt rfl) .nil)) (.consn kq (.eqv tq rfl) (.consn kq (.eqv tq rfl) .nil)))) (.cons (.old rfl rfl (.cells (.pl rfl pq))) (.cons (.old rfl rfl (.cells (.cons (.eqv tq rfl) (.cons (.eqv tq rfl) (.cons (.rf rfl) (.cons (.rf rfl) (.cons (.eqv tq rfl) (.cons (.rf rfl) .nil)))))))) (.cons (.old rfl rfl (.cells (.pl rfl (by simp)))) (.cons (.old rfl rfl (.cells (.pl rfl (by simp)))) (.cons (.old rfl rfl (.cells (.pl rfl (by simp)))) (.cons (.old rfl rfl (.cells (.cons (.eqv tq rfl) (.cons (.eqv tq rfl) (.cons .nl0 (.cons .nl0 (.cons (.eqv tq rfl) (.cons .nl0 .nil)))))))) (.cons (.old rfl rfl (.cells (.pl rfl pq))) (.cons (.old rfl rfl (.cells (.pl rfl pq))) .nil))))))))) h10)) (ac h11 (ac (show z8 (rg Try.prog 12 0)=true∧x7 (Region.before (rg Try.prog 12 0)) [] 0 [(some [],some [7]),(some [],some []),(some [1],some []),(some [7],some []),(some [1],some []),(none,none),(some [],some [])]=true from (x0 z0b z0c kq)) (ac (t8 (s) _ h12) (ac h13 (ac (pq (p:=Pl false ((s12.map.flatMap Ex.cells)))) (ac (fq (p:=(((0:Nat)=(0:Nat))∧((List.length (s12.points.flatMap Po.cells))=(s12.points.length*3))))) (ac (pq (p:=Pl false ((s12.points.flatMap Po.cells)))) (ac (tq (p:=(((0:Nat)=(0:Nat))∧((List.length (List.map AV.y s12.staged))=(s12.staged.length*1))))) (ac (pq (p:=Pl false ((List.map AV.y s12.staged)))) an)))))))))))))))))))) tq) fun h9 h9p=> tbD (fun h10 h10p=> tbD (fun h11 h11p=> w6 fun s12 h12=> x8 fun h13=> by intro e;injection e with e;subst e;exact x4 z9 (k:=300) (r:=[]) (hs:=hz [(5,[.fc]),(1,[.fres (.i (s0))]),(2,[.no]),(1,[.fc]),(1,[.fres (.b (s2))]),(2,[.no]),(1,[.fc]),(1,[.fres (Sa.av (s4))]),(2,[.fc]),(17,[.no,.no,.no,.no,.no,.yes]),(1,[.fc]),(15,[.yes,.yes]),(2,[.yes]),(4,[.fc]),(1,[.fres (Sa.av (s12))]),(2,[.fc]),(2,[.fc,.yes,.yes,.yes,.yes,.yes,.yes])]) (raw:=(AV.tu [(AV.ag [(AV.i s12.blocks),(AV.i s12.gen),(exs s12.map),(AV.sl s12.points.length (s12.points.flatMap Po.cells)),(AV.i s12.last),(bys s12.staged)]),(AV.i 113)])) kq (ac (d3 (s) _ h0).any0 (ac h1 (ac (z03 (c) _ h2).any0 (ac h3 (ac (t8 (s) _ h4) (ac h5 (ac h6 (ac h7 (ac h8 (ac h9 (ac h10 (ac (show z8 (rg Try.prog 60 0)=true∧x7 (Region.before (rg Try.prog 60 0)) [] 0 [(some [],some []),(some [8],some []),(some [],some []),(some [],some []),(some [],some []),(some [],some []),(some [6],some []),(some [],some []),(some [],some []),(some [],some [])]=true from (x0 zm8 zmg kq)) (ac h11 (ac (show z8 (rg Try.prog 12 0)=true∧x7 (Region.before (rg Try.prog 12 0)) [] 0 [(some [],some [7]),(some [],some []),(some [1],some []),(some [7],some []),(some [1],some []),(none,none),(some [],some [])]=true from (x0 z0b z0c kq)) (ac (t8 (s) _ h12) (ac h13 (ac (pq (p:=Pl false ((s12.map.flatMap Ex.cells)))) (ac (fq (p:=(((0:Nat)=(0:Nat))∧((List.length (s12.points.flatMap Po.cells))=(s12.points.length*3))))) (ac (pq (p:=Pl false ((s12.points.flatMap Po.cells)))) (ac (tq (p:=(((0:Nat)=(0:Nat))∧((List.length (List.map AV.y s12.staged))=(s12.staged.length*1))))) (ac (pq (p:=Pl false ((List.map AV.y s12.staged)))) an))))))))))))))))))))) tq) fun h11 h11p=> x8 fun h12=> x8 fun h13=> by intro e;injection e with e;subst e;exact x4 z9 (k:=300) (r:=[]) (hs:=hz [(5,[.fc]),(1,[.fres (.i (s0))]),(2,[.no]),(1,[.fc]),(1,[.fres (.b (s2))]),(2,[.no]),(1,[.fc]),(1,[.fres (Sa.av (s4))]),(2,[.fc]),(17,[.no,.no,.no,.no,.no,.yes]),(1,[.fc]),(15,[.yes,.no]),(9,[.yes,.yes]),(3,[.fc,.yes]),(2,[.yes]),(4,[.fc]),(1,[.fc]),(2,[.fc,.yes,.yes,.yes,.yes,.yes,.yes])]) (raw:=(AV.tu [(AV.ag [(AV.i s4.blocks),(AV.i s4.gen),(exs s4.map),(AV.sl s4.points.length (s4.points.flatMap Po.cells)),(AV.i s4.last),(AV.sl (s4.staged.length+c.d.length) ((List.map AV.y s4.staged)++(List.map AV.y c.d)))]),(AV.i 0)])) kq (ac (d3 (s) _ h0).any0 (ac h1 (ac (z03 (c) _ h2).any0 (ac h3 (ac (t8 (s) _ h4) (ac h5 (ac h6 (ac h7 (ac h8 (ac h9 (ac h10 (ac (show z8 (rg Try.prog 60 0)=true∧x7 (Region.before (rg Try.prog 60 0)) [] 0 [(some [],some []),(some [8],some []),(some [],some []),(some [],some []),(some [],some []),(some [],some []),(some [6],some []),(some [],some []),(some [],some []),(some [],some [])]=true from (x0 zm8 zmg kq)) (ac h11 (ac (tq (p:=((List.length (List.map AV.y c.d))=(c.d.length*1)))) (ac h12 (ac (show z8 (rg Try.prog 60 1)=true∧x7 (Region.before (rg Try.prog 60 1)) [] 0 [(some [],some []),(some [],some []),(some [],some []),(some [],some []),(some [6],some []),(some [],some []),(some [8],some []),(some [5],some [5,9]),(some [],some []),(some [],some []),(some [6],some [6])]=true from (x0 zt1 ztg kq)) (ac (show z8 (rg Try.prog 12 0)=true∧x7 (Region.before (rg Try.prog 12 0)) [] 0 [(some [],some [7]),(some [],some []),(some [1],some []),(some [7],some []),(some [1],some []),(none,none),(some [],some [])]=true from (x0 z0b z0c kq)) (ac h13 (ac (pq (p:=Pl false ((s4.map.flatMap Ex.cells)))) (ac (fq (p:=(((0:Nat)=(0:Nat))∧((List.length (s4.points.flatMap Po.cells))=(s4.points.length*3))))) (ac (pq (p:=Pl false ((s4.points.flatMap Po.cells)))) (ac (tq (p:=(((0:Nat)=(0:Nat))∧((List.length ((List.map AV.y s4.staged)++(List.map AV.y c.d)))=((s4.staged.length+c.d.length)*1))))) (ac (pq (p:=Pl false (((List.map AV.y s4.staged)++(List.map AV.y c.d))))) an))))))))))))))))))))))) tq) fun h10 h10p=> tbD (fun h11 h11p=> x8 fun h12=> by intro e;injection e with e;subst e;exact x4 z9 (k:=300) (r:=[]) (hs:=hz [(5,[.fc]),(1,[.fres (.i (s0))]),(2,[.no]),(1,[.fc]),(1,[.fres (.b (s2))]),(2,[.no]),(1,[.fc]),(1,[.fres (Sa.av (s4))]),(2,[.fc]),(17,[.no,.no,.no,.no,.no,.no,.yes]),(1,[.fc]),(7,[.fc]),(2,[.yes]),(4,[.fc]),(1,[.fc]),(2,[.fc,.yes,.yes,.yes,.yes])]) (raw:=(AV.tu [(AV.ag [(AV.i s4.blocks),(AV.i s4.gen),(exs s4.map),(AV.sl s4.points.length (s4.points.flatMap Po.cells)),(AV.i s4.last),(AV.sl 0 ([]:List AV))]),(AV.i 0)])) kq (ac (d3 (s) _ h0).any0 (ac h1 (ac (z03 (c) _ h2).any0 (ac h3 (ac (t8 (s) _ h4) (ac h5 (ac h6 (ac h7 (ac h8 (ac h9 (ac h10 (ac h11 (ac (show z8 (rg Try.prog 12 0)=true∧x7 (Region.before (rg Try.prog 12 0)) [] 0 [(some [],some [7]),(some [],some []),(some [1],some []),(some [7],some []),(some [1],some []),(none,none),(some [],some [])]=true from (x0 z0b z0c kq)) (ac h12 (ac (pq (p:=Pl false ((s4.map.flatMap Ex.cells)))) (ac (fq (p:=(((0:Nat)=(0:Nat))∧((List.length (s4.points.flatMap Po.cells))=(s4.points.length*3))))) (ac (pq (p:=Pl false ((s4.points.flatMap Po.cells)))) an))))))))))))))))) tq) fun h11 h11p=> tbD (fun h12 h12p=> w6 fun s13 h13=> z13 fun s14 h14=> tbD (fun h15 h15p=> u6) fun h15 h15p=> x8 fun h16=> x8 fun h17=> w6 fun s18 h18=> tbE (fun h19 h19p=> tbD (fun h20 h20p=> w6 fun s21 h21=> by intro e;injection e with e;subst e;exact x4 z9 (k:=300) (r:=[]) (hs:=hz [(5,[.fc]),(1,[.fres (.i (s0))]),(2,[.no]),(1,[.fc]),(1,[.fres (.b (s2))]),(2,[.no]),(1,[.fc]),(1,[.fres (Sa.av (s4))]),(2,[.fc]),(17,[.no,.no,.no,.no,.no,.no,.no,.yes]),(1,[.fc]),(11,[.fres (exs (s13))]),(4,[.head (z2d s c s0 s2 s4 s13 s14)]),(1,[.no]),(12,[.yes,.yes,.yes,.yes,.fres (.tu [exs (s18.1),.i (s18.2)])]),(5,[.yes]),(2,[.yes]),(5,[.fc]),(5,[.no]),(2,[.fc]),(13,[.yes,.yes]),(8,[.yes]),(4,[.fc]),(1,[.fres (Sa.av (s21))]),(2,[.fc]),(2,[.fc,.yes,.yes,.yes,.yes,.yes,.yes])]) (raw:=(AV.tu [(AV.ag [(AV.i s21.blocks),(AV.i s21.gen),(exs s21.map),(AV.sl s21.points.length (s21.points.flatMap Po.cells)),(AV.i s21.last),(bys s21.staged)]),(AV.i 112)])) kq (ac (d3 (s) _ h0).any0 (ac h1 (ac (z03 (c) _ h2).any0 (ac h3 (ac (t8 (s) _ h4) (ac h5 (ac h6 (ac h7 (ac h8 (ac h9 (ac h10 (ac h11 (ac h12 (ac (z07 (c.list) _ h13) (ac (show x5 Try.prog cf (lp Try.prog 80 0) (z8o s c s0 s2 s4 s13) (z2d s c s0 s2 s4 s13 s14) from (x5.of (z79 s c s0 s2 s4 s13) (y9 [] [] kq (.consn kq (.pt rfl) (.consn kq (.rf rfl) (.consn kq (.eqv tq rfl) (.consn kq (.eqv tq rfl) .nil)))) (.cons (.old rfl rfl (.cells (.pl tq pq))) (.cons (.old rfl rfl (.cells (.pl rfl pq))) (.cons (.old rfl rfl (.cells (.cons (.eqv tq rfl) (.cons (.eqv tq rfl) (.cons (.rf rfl) (.cons (.rf rfl) (.cons (.eqv tq rfl) (.cons (.rf rfl) .nil)))))))) (.cons (.old rfl rfl (.cells (.pl rfl (by simp)))) (.cons (.old rfl rfl (.cells (.pl rfl (by simp)))) (.cons (.old rfl rfl (.cells (.pl rfl (by simp)))) (.cons (.old rfl rfl (.cells (.cons (.eqv tq rfl) (.cons (.eqv tq rfl) (.cons .nl0 (.cons .nl0 (.cons (.eqv tq rfl) (.cons .nl0 .nil)))))))) (.cons (.old rfl rfl (.cells (.pl rfl pq))) (.cons (.old rfl rfl (.cells (.pl rfl pq))) .nil)))))))))) h14)) (ac h15 (ac h16 (ac (pq (p:=Pl false ((s4.map.flatMap Ex.cells)))) (ac h17 (ac (pq (p:=Pl false ((s14.2.flatMap Ex.cells)))) (ac (show z06 Try.prog cf false 28 [(AV.i s4.blocks),(exs s4.map),(AV.sl s13.length (s14.2.flatMap Ex.cells))] (.tu [exs (s18.1),.i (s18.2)]) from ((z44 (s4.blocks) (s4.map) (s14.2) _ h18).cast tq)) (ac (show z8 (rg Try.prog 80 0)=true∧x7 (Region.before (rg Try.prog 80 0)) [] 0 [(some [],some []),(some [],some []),(some [],some []),(some [6],some []),(some [],some []),(some [],some []),(some [],some []),(some [6],some []),(some [],some []),(some [3,9],some [3,9]),(some [],some []),(some [],some []),(some [],some []),(some [],some []),(some [],some [])]=true from (x0 z2w z30 kq)) (ac h19 (ac (congrArg not h19) (ac (show z8 (rg Try.prog 58 0)=true∧x7 (Region.before (rg Try.prog 58 0)) [] 0 [(some [],some []),(some [10],some []),(some [],some []),(some [],some []),(some [],some []),(some [6],some []),(some [],some []),(some [],some [])]=true from (x0 z56 z58 kq)) (ac h20 (ac (show z8 (rg Try.prog 12 0)=true∧x7 (Region.before (rg Try.prog 12 0)) [] 0 [(some [],some [7]),(some [],some []),(some [1],some []),(some [7],some []),(some [1],some []),(none,none),(some [],some [])]=true from (x0 z0b z0c kq)) (ac (t8 (s) _ h21) (ac (fq (p:=(((0:Nat)=(0:Nat))∧((List.length (s21.map.flatMap Ex.cells))=(s21.map.length*5))))) (ac (pq (p:=Pl false ((s21.map.flatMap Ex.cells)))) (ac (fq (p:=(((0:Nat)=(0:Nat))∧((List.length (s21.points.flatMap Po.cells))=(s21.points.length*3))))) (ac (pq (p:=Pl false ((s21.points.flatMap Po.cells)))) (ac (tq (p:=(((0:Nat)=(0:Nat))∧((List.length (List.map AV.y s21.staged))=(s21.staged.length*1))))) (ac (pq (p:=Pl false ((List.map AV.y s21.staged)))) an)))))))))))))))))))))))))))))))))) tq) fun h20 h20p=> tbE (fun h21 h21p=> w6 fun s22 h22=> by intro e;injection e with e;subst e;exact x4 z9 (k:=300) (r:=[]) (hs:=hz [(5,[.fc]),(1,[.fres (.i (s0))]),(2,[.no]),(1,[.fc]),(1,[.fres (.b (s2))]),(2,[.no]),(1,[.fc]),(1,[.fres (Sa.av (s4))]),(2,[.fc]),(17,[.no,.no,.no,.no,.no,.no,.no,.yes]),(1,[.fc]),(11,[.fres (exs (s13))]),(4,[.head (z2d s c s0 s2 s4 s13 s14)]),(1,[.no]),(12,[.yes,.yes,.yes,.yes,.fres (.tu [exs (s18.1),.i (s18.2)])]),(5,[.yes]),(2,[.yes]),(5,[.fc]),(5,[.no]),(2,[.fc]),(13,[.yes,.no]),(8,[.yes,.yes,.yes,.yes,.yes,.yes]),(10,[.yes]),(4,[.fc]),(1,[.fres (Sa.av (s22))]),(2,[.fc]),(2,[.fc,.yes,.yes,.yes,.yes,.yes,.yes])]) (raw:=(AV.tu [(AV.ag [(AV.i s22.blocks),(AV.i s22.gen),(exs s22.map),(AV.sl s22.points.length (s22.points.flatMap Po.cells)),(AV.i s22.last),(bys s22.staged)]),(AV.i 113)])) kq (ac (d3 (s) _ h0).any0 (ac h1 (ac (z03 (c) _ h2).any0 (ac h3 (ac (t8 (s) _ h4) (ac h5 (ac h6 (ac h7 (ac h8 (ac h9 (ac h10 (ac h11 (ac h12 (ac (z07 (c.list) _ h13) (ac (show x5 Try.prog cf (lp Try.prog 80 0) (z8o s c s0 s2 s4 s13) (z2d s c s0 s2 s4 s13 s14) from (x5.of (z79 s c s0 s2 s4 s13) (y9 [] [] kq (.consn kq (.pt rfl) (.consn kq (.rf rfl) (.consn kq (.eqv tq rfl) (.consn kq (.eqv tq rfl) .nil)))) (.cons (.old rfl rfl (.cells (.pl tq pq))) (.cons (.old rfl rfl (.cells (.pl rfl pq))) (.cons (.old rfl rfl (.cells (.cons (.eqv tq rfl) (.cons (.eqv tq rfl) (.cons (.rf rfl) (.cons (.rf rfl) (.cons (.eqv tq rfl) (.cons (.rf rfl) .nil)))))))) (.cons (.old rfl rfl (.cells (.pl rfl (by simp)))) (.cons (.old rfl rfl (.cells (.pl rfl (by simp)))) (.cons (.old rfl rfl (.cells (.pl rfl (by simp)))) (.cons (.old rfl rfl (.cells (.cons (.eqv tq rfl) (.cons (.eqv tq rfl) (.cons .nl0 (.cons .nl0 (.cons (.eqv tq rfl) (.cons .nl0 .nil)))))))) (.cons (.old rfl rfl (.cells (.pl rfl pq))) (.cons (.old rfl rfl (.cells (.pl rfl pq))) .nil)))))))))) h14)) (ac h15 (ac h16 (ac (pq (p:=Pl false ((s4.map.flatMap Ex.cells)))) (ac h17 (ac (pq (p:=Pl false ((s14.2.flatMap Ex.cells)))) (ac (show z06 Try.prog cf false 28 [(AV.i s4.blocks),(exs s4.map),(AV.sl s13.length (s14.2.flatMap Ex.cells))] (.tu [exs (s18.1),.i (s18.2)]) from ((z44 (s4.blocks) (s4.map) (s14.2) _ h18).cast tq)) (ac (show z8 (rg Try.prog 80 0)=true∧x7 (Region.before (rg Try.prog 80 0)) [] 0 [(some [],some []),(some [],some []),(some [],some []),(some [6],some []),(some [],some []),(some [],some []),(some [],some []),(some [6],some []),(some [],some []),(some [3,9],some [3,9]),(some [],some []),(some [],some []),(some [],some []),(some [],some []),(some [],some [])]=true from (x0 z2w z30 kq)) (ac h19 (ac (congrArg not h19) (ac (show z8 (rg Try.prog 58 0)=true∧x7 (Region.before (rg Try.prog 58 0)) [] 0 [(some [],some []),(some [10],some []),(some [],some []),(some [],some []),(some [],some []),(some [6],some []),(some [],some []),(some [],some [])]=true from (x0 z56 z58 kq)) (ac h20 (ac h21 (ac h21 (ac h21 (ac h21 (ac h21 (ac h21 (ac (show z8 (rg Try.prog 12 0)=true∧x7 (Region.before (rg Try.prog 12 0)) [] 0 [(some [],some [7]),(some [],some []),(some [1],some []),(some [7],some []),(some [1],some []),(none,none),(some [],some [])]=true from (x0 z0b z0c kq)) (ac (t8 (s) _ h22) (ac (fq (p:=(((0:Nat)=(0:Nat))∧((List.length (s22.map.flatMap Ex.cells))=(s22.map.length*5))))) (ac (pq (p:=Pl false ((s22.map.flatMap Ex.cells)))) (ac (fq (p:=(((0:Nat)=(0:Nat))∧((List.length (s22.points.flatMap Po.cells))=(s22.points.length*3))))) (ac (pq (p:=Pl false ((s22.points.flatMap Po.cells)))) (ac (tq (p:=(((0:Nat)=(0:Nat))∧((List.length (List.map AV.y s22.staged))=(s22.staged.length*1))))) (ac (pq (p:=Pl false ((List.map AV.y s22.staged)))) an)))))))))))))))))))))))))))))))))))))))) tq) fun h21 h21p=> tbE (fun h22 h22p=> w6 fun s23 h23=> by intro e;injection e with e;subst e;exact x4 z9 (k:=300) (r:=[]) (hs:=hz [(5,[.fc]),(1,[.fres (.i (s0))]),(2,[.no]),(1,[.fc]),(1,[.fres (.b (s2))]),(2,[.no]),(1,[.fc]),(1,[.fres (Sa.av (s4))]),(2,[.fc]),(17,[.no,.no,.no,.no,.no,.no,.no,.yes]),(1,[.fc]),(11,[.fres (exs (s13))]),(4,[.head (z2d s c s0 s2 s4 s13 s14)]),(1,[.no]),(12,[.yes,.yes,.yes,.yes,.fres (.tu [exs (s18.1),.i (s18.2)])]),(5,[.yes]),(2,[.yes]),(5,[.fc]),(5,[.no]),(2,[.fc]),(13,[.yes,.no]),(8,[.no]),(1,[.no]),(1,[.no]),(1,[.no]),(2,[.no]),(1,[.no]),(1,[.yes]),(8,[.yes]),(4,[.fc]),(1,[.fres (Sa.av (s23))]),(2,[.fc]),(2,[.fc,.yes,.yes,.yes,.yes,.yes,.yes])]) (raw:=(AV.tu [(AV.ag [(AV.i s23.blocks),(AV.i s23.gen),(exs s23.map),(AV.sl s23.points.length (s23.points.flatMap Po.cells)),(AV.i s23.last),(bys s23.staged)]),(AV.i 113)])) kq (ac (d3 (s) _ h0).any0 (ac h1 (ac (z03 (c) _ h2).any0 (ac h3 (ac (t8 (s) _ h4) (ac h5 (ac h6 (ac h7 (ac h8 (ac h9 (ac h10 (ac h11 (ac h12 (ac (z07 (c.list) _ h13) (ac (show x5 Try.prog cf (lp Try.prog 80 0) (z8o s c s0 s2 s4 s13) (z2d s c s0 s2 s4 s13 s14) from (x5.of (z79 s c s0 s2 s4 s13) (y9 [] [] kq (.consn kq (.pt rfl) (.consn kq (.rf rfl) (.consn kq (.eqv tq rfl) (.consn kq (.eqv tq rfl) .nil)))) (.cons (.old rfl rfl (.cells (.pl tq pq))) (.cons (.old rfl rfl (.cells (.pl rfl pq))) (.cons (.old rfl rfl (.cells (.cons (.eqv tq rfl) (.cons (.eqv tq rfl) (.cons (.rf rfl) (.cons (.rf rfl) (.cons (.eqv tq rfl) (.cons (.rf rfl) .nil)))))))) (.cons (.old rfl rfl (.cells (.pl rfl (by simp)))) (.cons (.old rfl rfl (.cells (.pl rfl (by simp)))) (.cons (.old rfl rfl (.cells (.pl rfl (by simp)))) (.cons (.old rfl rfl (.cells (.cons (.eqv tq rfl) (.cons (.eqv tq rfl) (.cons .nl0 (.cons .nl0 (.cons (.eqv tq rfl) (.cons .nl0 .nil)))))))) (.cons (.old rfl rfl (.cells (.pl rfl pq))) (.cons (.old rfl rfl (.cells (.pl rfl pq))) .nil)))))))))) h14)) (ac h15 (ac h16 (ac (pq (p:=Pl false ((s4.map.flatMap Ex.cells)))) (ac h17 (ac (pq (p:=Pl false ((s14.2.flatMap Ex.cells)))) (ac (show z06 Try.prog cf false 28 [(AV.i s4.blocks),(exs s4.map),(AV.sl s13.length (s14.2.flatMap Ex.cells))] (.tu [exs (s18.1),.i (s18.2)]) from ((z44 (s4.blocks) (s4.map) (s14.2) _ h18).cast tq)) (ac (show z8 (rg Try.prog 80 0)=true∧x7 (Region.before (rg Try.prog 80 0)) [] 0 [(some [],some []),(some [],some []),(some [],some []),(some [6],some []),(some [],some []),(some [],some []),(some [],some []),(some [6],some []),(some [],some []),(some [3,9],some [3,9]),(some [],some []),(some [],some []),(some [],some []),(some [],some []),(some [],some [])]=true from (x0 z2w z30 kq)) (ac h19 (ac (congrArg not h19) (ac (show z8 (rg Try.prog 58 0)=true∧x7 (Region.before (rg Try.prog 58 0)) [] 0 [(some [],some []),(some [10],some []),(some [],some []),(some [],some []),(some [],some []),(some [6],some []),(some [],some []),(some [],some [])]=true from (x0 z56 z58 kq)) (ac h20 (ac h21 (ac h21 (ac h21 (ac h21 (ac h21 (ac h21 (ac h22 (ac (show z8 (rg Try.prog 12 0)=true∧x7 (Region.before (rg Try.prog 12 0)) [] 0 [(some [],some [7]),(some [],some []),(some [1],some []),(some [7],some []),(some [1],some []),(none,none),(some [],some [])]=true from (x0 z0b z0c kq)) (ac (t8 (s) _ h23) (ac (fq (p:=(((0:Nat)=(0:Nat))∧((List.length (s23.map.flatMap Ex.cells))=(s23.map.length*5))))) (ac (pq (p:=Pl false ((s23.map.flatMap Ex.cells)))) (ac (fq (p:=(((0:Nat)=(0:Nat))∧((List.length (s23.points.flatMap Po.cells))=(s23.points.length*3))))) (ac (pq (p:=Pl false ((s23.points.flatMap Po.cells)))) (ac (tq (p:=(((0:Nat)=(0:Nat))∧((List.length (List.map AV.y s23.staged))=(s23.staged.length*1))))) (ac (pq (p:=Pl false ((List.map AV.y s23.staged)))) an))))))))))))))))))))))))))))))))))))))))) tq) fun h22 h22p=> w6 fun s23 h23=> x8 fun h24=> x8 fun h25=> by intro e;injection e with e;subst e;exact x4 z9 (k:=300) (r:=[]) (hs:=hz [(5,[.fc]),(1,[.fres (.i (s0))]),(2,[.no]),(1,[.fc]),(1,[.fres (.b (s2))]),(2,[.no]),(1,[.fc]),(1,[.fres (Sa.av (s4))]),(2,[.fc]),(17,[.no,.no,.no,.no,.no,.no,.no,.yes]),(1,[.fc]),(11,[.fres (exs (s13))]),(4,[.head (z2d s c s0 s2 s4 s13 s14)]),(1,[.no]),(12,[.yes,.yes,.yes,.yes,.fres (.tu [exs (s18.1),.i (s18.2)])]),(5,[.yes]),(2,[.yes]),(5,[.fc]),(5,[.no]),(2,[.fc]),(13,[.yes,.no]),(8,[.no]),(1,[.no]),(1,[.no]),(1,[.no]),(2,[.no]),(1,[.no]),(1,[.no]),(20,[.fres (exs (s23))]),(2,[.fc,.fc,.yes,.yes]),(3,[.fc,.yes]),(7,[.fc]),(9,[.fc]),(7,[.fc]),(7,[.fc]),(3,[.yes]),(4,[.fc]),(1,[.fc]),(2,[.fc,.yes,.cellsb ((s4.points.flatMap Po.cells)++[(AV.i c.id),(AV.i s4.gen),(AV.sl s23.length (List.take (s23.length*5) (s23.flatMap Ex.cells)))]) [11]])]) (raw:=(AV.tu [(AV.ag [(AV.i s4.blocks),(AV.i (wr (s4.gen+(1:Int)))),(exs s18.1),(AV.sl (s4.points.length+(1:Nat)) ((s4.points.flatMap Po.cells)++[(AV.i c.id),(AV.i s4.gen),(AV.sl s23.length (List.take (s23.length*5) (s23.flatMap Ex.cells)))])),(AV.i c.id),(AV.sl 0 ([]:List AV))]),(AV.i 0)])) kq (ac (d3 (s) _ h0).any0 (ac h1 (ac (z03 (c) _ h2).any0 (ac h3 (ac (t8 (s) _ h4) (ac h5 (ac h6 (ac h7 (ac h8 (ac h9 (ac h10 (ac h11 (ac h12 (ac (z07 (c.list) _ h13) (ac (show x5 Try.prog cf (lp Try.prog 80 0) (z8o s c s0 s2 s4 s13) (z2d s c s0 s2 s4 s13 s14) from (x5.of (z79 s c s0 s2 s4 s13) (y9 [] [] kq (.consn kq (.pt rfl) (.consn kq (.rf rfl) (.consn kq (.eqv tq rfl) (.consn kq (.eqv tq rfl) .nil)))) (.cons (.old rfl rfl (.cells (.pl tq pq))) (.cons (.old rfl rfl (.cells (.pl rfl pq))) (.cons (.old rfl rfl (.cells (.cons (.eqv tq rfl) (.cons (.eqv tq rfl) (.cons (.rf rfl) (.cons (.rf rfl) (.cons (.eqv tq rfl) (.cons (.rf rfl) .nil)))))))) (.cons (.old rfl rfl (.cells (.pl rfl (by simp)))) (.cons (.old rfl rfl (.cells (.pl rfl (by simp)))) (.cons (.old rfl rfl (.cells (.pl rfl (by simp)))) (.cons (.old rfl rfl (.cells (.cons (.eqv tq rfl) (.cons (.eqv tq rfl) (.cons .nl0 (.cons .nl0 (.cons (.eqv tq rfl) (.cons .nl0 .nil)))))))) (.cons (.old rfl rfl (.cells (.pl rfl pq))) (.cons (.old rfl rfl (.cells (.pl rfl pq))) .nil)))))))))) h14)) (ac h15 (ac h16 (ac (pq (p:=Pl false ((s4.map.flatMap Ex.cells)))) (ac h17 (ac (pq (p:=Pl false ((s14.2.flatMap Ex.cells)))) (ac (show z06 Try.prog cf false 28 [(AV.i s4.blocks),(exs s4.map),(AV.sl s13.length (s14.2.flatMap Ex.cells))] (.tu [exs (s18.1),.i (s18.2)]) from ((z44 (s4.blocks) (s4.map) (s14.2) _ h18).cast tq)) (ac (show z8 (rg Try.prog 80 0)=true∧x7 (Region.before (rg Try.prog 80 0)) [] 0 [(some [],some []),(some [],some []),(some [],some []),(some [6],some []),(some [],some []),(some [],some []),(some [],some []),(some [6],some []),(some [],some []),(some [3,9],some [3,9]),(some [],some []),(some [],some []),(some [],some []),(some [],some []),(some [],some [])]=true from (x0 z2w z30 kq)) (ac h19 (ac (congrArg not h19) (ac (show z8 (rg Try.prog 58 0)=true∧x7 (Region.before (rg Try.prog 58 0)) [] 0 [(some [],some []),(some [10],some []),(some [],some []),(some [],some []),(some [],some []),(some [6],some []),(some [],some []),(some [],some [])]=true from (x0 z56 z58 kq)) (ac h20 (ac h21 (ac h21 (ac h21 (ac h21 (ac h21 (ac h21 (ac h22 (ac (z07 (s18.1) _ h23) (ac (tq (p:=(((0:Nat)=(0:Nat))∧((List.length [(AV.i c.id),(AV.i s4.gen),(AV.rf 11 5 0 s23.length)])=(3:Nat))))) (ac h24 (ac (show z8 (rg Try.prog 58 1)=true∧x7 (Region.before (rg Try.prog 58 1)) [] 0 [(some [],some []),(some [],some []),(some [],some []),(some [],some []),(some [6],some []),(some [],some []),(some [10],some []),(some [],some []),(some [],some []),(some [],some []),(some [6],some []),(some [],some []),(some [],some []),(some [],some []),(some [6],some []),(some [],some [11]),(some [],some []),(some [],some [12]),(some [4,12],some [4,13]),(some [],some []),(some [],some []),(some [6],some [6])]=true from (x0 zkx zmd kq)) (ac (show z8 (rg Try.prog 12 0)=true∧x7 (Region.before (rg Try.prog 12 0)) [] 0 [(some [],some [7]),(some [],some []),(some [1],some []),(some [7],some []),(some [1],some []),(none,none),(some [],some [])]=true from (x0 z0b z0c kq)) (ac h25 (ac (show z05 (t7 (AH.mk 15 [(14,(AObj.cells [(AV.i c.kind),(AV.i c.lba),(AV.i c.n),(AV.i c.id),(bys c.d),(exs c.list)])),(13,(AObj.cells ((s4.points.flatMap Po.cells)++[(AV.i c.id),(AV.i s4.gen),(AV.rf 11 5 0 s23.length)]))),(12,(AObj.cells [(AV.i c.id),(AV.i s4.gen),(AV.rf 11 5 0 s23.length)])),(11,(AObj.cells (s23.flatMap Ex.cells))),(10,(AObj.cells [(AV.i c.kind),(AV.i c.lba),(AV.i c.n),(AV.i c.id),(bys c.d),(exs c.list)])),(9,(AObj.ro (s14.2.flatMap Ex.cells))),(8,(AObj.cells [(AV.i c.kind),(AV.i c.lba),(AV.i c.n),(AV.i c.id),(bys c.d),(exs c.list)])),(6,(AObj.cells [(AV.i s4.blocks),(AV.i (wr (s4.gen+(1:Int)))),(exs s18.1),(AV.rf 13 3 0 (s4.points.length+(1:Nat))),(AV.i c.id),AV.nl])),(5,(AObj.cells (List.map AV.y s4.staged))),(4,AObj.dead),(3,(AObj.ro (s4.map.flatMap Ex.cells))),(2,(AObj.cells [(AV.i s4.blocks),(AV.i (wr (s4.gen+(1:Int)))),(exs s18.1),(AV.rf 13 3 0 (s4.points.length+(1:Nat))),(AV.i c.id),AV.nl])),(1,(AObj.cells [(AV.i c.kind),(AV.i c.lba),(AV.i c.n),(AV.i c.id),(bys c.d),(exs c.list)])),(0,(AObj.cells [(AV.i s.blocks),(AV.i s.gen),(exs s.map),(AV.sl s.points.length (s.points.flatMap Po.cells)),(AV.i s.last),(bys s.staged)]))]) false 9) ((s4.points.flatMap Po.cells)++[(AV.i c.id),(AV.i s4.gen),(AV.rf 11 5 0 s23.length)])=some (((s4.points.flatMap Po.cells)++[(AV.i c.id),(AV.i s4.gen),(AV.sl s23.length (List.take (s23.length*5) (s23.flatMap Ex.cells)))]),[11]) from (zco (x:=[]) (y:=[11]) (z4i _ _ _ _ pq) (z4e (x:=[]) (y:=[11]) (z4j rfl) (z4e (x:=[]) (y:=[11]) (z4j rfl) (z4e (x:=[11]) (y:=[]) (zm3 (cs:=(s23.flatMap Ex.cells)) rfl tq pq) rfl))))) an)))))))))))))))))))))))))))))))))))))))) tq) fun h19 h19p=> w6 fun s20 h20=> by intro e;injection e with e;subst e;exact x4 z9 (k:=300) (r:=[]) (hs:=hz [(5,[.fc]),(1,[.fres (.i (s0))]),(2,[.no]),(1,[.fc]),(1,[.fres (.b (s2))]),(2,[.no]),(1,[.fc]),(1,[.fres (Sa.av (s4))]),(2,[.fc]),(17,[.no,.no,.no,.no,.no,.no,.no,.yes]),(1,[.fc]),(11,[.fres (exs (s13))]),(4,[.head (z2d s c s0 s2 s4 s13 s14)]),(1,[.no]),(12,[.yes,.yes,.yes,.yes,.fres (.tu [exs (s18.1),.i (s18.2)])]),(5,[.yes]),(2,[.no]),(5,[.yes]),(3,[.yes]),(2,[.yes]),(1,[.fc]),(1,[.fres (Sa.av (s20))]),(2,[.fc]),(2,[.fc,.yes,.yes,.yes,.yes,.yes,.yes])]) (raw:=(AV.tu [(AV.ag [(AV.i s20.blocks),(AV.i s20.gen),(exs s20.map),(AV.sl s20.points.length (s20.points.flatMap Po.cells)),(AV.i s20.last),(bys s20.staged)]),(AV.i s18.2)])) kq (ac (d3 (s) _ h0).any0 (ac h1 (ac (z03 (c) _ h2).any0 (ac h3 (ac (t8 (s) _ h4) (ac h5 (ac h6 (ac h7 (ac h8 (ac h9 (ac h10 (ac h11 (ac h12 (ac (z07 (c.list) _ h13) (ac (show x5 Try.prog cf (lp Try.prog 80 0) (z8o s c s0 s2 s4 s13) (z2d s c s0 s2 s4 s13 s14) from (x5.of (z79 s c s0 s2 s4 s13) (y9 [] [] kq (.consn kq (.pt rfl) (.consn kq (.rf rfl) (.consn kq (.eqv tq rfl) (.consn kq (.eqv tq rfl) .nil)))) (.cons (.old rfl rfl (.cells (.pl tq pq))) (.cons (.old rfl rfl (.cells (.pl rfl pq))) (.cons (.old rfl rfl (.cells (.cons (.eqv tq rfl) (.cons (.eqv tq rfl) (.cons (.rf rfl) (.cons (.rf rfl) (.cons (.eqv tq rfl) (.cons (.rf rfl) .nil)))))))) (.cons (.old rfl rfl (.cells (.pl rfl (by simp)))) (.cons (.old rfl rfl (.cells (.pl rfl (by simp)))) (.cons (.old rfl rfl (.cells (.pl rfl (by simp)))) (.cons (.old rfl rfl (.cells (.cons (.eqv tq rfl) (.cons (.eqv tq rfl) (.cons .nl0 (.cons .nl0 (.cons (.eqv tq rfl) (.cons .nl0 .nil)))))))) (.cons (.old rfl rfl (.cells (.pl rfl pq))) (.cons (.old rfl rfl (.cells (.pl rfl pq))) .nil)))))))))) h14)) (ac h15 (ac h16 (ac (pq (p:=Pl false ((s4.map.flatMap Ex.cells)))) (ac h17 (ac (pq (p:=Pl false ((s14.2.flatMap Ex.cells)))) (ac (show z06 Try.prog cf false 28 [(AV.i s4.blocks),(exs s4.map),(AV.sl s13.length (s14.2.flatMap Ex.cells))] (.tu [exs (s18.1),.i (s18.2)]) from ((z44 (s4.blocks) (s4.map) (s14.2) _ h18).cast tq)) (ac (show z8 (rg Try.prog 80 0)=true∧x7 (Region.before (rg Try.prog 80 0)) [] 0 [(some [],some []),(some [],some []),(some [],some []),(some [6],some []),(some [],some []),(some [],some []),(some [],some []),(some [6],some []),(some [],some []),(some [3,9],some [3,9]),(some [],some []),(some [],some []),(some [],some []),(some [],some []),(some [],some [])]=true from (x0 z2w z30 kq)) (ac h19 (ac (congrArg not h19) (ac (show z8 (rg Try.prog 12 0)=true∧x7 (Region.before (rg Try.prog 12 0)) [] 0 [(some [],some [7]),(some [],some []),(some [1],some []),(some [7],some []),(some [1],some []),(none,none),(some [],some [])]=true from (x0 z0b z0c kq)) (ac (congrArg not h19) (ac (t8 (s) _ h20) (ac (fq (p:=(((0:Nat)=(0:Nat))∧((List.length (s20.map.flatMap Ex.cells))=(s20.map.length*5))))) (ac (pq (p:=Pl false ((s20.map.flatMap Ex.cells)))) (ac (fq (p:=(((0:Nat)=(0:Nat))∧((List.length (s20.points.flatMap Po.cells))=(s20.points.length*3))))) (ac (pq (p:=Pl false ((s20.points.flatMap Po.cells)))) (ac (tq (p:=(((0:Nat)=(0:Nat))∧((List.length (List.map AV.y s20.staged))=(s20.staged.length*1))))) (ac (pq (p:=Pl false ((List.map AV.y s20.staged)))) an))))))))))))))))))))))))))))))))) tq) fun h12 h12p=> u6
end Ab
end Go.Proofs.Ytpflcogplhigcaa
namespace Go.Proofs.Ytpflcogplhigcaa
open Go Go.Proofs.Ytpflcogplhigcaa.Ab
set_option linter.unusedVariables false
set_option linter.unusedSimpArgs false
namespace Ab
def part (d:List UInt8) (k:Nat):List UInt8:=(pad 32 d).take k++List.replicate (32 - k) 0
end Ab
end Go.Proofs.Ytpflcogplhigcaa
namespace Go.Proofs.Ytpflcogplhigcaa
open Go Go.Proofs.Ytpflcogplhigcaa.Ab
set_option linter.unusedVariables false
set_option linter.unusedSimpArgs false
namespace Ab
def c0:Ce:=⟨0,0,List.replicate 32 0⟩
end Ab
end Go.Proofs.Ytpflcogplhigcaa
namespace Go.Proofs.Ytpflcogplhigcaa
open Go Go.Proofs.Ytpflcogplhigcaa.Ab
set_option linter.unusedVariables false
set_option linter.unusedSimpArgs false
namespace Ab
def Ag (x y:Ex):Prop:=∀k,x.lba≤k→k < x.lba+x.len→y.lba≤k→k < y.lba+y.len→bAt x k=bAt y k
def Kp (was l:List Ex) (gen:Int):Prop:=∀x∈l,x.gen≤gen→∀y∈was,Ag x y
open Classical in
noncomputable def kp (was l:List Ex) (gen:Int):Bool:=decide (Kp was l gen)
open Classical in
theorem kp_t {was l:List Ex} {gen:Int} (h:Kp was l gen):kp was l gen=true:=by unfold kp;exact decide_eq_true h
open Classical in
theorem kp_f {was l:List Ex} {gen:Int} (h:¬Kp was l gen):kp was l gen=false:=by unfold kp;exact decide_eq_false h
theorem y03 (l:List Ex) (gen:Int):Kp [] l gen:=fun x _ _ y hy=> by cases hy
theorem zyp {x y:Ex} (hx:Ck x) (h:Cu y x.lba x.len):Cu x (cu y x.lba x.len).lba (cu y x.lba x.len).len:=by
 have px:=z08 hx
 have py:=z08 h.1
 have h6:=h.2.2.2.2.2
 refine ⟨hx,?_,?_,?_,?_,?_⟩ <;> simp only [cu] <;> omega
theorem zyx {x y:Ex} (hx:Ck x) (h:Cu y x.lba x.len):((cu x (cu y x.lba x.len).lba (cu y x.lba x.len).len).kind=(cu y x.lba x.len).kind∧(cu x (cu y x.lba x.len).lba (cu y x.lba x.len).len).gen=(cu y x.lba x.len).gen∧(cu x (cu y x.lba x.len).lba (cu y x.lba x.len).len).d=(cu y x.lba x.len).d)↔Ag x y:=by
 have hw:=zyp hx h
 have px:=z08 hx
 have py:=z08 h.1
 have h6:=h.2.2.2.2.2
 have zl:(cu y x.lba x.len).lba=max y.lba x.lba:=rfl
 have zn:(cu y x.lba x.len).len=min (y.lba+y.len) (x.lba+x.len) - max y.lba x.lba:=rfl
 have cz:=zua h
 have bz:∀k,max y.lba x.lba≤k→k < min (y.lba+y.len) (x.lba+x.len)→bAt (cu y x.lba x.len) k=bAt y k:=fun k a b=> zj2 h.1 a b
 generalize cu y x.lba x.len=z at hw zl zn cz bz⊢
 have wl:(cu x z.lba z.len).lba=max x.lba z.lba:=rfl
 have wn:(cu x z.lba z.len).len=min (x.lba+x.len) (z.lba+z.len) - max x.lba z.lba:=rfl
 have cw:=zua hw
 have bw:∀k,max x.lba z.lba≤k→k < min (x.lba+x.len) (z.lba+z.len)→bAt (cu x z.lba z.len) k=bAt x k:=fun k a b=> zj2 hx a b
 generalize cu x z.lba z.len=w at wl wn cw bw⊢
 constructor
 · rintro ⟨e1,e2,e3⟩ k a b c d
   have e:w=z:=by
    obtain ⟨w1,w2,w3,w4,w5⟩:=w
    obtain ⟨z1,z2,z3,z4,z5⟩:=z
    simp only at e1 e2 e3 wl wn zl zn
    subst e1;subst e2;subst e3
    congr 1 <;> omega
   rw [←bw k (by omega) (by omega),←bz k (by omega) (by omega),e]
 · intro g
   have e:w=z:=by
    refine d_ext cw cz (by omega) (by omega) fun k a b=> ?_
    rw [bw k (by omega) (by omega),bz k (by omega) (by omega)]
    exact g k (by omega) (by omega) (by omega) (by omega)
   rw [e];exact ⟨rfl,rfl,rfl⟩
theorem ag_no {x y:Ex} (hx:Ck x) (hy:Ck y) (h:¬Cu y x.lba x.len):Ag x y:=by
 intro k a b c d
 have px:=z08 hx
 have py:=z08 hy
 exact absurd ⟨hy,by omega,by omega,by omega,by omega,by omega⟩ h
open Classical in
theorem z61 {α:Type} {x y:Ex} (hx:Ck x) (hy:Ck y) (F N G:Option α):
 tc (z7y y x.lba x.len) (fun s7=> tb (!s7.2) N (tc (z7y x s7.1.lba s7.1.len) fun s9=> tb (s9.1.kind !=s7.1.kind) F (tb (s9.1.gen !=s7.1.gen) F (tb (!(s9.1.d==s7.1.d)) F G))))
  =if Ag x y then (if Cu y x.lba x.len then G else N) else F:=by
 rw [zjh,v6]
 by_cases h:Cu y x.lba x.len
 case neg=>
  rw [zne h,if_pos (ag_no hx hy h),if_neg h]
  simp only [Bool.not_false,z68]
 rw [zgo h]
 simp only [Bool.not_true,zdf]
 rw [zjh,v6,zgo (zyp hx h),if_pos h]
 simp only [z1c,z26]
 have hi:=zyx hx h
 by_cases g:Ag x y
 · obtain ⟨e1,e2,e3⟩:=hi.2 g
   rw [if_pos e1,if_pos e2,e3,if_pos g];simp [z68]
 · rw [if_neg g]
   by_cases e1:(cu x (cu y x.lba x.len).lba (cu y x.lba x.len).len).kind=(cu y x.lba x.len).kind
   case neg=> rw [if_neg e1]
   rw [if_pos e1]
   by_cases e2:(cu x (cu y x.lba x.len).lba (cu y x.lba x.len).len).gen=(cu y x.lba x.len).gen
   case neg=> rw [if_neg e2]
   rw [if_pos e2]
   by_cases e3:(cu x (cu y x.lba x.len).lba (cu y x.lba x.len).len).d=(cu y x.lba x.len).d
   · exact absurd (hi.1 ⟨e1,e2,e3⟩) g
   · rw [zec (by simpa using e3)]
open Classical in
theorem zlx (was l:List Ex) (gen:Int) (hw:∀x∈was,Ck x) (hl:∀x∈l,Ck x) (nw:was.length≤9223372036854775807) (nl:l.length≤9223372036854775807):zfr was l gen=some (kp was l gen):=by
 have hw':=(z1m was Ck).2 hw
 have hl':=(z1m l Ck).2 hl
 unfold zfr
 rw [zcp (some false) (some true) l.length (fun i=> (z0 l i).gen≤gen→∀y∈was,Ag (z0 l i) y) (Kp was l gen) (z1m l fun x=> x.gen≤gen→∀y∈was,Ag x y)]
 · by_cases h:Kp was l gen
   · rw [if_pos h,kp_t h]
   · rw [if_neg h,kp_f h]
 · intro i hi hp
   unfold z2j
   simp only [x9,Int.toNat_natCast]
   rw [if_pos (by omega),x6 (by omega),t9 (x:=(i:Int)+1) (by omega) (by omega)]
   by_cases hg:(z0 l i).gen > gen
   · rw [if_pos hg]
   rw [if_neg hg]
   rw [zcp none (some ((i:Int)+1)) was.length (fun j=> Ag (z0 l i) (z0 was j)) (∀y∈was,Ag (z0 l i) y) (z1m was fun y=> Ag (z0 l i) y)]
   · rw [if_pos (hp (by omega))]
   · intro j hj hq
     unfold z0x
     simp only [x9,Int.toNat_natCast]
     rw [if_pos (by omega),x6 (by omega),t9 (x:=(j:Int)+1) (by omega) (by omega),z61 (hl' i hi) (hw' j hj),if_pos hq]
     split <;> rfl
   · intro j hj hq
     unfold z0x
     simp only [x9,Int.toNat_natCast]
     rw [if_pos (by omega),x6 (by omega),t9 (x:=(j:Int)+1) (by omega) (by omega),z61 (hl' i hi) (hw' j hj),if_neg hq,if_pos (by omega)]
     exact ⟨rfl,rfl⟩
   · unfold z0x
     simp only [x9]
     rw [if_neg (by omega),if_neg (by omega)]
     exact ⟨rfl,rfl⟩
 · intro i hi hp
   have hg:¬(z0 l i).gen > gen:=fun g=> hp fun g2=> by omega
   have hn:¬∀y∈was,Ag (z0 l i) y:=fun g=> hp fun _=> g
   constructor
   · unfold z2j
     simp only [x9,Int.toNat_natCast]
     rw [if_pos (by omega),x6 (by omega),if_neg hg]
     rw [zcp none (some (wr ((i:Int)+1))) was.length (fun j=> Ag (z0 l i) (z0 was j)) (∀y∈was,Ag (z0 l i) y) (z1m was fun y=> Ag (z0 l i) y)]
     · rw [if_neg hn]
     · intro j hj hq
       unfold z0x
       simp only [x9,Int.toNat_natCast]
       rw [if_pos (by omega),x6 (by omega),t9 (x:=(j:Int)+1) (by omega) (by omega),z61 (hl' i hi) (hw' j hj),if_pos hq]
       split <;> rfl
     · intro j hj hq
       unfold z0x
       simp only [x9,Int.toNat_natCast]
       rw [if_pos (by omega),x6 (by omega),t9 (x:=(j:Int)+1) (by omega) (by omega),z61 (hl' i hi) (hw' j hj),if_neg hq,if_pos (by omega)]
       exact ⟨rfl,rfl⟩
     · unfold z0x
       simp only [x9]
       rw [if_neg (by omega),if_neg (by omega)]
       exact ⟨rfl,rfl⟩
   · simp only [x9,Int.toNat_natCast]
     rw [if_pos (by omega),x6 (by omega),if_neg hg]
     rw [zcp (some false) none was.length (fun j=> Ag (z0 l i) (z0 was j)) (∀y∈was,Ag (z0 l i) y) (z1m was fun y=> Ag (z0 l i) y)]
     · rw [if_neg hn]
     · intro j hj hq
       unfold z2i
       simp only [x9,Int.toNat_natCast]
       rw [if_pos (by omega),x6 (by omega),t9 (x:=(j:Int)+1) (by omega) (by omega),z61 (hl' i hi) (hw' j hj),if_pos hq]
       split <;> rfl
     · intro j hj hq
       constructor
       · unfold z2i
         simp only [x9,Int.toNat_natCast]
         rw [if_pos (by omega),x6 (by omega),t9 (x:=(j:Int)+1) (by omega) (by omega),z61 (hl' i hi) (hw' j hj),if_neg hq]
       · simp only [Int.toNat_natCast]
         rw [if_pos (by omega),x6 (by omega),z61 (hl' i hi) (hw' j hj),if_neg hq]
     · unfold z2i
       simp only [x9]
       rw [if_neg (by omega),if_neg (by omega)]
       exact ⟨rfl,rfl⟩
 · unfold z2j
   simp only [x9]
   rw [if_neg (by omega),if_neg (by omega)]
   exact ⟨rfl,rfl⟩
end Ab
end Go.Proofs.Ytpflcogplhigcaa
namespace Go.Proofs.Ytpflcogplhigcaa
open Go Go.Proofs.Ytpflcogplhigcaa.Ab
set_option linter.unusedVariables false
set_option linter.unusedSimpArgs false
namespace Ab
def Up (blocks:Int) (l:List Ex) (gen:Int):Prop:=Mk blocks l∧∀x∈l,x.gen≤gen
instance (blocks:Int) (l:List Ex) (gen:Int):Decidable (Up blocks l gen):=by unfold Up;infer_instance
theorem zkn (blocks:Int) (l:List Ex) (gen:Int) (nl:l.length≤9223372036854775807):zhw blocks l gen=some (decide (Up blocks l gen)):=by
 unfold zhw
 rw [zbz blocks l nl,v6]
 by_cases hm:Mk blocks l
 case neg=> rw [zuc hm,zdf,decide_eq_false fun h=> hm h.1]
 rw [mk_t hm,z68]
 rw [zcp (some false) (some true) l.length (fun i=> (z0 l i).gen≤gen) (∀x∈l,x.gen≤gen) (z1m l fun x=> x.gen≤gen)]
 · by_cases h:∀x∈l,x.gen≤gen
   · have u:Up blocks l gen:=⟨hm,h⟩
     rw [if_pos h,decide_eq_true u]
   · rw [if_neg h,decide_eq_false fun g:Up blocks l gen=> h g.2]
 · intro i hi hp
   unfold z2k
   simp only [x9,Int.toNat_natCast]
   rw [if_pos (by omega),x6 (by omega),if_neg (by omega),t9 (by omega) (by omega)]
 · intro i hi hp
   unfold z2k
   simp only [x9,Int.toNat_natCast]
   rw [if_pos (by omega),x6 (by omega),if_pos (by omega),if_pos (by omega),x6 (by omega),if_pos (by omega)]
   exact ⟨rfl,by rw [decide_eq_true (show (i:Int)≥0 by omega)];rfl⟩
 · unfold z2k
   simp only [x9]
   rw [if_neg (by omega),if_neg (by omega)]
   exact ⟨rfl,rfl⟩
theorem zgv (n low high:Int):z9e n low high=some (decide (low≤n∧n≤high)):=by
 unfold z9e
 rw [x9]
 by_cases h:n≥low
 · rw [if_pos h];congr 1;rw [Bool.eq_iff_iff,decide_eq_true_iff,decide_eq_true_iff];exact ⟨fun g=> ⟨h,g⟩,fun g=> g.2⟩
 · rw [if_neg h,decide_eq_false fun g=> h g.1]
theorem zat (l:List Po) (p:Po→Prop):(∀i,i < l.length→p (v9 l i))↔∀x∈l,p x:=by
 unfold v9;exact zb2 _ l p
def Sx (l:List Ex):Prop:=l.length≤1000∧∀x∈l,x.d.length≤1000000
def Sz (s:Sa):Prop:=Sx s.map∧s.points.length≤1000∧(∀p∈s.points,Sx p.map)∧s.staged.length≤1000000
def pv (s:Sa) (i:Nat):Po:=if i=0 then ⟨0,0,[]⟩ else v9 s.points (i - 1)
theorem z1q (s:Sa) (i:Nat):pv s (i+1)=v9 s.points i:=by simp [pv]
def PP (s:Sa) (i:Nat):Prop:=
 Up s.blocks (v9 s.points i).map (v9 s.points i).gen∧(pv s i).id < (v9 s.points i).id∧(v9 s.points i).id≤s.last∧(pv s i).gen < (v9 s.points i).gen∧(v9 s.points i).gen < s.gen∧Kp (pv s i).map (v9 s.points i).map (pv s i).gen
def SOk (s:Sa):Prop:=
 Up s.blocks s.map s.gen∧1≤s.gen∧s.gen≤2147483647∧s.points.length≤4∧0≤s.last∧s.last≤2147483647∧s.staged.length≤4000∧(∀i,i < s.points.length→PP s i)∧Kp (pv s s.points.length).map s.map (pv s s.points.length).gen
open Classical in
noncomputable def st (s:Sa):Int:=if SOk s then 0 else 110
theorem zur {s:Sa} (h:SOk s):st s=0:=by unfold st;rw [if_pos h]
theorem zh0 {s:Sa} (h:¬SOk s):st s=110:=by unfold st;rw [if_neg h]
theorem zto {blocks:Int} {l:List Ex} {gen:Int} (h:Up blocks l gen):∀x∈l,Ck x:=fun x hx=> (zcz (z89 h.1) x hx).1
theorem zy4 {s:Sa} {i:Nat} (hp:∀j,j < i→PP s j):∀x∈(pv s i).map,Ck x:=by
 unfold pv
 split
 · intro x hx;cases hx
 · exact zto (hp (i - 1) (by omega)).1
def PS (s:Sa) (i:Nat):Int×Int×Int×List Ex:=((i:Int),(pv s i).id,(pv s i).gen,(pv s i).map)
theorem ze1 {α:Type} (s:Sa) {step:Int×Int×Int×List Ex→Option (Int×Int×Int×List Ex)} {f:Int×Int×Int×List Ex→Option α} (n:Nat) (hs:∀i,i < n→step (PS s i)=some (PS s (i+1))) (he:step (PS s n)=none):th step (0,(0,(0,([]:List Ex)))) f=f (PS s n):=by
 have:=z15 (step:=step) (f:=f) (PS s) n hs he
 rwa [show PS s 0=(0,0,0,[]) from rfl] at this
theorem zji (s:Sa) {α:Type} (x y:Option α):tb (decide ((PS s s.points.length).1 < (s.points.length:Int))) x y=y:=zec (decide_eq_false (by show ¬((s.points.length:Int) < s.points.length);omega))
open Classical in
noncomputable def MS (s:Sa) (i:Nat):Bool×Int×Int×Int×List Ex:=(decide (s.staged.length≤4000∧∀j,j < i→PP s j),PS s i)
def Bg (s:Sa):Prop:=s.map.length≤9223372036854775807∧s.points.length≤9223372036854775807∧∀p∈s.points,p.map.length≤9223372036854775807
theorem sz_bg {s:Sa} (h:Sz s):Bg s:=⟨by have:=h.1.1;omega,by have:=h.2.1;omega,fun p hp=> by have:=(h.2.2.1 p hp).1;omega⟩
theorem zxx {s:Sa} (h:Bg s) (i:Nat) (hi:i≤s.points.length):(pv s i).map.length≤9223372036854775807:=by
 unfold pv
 split
 · simp
 · exact (zat s.points (fun p=> p.map.length≤9223372036854775807)).2 h.2.2 _ (by omega)
open Classical in
theorem zn2 {s:Sa} (h:Bg s) (a b c:Bool) {i:Nat} (hi:i < s.points.length):z1b s a b c (MS s i)=some (MS s (i+1)):=by
 have hz:=h.2.1
 unfold MS PS z1b
 simp only [x9,Int.toNat_natCast,z1q]
 rw [if_pos (by omega),x6 (by omega),t9 (x:=(i:Int)+1) (by omega) (by omega)]
 have e1:((i+1:Nat):Int)=(i:Int)+1:=by omega
 rw [e1]
 have sx:=(zat s.points (fun p=> p.map.length≤9223372036854775807)).2 h.2.2 i hi
 have px:=zxx h i (by omega)
 have hM:∀p:Prop,[Decidable p]→((s.staged.length≤4000∧∀j,j < i+1→PP s j)↔p)→decide (s.staged.length≤4000∧∀j,j < i+1→PP s j)=decide p:=fun p _ g=> by
  rw [Bool.eq_iff_iff,decide_eq_true_iff,decide_eq_true_iff];exact g
 have no:¬PP s i→decide (s.staged.length≤4000∧∀j,j < i+1→PP s j)=false:=fun g=> decide_eq_false fun q=> g (q.2 i (by omega))
 by_cases hm:s.staged.length≤4000∧∀j,j < i→PP s j
 case neg=>
  rw [if_neg hm,decide_eq_false fun q=> hm ⟨q.1,fun j hj=> q.2 j (by omega)⟩]
 rw [if_pos hm,zkn _ _ _ sx,v6,x9]
 by_cases h1:Up s.blocks (v9 s.points i).map (v9 s.points i).gen
 case neg=> rw [if_neg h1,no fun q=> h1 q.1]
 rw [if_pos h1]
 by_cases h2:(v9 s.points i).id > (pv s i).id
 case neg=> rw [if_neg h2,no fun q=> h2 q.2.1]
 rw [if_pos h2]
 by_cases h3:(v9 s.points i).id≤s.last
 case neg=> rw [if_neg h3,no fun q=> h3 q.2.2.1]
 rw [if_pos h3]
 by_cases h4:(v9 s.points i).gen > (pv s i).gen
 case neg=> rw [if_neg h4,no fun q=> h4 q.2.2.2.1]
 rw [if_pos h4]
 by_cases h5:(v9 s.points i).gen < s.gen
 case neg=> rw [if_neg h5,no fun q=> h5 q.2.2.2.2.1]
 rw [if_pos h5,zlx _ _ _ (zy4 hm.2) (zto h1) px sx,v6]
 by_cases h6:Kp (pv s i).map (v9 s.points i).map (pv s i).gen
 · rw [kp_t h6,decide_eq_true]
   refine ⟨hm.1,fun j hj=> ?_⟩
   by_cases g:j=i
   · subst g;exact ⟨h1,h2,h3,h4,h5,h6⟩
   · exact hm.2 j (by omega)
 · rw [kp_f h6,no fun q=> h6 q.2.2.2.2.2]
open Classical in
theorem znr {s:Sa} (h:Bg s):z8g s=some (st s):=by
 have hz:=h.2.1
 have hx:=h.1
 have e1:∀i:Nat,((i+1:Nat):Int)=(i:Int)+1:=fun i=> by omega
 unfold z8g
 rw [zkn _ _ _ hx,v6,x9]
 by_cases h1:Up s.blocks s.map s.gen
 case neg=>
  rw [if_neg h1,zh0 fun q=> h1 q.1,ze1 s s.points.length]
  · exact zji s _ _
  · intro i hi
    unfold PS z2t
    simp only [x9,Int.toNat_natCast,z1q]
    rw [if_pos (by omega),x6 (by omega),t9 (x:=(i:Int)+1) (by omega) (by omega),e1]
  · unfold PS z2t
    simp only [x9]
    rw [if_neg (by omega)]
 rw [if_pos h1,zgv,v6,x9]
 by_cases h2:1≤s.gen∧s.gen≤2147483647
 case neg=>
  rw [if_neg h2,zh0 fun q=> h2 ⟨q.2.1,q.2.2.1⟩,ze1 s s.points.length]
  · exact zji s _ _
  · intro i hi
    unfold PS z2y
    simp only [x9,Int.toNat_natCast,z1q]
    rw [if_pos (by omega),x6 (by omega),t9 (x:=(i:Int)+1) (by omega) (by omega),e1]
  · unfold PS z2y
    simp only [x9]
    rw [if_neg (by omega)]
 rw [if_pos h2,x9]
 by_cases h3:(s.points.length:Int)≤4
 case neg=>
  rw [if_neg h3,zh0 fun q=> h3 (by have:=q.2.2.2.1;omega),ze1 s s.points.length]
  · exact zji s _ _
  · intro i hi
    unfold PS z2v
    simp only [x9,Int.toNat_natCast,z1q]
    rw [if_pos (by omega),x6 (by omega),t9 (x:=(i:Int)+1) (by omega) (by omega),e1]
  · unfold PS z2v
    simp only [x9]
    rw [if_neg (by omega)]
 rw [if_pos h3,zgv,v6,x9]
 by_cases h4:0≤s.last∧s.last≤2147483647
 case neg=>
  rw [if_neg h4,zh0 fun q=> h4 ⟨q.2.2.2.2.1,q.2.2.2.2.2.1⟩,ze1 s s.points.length]
  · exact zji s _ _
  · intro i hi
    unfold PS z2x
    simp only [x9,Int.toNat_natCast,z1q]
    rw [if_pos (by omega),x6 (by omega),t9 (x:=(i:Int)+1) (by omega) (by omega),e1]
  · unfold PS z2x
    simp only [x9]
    rw [if_neg (by omega)]
 rw [if_pos h4]
 have hr:=z15 (step:=z1b s (decide (Up s.blocks s.map s.gen)) (decide (1≤s.gen∧s.gen≤2147483647)) (decide (0≤s.last∧s.last≤2147483647))) (f:=fun s7=>
  tb (decide (s7.2.1 < (s.points.length:Int))) none (tb (!s7.1) (some (110:Int)) (tc (zfr s7.2.2.2.2 s.map s7.2.2.2.1) fun s10=> tb (!s10) (some 110) (some 0)))) (MS s) s.points.length (fun i hi=> zn2 h _ _ _ hi) (by
   unfold MS PS z1b
   simp only [x9]
   rw [if_neg (by omega)])
 have e0:MS s 0=(decide ((s.staged.length:Int)≤4000),0,0,0,[]):=by
  unfold MS PS
  congr 1
  rw [Bool.eq_iff_iff,decide_eq_true_iff,decide_eq_true_iff]
  exact ⟨fun q=> by have:=q.1;omega,fun q=> ⟨by omega,fun j hj=> by omega⟩⟩
 rw [e0] at hr
 rw [hr]
 unfold MS PS
 simp only [x9,z26]
 rw [if_neg (by omega)]
 by_cases h5:s.staged.length≤4000∧∀j,j < s.points.length→PP s j
 case neg=> rw [if_neg h5,zh0 fun q=> h5 ⟨q.2.2.2.2.2.2.1,q.2.2.2.2.2.2.2.1⟩]
 rw [if_pos h5,zlx _ _ _ (zy4 h5.2) (zto h1) (zxx h _ (Nat.le_refl _)) hx,v6]
 by_cases h6:Kp (pv s s.points.length).map s.map (pv s s.points.length).gen
 · rw [kp_t h6,z68,zur ⟨h1,h2.1,h2.2,by omega,h4.1,h4.2,h5.1,h5.2,h6⟩]
 · rw [kp_f h6,zdf,zh0 fun q=> h6 q.2.2.2.2.2.2.2.2]
theorem z9b {s:Sa} (h:Sz s):z8g s=some (st s):=znr (sz_bg h)
end Ab
end Go.Proofs.Ytpflcogplhigcaa
namespace Go.Proofs.Ytpflcogplhigcaa
open Go Go.Proofs.Ytpflcogplhigcaa.Ab
set_option linter.unusedVariables false
set_option linter.unusedSimpArgs false
namespace Ab
theorem z23 {l:List Ex} (h:Sx l):z2g l=some l:=by
 have hz:=h.1
 have hd:=(z1m l (fun x=> x.d.length≤1000000)).2 h.2
 unfold z2g
 have:=z15 (step:=z19 l) (f:=fun s0=> tb (decide (s0.2 < (l.length:Int))) none (tp (0=0∧(List.flatMap Ex.cells s0.1).length=s0.1.length*5) (some s0.1))) (fun i=> (l.take i,(i:Int))) l.length (fun i hi=> by
  have:=hd i hi
  unfold z19
  simp only [x9,Int.toNat_natCast]
  rw [if_pos (by omega),x6 (by omega),x6 (by omega),x6 ⟨u5 _,by rw [List.length_take];omega⟩,t9 (by omega) (by omega),←z8j l i hi]
  rfl) (by
  unfold z19
  simp only [x9]
  rw [if_neg (by omega)])
 rw [List.take_zero,List.take_length] at this
 refine this.trans ?_
 simp only [x9]
 rw [if_neg (by omega),x6 ⟨by trivial,u5 _⟩]
def sa0:Sa:=⟨0,0,[],[],0,[]⟩
open Classical in
noncomputable def cpy (s:Sa):Sa:=if SOk s then s else sa0
theorem zpz {s:Sa} (h:SOk s):cpy s=s:=by unfold cpy;rw [if_pos h]
theorem cpy_f {s:Sa} (h:¬SOk s):cpy s=sa0:=by unfold cpy;rw [if_neg h]
theorem znb (l:List Po) (i:Nat):l.set i (v9 l i)=l:=by
 refine List.ext_getElem? fun j=> ?_
 rw [List.getElem?_set]
 by_cases h:i=j
 · subst h
   rw [if_pos rfl]
   by_cases g:i < l.length
   · rw [if_pos g];unfold v9;simp [g]
   · rw [if_neg g,List.getElem?_eq_none (by omega)]
 · rw [if_neg h]
theorem zgl {s:Sa} (h:Sz s):z3s s=some (cpy s):=by
 have hz:=h.2.1
 have hx:=h.1
 unfold z3s
 rw [z9b h,v6,z1c]
 by_cases ho:SOk s
 case neg=> rw [zh0 ho,if_neg (by decide),cpy_f ho];rfl
 rw [zur ho,if_pos rfl,z23 hx,v6,x6 (z0r _),x6 (by omega),x6 (by have:=h.2.2.2;omega),zpz ho]
 have hp:=(zat s.points (fun p=> Sx p.map)).2 h.2.2.1
 have:=z15 (step:=z2h s 0 s.map) (f:=fun s6=> tb (decide (s6.1 < (s.points.length:Int))) none (tp (0=0∧(List.flatMap Ex.cells s.map).length=s.map.length*5) (tp (0=0∧(List.flatMap Po.cells s6.2).length=s.points.length*3) (some (Sa.mk s.blocks s.gen s.map s6.2 s.last s.staged))))) (fun i=> ((i:Int),s.points)) s.points.length (fun i hi=> by
  have e:=z0r s.points
  unfold z2h
  simp only [x9,Int.toNat_natCast]
  rw [if_pos (by omega),x6 (by omega),x6 (by omega),z23 (hp i hi),v6,x6 ⟨rfl,by simp only [List.length_cons,List.length_nil];omega⟩,t9 (by omega) (by omega),List.take_length]
  have e2:(Po.mk (v9 s.points i).id (v9 s.points i).gen (v9 s.points i).map)=v9 s.points i:=rfl
  rw [e2,znb]
  rfl) (by
  unfold z2h
  simp only [x9]
  rw [if_neg (by omega)])
 refine this.trans ?_
 simp only [x9]
 rw [if_neg (by omega),x6 ⟨by trivial,u5 _⟩,x6 ⟨by trivial,z0r _⟩]
theorem ztc {b:Int} {l:List Ex} (h:Mk b l):Sx l:=⟨by have:=zc8 h;omega,fun x hx=> by have:=z43 (zcz (z89 h) x hx).1;omega⟩
theorem zjx {s:Sa} (h:SOk s):Sz s:=by
 refine ⟨ztc h.1.1,by have:=h.2.2.2.1;omega,?_,by have:=h.2.2.2.2.2.2.1;omega⟩
 exact (zat s.points fun p=> Sx p.map).1 fun i hi=> ztc (h.2.2.2.2.2.2.2.1 i hi).1.1
def nw (blocks:Int):Sa×Int:=if 1≤blocks∧blocks≤64 then (⟨blocks,1,[⟨0,blocks,0,0,[]⟩],[],0,[]⟩,0) else (sa0,81)
theorem zx8 (blocks:Int):zvt blocks=some (if 1≤blocks∧blocks≤64 then ([⟨0,blocks,0,0,[]⟩],0) else ([],81)):=by
 unfold zvt
 simp only [x9]
 by_cases h1:blocks < 1
 · rw [if_pos h1,if_neg (by omega)]
 by_cases h2:blocks > 64
 · rw [if_neg h1,if_pos h2,if_neg (by omega)]
 · rw [if_neg h1,if_neg h2,if_pos (by omega)]
theorem zwn (blocks:Int):zv5 blocks=some (nw blocks):=by
 unfold zv5 nw
 rw [zx8,v6]
 split <;> rfl
theorem zwo {α β:Type} (l:List β) (d:β) (p:β→Bool) {step:Int→Option Int} {f:Int→Option α} (g:Option β→Option α) (hs:∀i:Nat,i < l.length→p (l.getD i d)=false→step (i:Int)=some ((i:Int)+1)) (hf:∀i:Nat,i < l.length→p (l.getD i d)=true→step (i:Int)=none∧f (i:Int)=g (some (l.getD i d))) (he:step (l.length:Int)=none∧f (l.length:Int)=g none):th step 0 f=g (l.find? p):=by
 have gd:∀i (hi:i < l.length),l.getD i d=l[i]:=fun i hi=> by simp [hi]
 cases h:l.find? p with
 | none=>
   have hn:=List.find?_eq_none.1 h
   have:=z15 (step:=step) (f:=f) (fun i=> (i:Int)) l.length (fun i hi=> hs i hi (by
    rw [gd i hi]
    have:=hn l[i] (List.getElem_mem hi)
    simpa using this)) he.1
   simp only [Int.natCast_zero] at this
   rw [this];exact he.2
 | some x=>
   obtain ⟨hx,i,hi,e,hlt⟩:=List.find?_eq_some_iff_getElem.1 h
   have hfi:=hf i hi (by rw [gd i hi,e];exact hx)
   have:=z15 (step:=step) (f:=f) (fun i=> (i:Int)) i (fun j hj=> hs j (by omega) (by
    rw [gd j (by omega)]
    have:=hlt j hj
    simpa using this)) hfi.1
   simp only [Int.natCast_zero] at this
   rw [this,hfi.2,gd i hi,e]
def po0:Po:=⟨0,0,[]⟩
def fd (l:List Po) (id:Int):Option Po:=l.find? fun p=> p.id==id
def fdv:Option Po→Po×Int
 | some p=> (p,0)
 | none=> (po0,111)
open Classical in
noncomputable def pnt (s:Sa) (id:Int):Po×Int:=if SOk s then fdv (fd s.points id) else (po0,110)
theorem zh6 {s:Sa} (h:Sz s) (id:Int):zcm s id=some (pnt s id):=by
 have hz:=h.2.1
 unfold zcm pnt
 rw [z9b h,v6,z1c]
 by_cases ho:SOk s
 case neg=> rw [zh0 ho,if_neg (by decide),if_neg ho];rfl
 rw [zur ho,if_pos rfl,if_pos ho,zgl h,v6,zpz ho]
 refine (zwo s.points ⟨0,0,[]⟩ (fun p=> p.id==id) (fun o=> some (fdv o)) ?_ ?_ ?_)
 · intro i hi hp
   have hp:((v9 s.points i).id==id)=false:=hp
   unfold z1x
   simp only [x9,Int.toNat_natCast]
   rw [if_pos (by omega),x6 (by omega),zec hp,t9 (by omega) (by omega)]
 · intro i hi hp
   have hp:((v9 s.points i).id==id)=true:=hp
   unfold z1x
   simp only [x9,Int.toNat_natCast]
   rw [if_pos (by omega),x6 (by omega),zk0 hp,if_pos (by omega),x6 (by omega),zk0 hp]
   exact ⟨rfl,rfl⟩
 · unfold z1x
   simp only [x9]
   rw [if_neg (by omega),if_neg (by omega)]
   exact ⟨rfl,rfl⟩
def zsk (l:List Ex):Prop:=l.length≤70∧∀x∈l,x.d.length≤3000
instance (l:List Ex):Decidable (zsk l):=by unfold zsk;infer_instance
def FewS (s:Sa):Prop:=s.points.length≤10∧s.staged.length≤6000∧zsk s.map∧∀p∈s.points,zsk p.map
instance (s:Sa):Decidable (FewS s):=by unfold FewS;infer_instance
end Ab
end Go.Proofs.Ytpflcogplhigcaa
namespace Go.Proofs.Ytpflcogplhigcaa
open Go Go.Proofs.Ytpflcogplhigcaa.Ab
set_option linter.unusedVariables false
set_option linter.unusedSimpArgs false
namespace Ab
theorem zoo (n low high:Int):z0i n low high=some (decide (low≤n∧n≤high)):=by
 unfold z0i
 rw [x9]
 by_cases h:n≥low
 · rw [if_pos h];congr 1;exact decide_eq_decide.2 ⟨fun g=> ⟨h,g⟩,fun g=> g.2⟩
 · rw [if_neg h,decide_eq_false fun g:low≤n∧n≤high=> h g.1]
def zcv (l:List Ex) (i:Nat):Int:=if i=0 then 0 else (z0 l (i - 1)).lba+(z0 l (i - 1)).len
theorem zou (l:List Ex) (i:Nat):zcv l (i+1)=(z0 l i).lba+(z0 l i).len:=by simp [zcv]
def FP (l:List Ex) (i:Nat):Prop:=Ck (z0 l i)∧zcv l i≤(z0 l i).lba
def Fo (l:List Ex):Prop:=(∀i,i < l.length→FP l i)∧l.length≤64
instance (l:List Ex) (i:Nat):Decidable (FP l i):=by unfold FP;infer_instance
instance (l:List Ex):Decidable (Fo l):=by unfold Fo;infer_instance
theorem y07:Fo []:=⟨fun i hi=> by simp at hi,by simp⟩
theorem zlg (l:List Ex) (hl:l.length≤9223372036854775807):z8s l=some (decide (Fo l)):=by
 unfold z8s
 have h0:((0:Int),(0:Int))=(zcv l 0,((0:Nat):Int)):=by simp [zcv]
 rw [h0]
 have:=fun f hs hf he=> zfc (α:=Bool) (step:=z0v l) (f:=f) (some false) (some (decide ((l.length:Int)≤64))) (fun i=> (zcv l i,(i:Int))) l.length (FP l) (∀i,i < l.length→FP l i) Iff.rfl hs hf he
 rw [this _ ?_ ?_ ?_]
 · by_cases h:∀i,i < l.length→FP l i
   · rw [if_pos h];congr 1;exact decide_eq_decide.2 ⟨fun g=> ⟨h,by omega⟩,fun g=> by have:=g.2;omega⟩
   · rw [if_neg h,decide_eq_false fun g:Fo l=> h g.1]
 · intro i hi _ hp
   unfold z0v
   have h1:=hp.1
   have h2:=hp.2
   have h3:=z08 h1
   simp only [x9,z26,z2m,v6,Int.toNat_natCast]
   rw [if_pos (by omega),x6 (by omega),zce h1,z68,if_neg (by omega),t9 (by omega) (by omega),t9 (by omega) (by omega),zou]
   rfl
 · intro i hi _ hp
   unfold z0v
   simp only [x9,z26,z2m,v6,Int.toNat_natCast]
   by_cases h1:Ck (z0 l i)
   · have h2:(z0 l i).lba < zcv l i:=by
      rcases Int.lt_or_le (z0 l i).lba (zcv l i) with g | g
      · exact g
      · exact absurd ⟨h1,g⟩ hp
     refine ⟨?_,?_⟩ <;> rw [if_pos (by omega),x6 (by omega),zce h1,z68,if_pos h2]
   · refine ⟨?_,?_⟩ <;> rw [if_pos (by omega),x6 (by omega),zad h1,zdf]
 · intro _
   unfold z0v
   simp only [x9]
   rw [if_neg (by omega),if_neg (by omega)]
   exact ⟨rfl,rfl⟩
def CkH (c:Ch):Prop:=
 (c.kind=1∧(0≤c.lba∧c.lba≤64∧1≤c.n∧c.n≤64 - c.lba)∧c.id=0∧(c.d.length:Int)=c.n*32∧c.list.length=0)∨
 ((c.kind=2∨c.kind=3)∧(0≤c.lba∧c.lba≤64∧1≤c.n∧c.n≤64 - c.lba)∧c.id=0∧c.d.length=0∧c.list.length=0)∨
 ((c.kind=4∨c.kind=5)∧(c.lba=0∧c.n=0)∧(1≤c.id∧c.id≤2147483647)∧c.d.length=0∧c.list.length=0)∨
 (c.kind=6∧(c.lba=0∧c.n=0)∧c.id=0∧(1≤c.d.length∧c.d.length≤1000)∧c.list.length=0)∨
 (c.kind=7∧(c.lba=0∧c.n=0)∧c.id=0∧c.d.length=0∧c.list.length=0)∨
 (c.kind=8∧(c.lba=0∧c.n=0)∧(1≤c.id∧c.id≤2147483647)∧c.d.length=0∧Fo c.list)
instance (c:Ch):Decidable (CkH c):=by unfold CkH;infer_instance
theorem zt7 {c:Ch} (h:c.kind=1):CkH c↔(0≤c.lba∧c.lba≤64∧1≤c.n∧c.n≤64 - c.lba)∧c.id=0∧(c.d.length:Int)=c.n*32∧c.list.length=0:=by simp [CkH,h]
theorem zyf {c:Ch} (h:c.kind=2):CkH c↔(0≤c.lba∧c.lba≤64∧1≤c.n∧c.n≤64 - c.lba)∧c.id=0∧c.d.length=0∧c.list.length=0:=by simp [CkH,h]
theorem zye {c:Ch} (h:c.kind=3):CkH c↔(0≤c.lba∧c.lba≤64∧1≤c.n∧c.n≤64 - c.lba)∧c.id=0∧c.d.length=0∧c.list.length=0:=by simp [CkH,h]
theorem zyb {c:Ch} (h:c.kind=4):CkH c↔(c.lba=0∧c.n=0)∧(1≤c.id∧c.id≤2147483647)∧c.d.length=0∧c.list.length=0:=by simp [CkH,h]
theorem ckh_5 {c:Ch} (h:c.kind=5):CkH c↔(c.lba=0∧c.n=0)∧(1≤c.id∧c.id≤2147483647)∧c.d.length=0∧c.list.length=0:=by simp [CkH,h]
theorem ckh_6 {c:Ch} (h:c.kind=6):CkH c↔(c.lba=0∧c.n=0)∧c.id=0∧(1≤c.d.length∧c.d.length≤1000)∧c.list.length=0:=by simp [CkH,h]
theorem ckh_7 {c:Ch} (h:c.kind=7):CkH c↔(c.lba=0∧c.n=0)∧c.id=0∧c.d.length=0∧c.list.length=0:=by simp [CkH,h]
theorem zmn {c:Ch} (h:c.kind=8):CkH c↔(c.lba=0∧c.n=0)∧(1≤c.id∧c.id≤2147483647)∧c.d.length=0∧Fo c.list:=by simp [CkH,h]
theorem z6w {c:Ch} (h:CkH c):1≤c.kind∧c.kind≤8:=by unfold CkH at h;omega
theorem y0u {p:Prop} [Decidable p] (h:p):some true=some (decide p):=by rw [decide_eq_true h]
theorem z7j {p:Prop} [Decidable p] (h:¬p):some false=some (decide p):=by rw [decide_eq_false h]
theorem zoe (p:Prop) [Decidable p]:(if p then some true else some false)=some (decide p):=by by_cases h:p <;> simp [h]
theorem za4 (p q:Prop) [Decidable p] [Decidable q]:(if p then some (decide q) else some false)=some (decide (p∧q)):=by by_cases h:p <;> simp [h]
theorem zid (c:Ch) (hl:c.list.length≤9223372036854775807):zfo c=some (decide (CkH c)):=by
 unfold zfo
 simp only [zoo,v6,z26,x9,z1u,zlg _ hl]
 by_cases hk:1≤c.kind∧c.kind≤8
 case neg=> rw [if_neg hk];exact z7j fun h=> hk (z6w h)
 rw [if_pos hk,if_neg (by omega)]
 have w:0≤c.lba→c.lba≤64→wr (64 - c.lba)=64 - c.lba:=fun h1 h2=> t9 (by omega) (by omega)
 have w2:0≤c.n→c.n≤64→wr (c.n*32)=c.n*32:=fun h1 h2=> t9 (by omega) (by omega)
 by_cases k1:c.kind=1
 · rw [if_pos k1]
   by_cases hb:0≤c.lba∧c.lba≤64
   case neg=> simp only [if_neg hb,ite_self];exact z7j fun h=> by rw [zt7 k1] at h;omega
   simp only [if_pos hb,w hb.1 hb.2]
   by_cases hn:1≤c.n∧c.n≤64 - c.lba
   case neg=> simp only [if_neg hn,ite_self];exact z7j fun h=> by rw [zt7 k1] at h;omega
   simp only [if_pos hn,w2 (by omega) (by omega)]
   simp only [ite_self,zoe,za4]
   congr 1
   exact decide_eq_decide.2 (by rw [zt7 k1];omega)
 rw [if_neg k1]
 by_cases k2:c.kind=2
 · rw [if_pos k2]
   by_cases hb:0≤c.lba∧c.lba≤64
   case neg=> simp only [if_neg hb,ite_self];exact z7j fun h=> by rw [zyf k2] at h;omega
   simp only [if_pos hb,w hb.1 hb.2]
   simp only [ite_self,zoe,za4]
   congr 1
   exact decide_eq_decide.2 (by rw [zyf k2];omega)
 rw [if_neg k2]
 by_cases k3:c.kind=3
 · rw [if_pos k3]
   by_cases hb:0≤c.lba∧c.lba≤64
   case neg=> simp only [if_neg hb,ite_self];exact z7j fun h=> by rw [zye k3] at h;omega
   simp only [if_pos hb,w hb.1 hb.2]
   simp only [ite_self,zoe,za4]
   congr 1
   exact decide_eq_decide.2 (by rw [zye k3];omega)
 rw [if_neg k3]
 by_cases k4:c.kind=4
 · rw [if_pos k4]
   simp only [ite_self,zoe,za4]
   congr 1
   exact decide_eq_decide.2 (by rw [zyb k4];omega)
 rw [if_neg k4]
 by_cases k5:c.kind=5
 · rw [if_pos k5]
   simp only [ite_self,zoe,za4]
   congr 1
   exact decide_eq_decide.2 (by rw [ckh_5 k5];omega)
 rw [if_neg k5]
 by_cases k6:c.kind=6
 · rw [if_pos k6]
   simp only [ite_self,zoe,za4]
   congr 1
   exact decide_eq_decide.2 (by rw [ckh_6 k6];omega)
 rw [if_neg k6]
 by_cases k7:c.kind=7
 · rw [if_pos k7]
   simp only [ite_self,zoe,za4]
   congr 1
   exact decide_eq_decide.2 (by rw [ckh_7 k7];omega)
 rw [if_neg k7]
 have k8:c.kind=8:=by omega
 rw [if_pos k8]
 have e8:Fo c.list→(c.lba=0∧c.n=0)→(1≤c.id∧c.id≤2147483647)→c.d.length=0→CkH c:=fun a b d e=> (zmn k8).2 ⟨b,d,e,a⟩
 have f8:CkH c→(c.lba=0∧c.n=0)∧(1≤c.id∧c.id≤2147483647)∧c.d.length=0∧Fo c.list:=(zmn k8).1
 by_cases h1:c.lba=0
 case neg=> rw [if_neg h1];exact z7j fun h=> h1 (f8 h).1.1
 rw [if_pos h1]
 by_cases h2:c.n=0
 case neg=> rw [if_neg h2];exact z7j fun h=> h2 (f8 h).1.2
 rw [if_pos h2]
 by_cases h3:1≤c.id∧c.id≤2147483647
 case neg=> rw [if_neg h3];exact z7j fun h=> h3 (f8 h).2.1
 rw [if_pos h3]
 by_cases h4:(c.d.length:Int)=0
 case neg=> rw [if_neg h4];exact z7j fun h=> h4 (by have:=(f8 h).2.2.1;omega)
 rw [if_pos h4]
 by_cases h5:(c.list.length:Int)=0
 · rw [if_pos h5]
   have:c.list=[]:=List.eq_nil_of_length_eq_zero (by omega)
   exact y0u (e8 (this▸y07) ⟨h1,h2⟩ h3 (by omega))
 rw [if_neg h5]
 congr 1
 exact decide_eq_decide.2 ⟨fun h=> e8 h ⟨h1,h2⟩ h3 (by omega),fun h=> (f8 h).2.2.2⟩
def FewC (c:Ch):Prop:=c.d.length≤5000∧zsk c.list
instance (c:Ch):Decidable (FewC c):=by unfold FewC;infer_instance
def FewL (l:List Ch):Prop:=l.length≤30∧∀c∈l,FewC c
instance (l:List Ch):Decidable (FewL l):=by unfold FewL;infer_instance
theorem zke (l:List Ch) (p:Ch→Prop):(∀i,i < l.length→p (d7 l i))↔∀x∈l,p x:=by
 unfold d7;exact zb2 _ l p
end Ab
end Go.Proofs.Ytpflcogplhigcaa
namespace Go.Proofs.Ytpflcogplhigcaa
open Go Go.Proofs.Ytpflcogplhigcaa.Ab
set_option linter.unusedVariables false
set_option linter.unusedSimpArgs false
namespace Ab
theorem zxm (l:List Ex) (hl:l.length≤4294967295) (hd:∀x∈l,x.d.length≤4294967296):zgb l=some l:=by
 unfold zgb
 have hstep:∀i:Nat,i < l.length→z1l l (l.take i,(i:Int))=some (l.take (i+1),(i:Int)+1):=by
  intro i hi
  have h1:=(z1m l (fun x=> x.d.length≤4294967296)).2 hd i hi
  unfold z1l
  simp only [x9,Int.toNat_natCast]
  rw [if_pos (by omega),x6 (by omega),x6 h1,x6 ⟨u5 _,by rw [List.length_take];omega⟩,t9 (by omega) (by omega),z7h ⟨0,0,0,0,[]⟩ l i hi]
  rfl
 have he:z1l l (l.take l.length,(l.length:Int))=none:=by
  unfold z1l
  simp only [x9]
  rw [if_neg (by omega)]
 have:=fun f=> zjd (α:=List Ex) (step:=z1l l) (f:=f) (fun i=> l.take i) l.length hstep he
 simp only [List.take_zero] at this
 rw [this]
 simp only [x9]
 rw [if_neg (by omega),x6 (by first | exact ⟨rfl,u5 _⟩ | exact ⟨trivial,u5 _⟩),List.take_length]
end Ab
end Go.Proofs.Ytpflcogplhigcaa
namespace Go.Proofs.Ytpflcogplhigcaa
open Go Go.Proofs.Ytpflcogplhigcaa.Ab
set_option linter.unusedVariables false
set_option linter.unusedSimpArgs false
namespace Ab
noncomputable def putB (out:List Ex) (y:Ex):Option (List Ex×List Ex):=
 (tb ((decide ((↑(List.length out):Int) > (0:Int))))
  (tp ((((0:Int)≤(wr ((↑(List.length out):Int) - (1:Int))))∧((wr ((↑(List.length out):Int) - (1:Int))) < (↑(List.length out):Int))))
   (tc (z64 ((z0 out (Int.toNat (wr ((↑(List.length out):Int) - (1:Int)))))) (y)) fun s13=>
    (tb ((s13.2==(0:Int)))
     (tp ((((List.length (xc s13.1))=(5:Nat))∧((((0:Nat)+((Int.toNat (wr ((↑(List.length out):Int) - (1:Int))))*(5:Nat)))+(List.length (xc s13.1)))≤(List.length (List.flatMap Ex.cells out)))))
      (some ((([]:List Ex),(List.set out (Int.toNat (wr ((↑(List.length out):Int) - (1:Int)))) s13.1)))))
     (tp ((((List.length (List.flatMap Ex.cells out))=((List.length out)*(5:Nat)))∧(((List.length out)+(1:Nat))≤(4294967296:Nat))))
      (some ((([]:List Ex),(out++[y]))))))))
  (tp ((((List.length (List.flatMap Ex.cells out))=((List.length out)*(5:Nat)))∧(((List.length out)+(1:Nat))≤(4294967296:Nat))))
   (some ((([]:List Ex),(out++[y]))))))
theorem z5n (out:List Ex) (y:Ex) (ho:out.length≤1000000):putB out y=some ([],add out y):=by
 unfold putB
 simp only [x9,z1u]
 by_cases h0:out=[]
 · subst h0
   rw [if_neg (by simp),x6 ⟨by simp,by simp⟩,zqx];rfl
 · have hl:0 < out.length:=List.length_pos_iff.2 h0
   have hw:wr ((out.length:Int) - 1)=((out.length - 1:Nat):Int):=by rw [t9 (by omega) (by omega)];omega
   rw [if_pos (by omega),hw,x6 (by omega),Int.toNat_natCast,zq0 out h0 _ rfl,zks,v6]
   by_cases hj:Jn (out.getLastD ⟨0,0,0,0,[]⟩) y
   · have e:jnv (out.getLastD ⟨0,0,0,0,[]⟩) y=(jnx (out.getLastD ⟨0,0,0,0,[]⟩) y,0):=if_pos hj
     rw [e,if_pos rfl,x6 ⟨rfl,by rw [u5];simp;omega⟩,zvo h0 hj,zd4 out h0 _ rfl]
   · have e:jnv (out.getLastD ⟨0,0,0,0,[]⟩) y=(⟨0,0,0,0,[]⟩,70):=if_neg hj
     rw [e,if_neg (by simp),x6 ⟨u5 _,by omega⟩,zsv hj]
section
variable (blocks : Int) (l : List Ex) (x : Ex) (s0 s2 : Bool)
theorem b1_eq (s5:Bool×Int×List Ex) (s8:Ex×Bool) (h:s5.2.2.length≤1000000):zdu blocks l x s0 s2 s5 s8=some ([],add s5.2.2 s8.1):=z5n s5.2.2 s8.1 h
theorem b2_eq (s5:Bool×Int×List Ex) (s8:Ex×Bool) (s10:List Ex×List Ex) (h:s10.2.length≤1000000):zdj blocks l x s0 s2 s5 s8 s10=some ([],add s10.2 x):=z5n s10.2 x h
theorem b3_eq (s5:Bool×Int×List Ex) (s8:Ex×Bool) (s10 s13:List Ex×List Ex) (s14:Ex×Bool) (h:s13.2.length≤1000000):ze6 blocks l x s0 s2 s5 s8 s10 s13 s14=some ([],add s13.2 s14.1):=z5n s13.2 s14.1 h
theorem b4_eq (s5:Bool×Int×List Ex) (s8:Ex×Bool) (s10:List Ex×List Ex) (s13:Ex×Bool) (h:s10.2.length≤1000000):zdq blocks l x s0 s2 s5 s8 s10 s13=some ([],add s10.2 s13.1):=z5n s10.2 s13.1 h
theorem b5_eq (s5:Bool×Int×List Ex) (s8:Ex×Bool) (s10:List Ex×List Ex) (s12:Ex×Bool) (h:s10.2.length≤1000000):ze9 blocks l x s0 s2 s5 s8 s10 s12=some ([],add s10.2 s12.1):=z5n s10.2 s12.1 h
theorem b6_eq (s5:Bool×Int×List Ex) (s8:Ex×Bool) (h:s5.2.2.length≤1000000):ze7 blocks l x s0 s2 s5 s8=some ([],add s5.2.2 x):=z5n s5.2.2 x h
theorem b7_eq (s5:Bool×Int×List Ex) (s8:Ex×Bool) (s12:List Ex×List Ex) (s13:Ex×Bool) (h:s12.2.length≤1000000):ze2 blocks l x s0 s2 s5 s8 s12 s13=some ([],add s12.2 s13.1):=z5n s12.2 s13.1 h
theorem b8_eq (s5:Bool×Int×List Ex) (s8 s12:Ex×Bool) (h:s5.2.2.length≤1000000):zdk blocks l x s0 s2 s5 s8 s12=some ([],add s5.2.2 s12.1):=z5n s5.2.2 s12.1 h
theorem b9_eq (s5:Bool×Int×List Ex) (s8 s11:Ex×Bool) (h:s5.2.2.length≤1000000):ze3 blocks l x s0 s2 s5 s8 s11=some ([],add s5.2.2 s11.1):=z5n s5.2.2 s11.1 h
theorem zxi (fl:Bool) (i:Nat) (out:List Ex) (hi:i < l.length) (hl:l.length≤1000000) (he:Ck (z0 l i)) (hx:Ck x) (ho:out.length≤900000):
 z25 blocks l x s0 s2 (fl,(i:Int),out)=some ((stp x (fl,out) (z0 l i)).1,(i:Int)+1,(stp x (fl,out) (z0 l i)).2):=by
 have px:=z08 hx
 have pe:=z08 he
 unfold z25
 simp only [x9,Int.toNat_natCast,zjh,v6,z26]
 have w1:wr ((i:Int)+1)=(i:Int)+1:=t9 (by omega) (by omega)
 have w2:wr (x.lba+x.len)=x.lba+x.len:=t9 (by omega) (by omega)
 have w3:wr ((z0 l i).lba+(z0 l i).len)=(z0 l i).lba+(z0 l i).len:=t9 (by omega) (by omega)
 simp only [w1,w2,w3]
 rw [if_pos (by omega),x6 (by omega)]
 clear w1 w2 w3
 generalize z0 l i=e at he pe⊢
 unfold stp F1 P1
 have a1:=zeb out (cu e 0 x.lba)
 have a2:=zeb out x
 have a3:=zeb (add out (cu e 0 x.lba)) x
 by_cases g1:Cu e 0 x.lba <;> by_cases g3:Cu e (x.lba+x.len) 64 <;> by_cases g2:e.lba+e.len > x.lba <;> cases fl
 all_goals
  simp only [zgo,zne,zk1,zjw,g1,g2,g3,not_false_eq_true,z68,zdf,if_true,if_false,decide_true,decide_false,Bool.true_or,Bool.false_or,Bool.or_false,Option.toList_some,Option.toList_none,List.nil_append,List.append_nil,List.cons_append,List.foldl_cons,List.foldl_nil,and_true,and_false,true_and,false_and,Bool.true_eq_false,reduceCtorEq]
 all_goals first
  | rfl
  | (first
      | (rw [b1_eq _ _ _ _ _ _ _ (by first | assumption | (simp only;omega))];simp only [v6])
      | (rw [b6_eq _ _ _ _ _ _ _ (by first | assumption | (simp only;omega))];simp only [v6])
      | (rw [b8_eq _ _ _ _ _ _ _ _ (by first | assumption | (simp only;omega))];simp only [v6];done)
      | (rw [b9_eq _ _ _ _ _ _ _ _ (by first | assumption | (simp only;omega))];simp only [v6];done)
      | skip)
    <;> (try (rw [b2_eq _ _ _ _ _ _ _ _ (by simp only;omega)];simp only [v6]))
    <;> (try (rw [b3_eq _ _ _ _ _ _ _ _ _ _ (by simp only;omega)];simp only [v6]))
    <;> (try (rw [b4_eq _ _ _ _ _ _ _ _ _ (by simp only;omega)];simp only [v6]))
    <;> (try (rw [b5_eq _ _ _ _ _ _ _ _ _ (by simp only;omega)];simp only [v6]))
    <;> (try (rw [b7_eq _ _ _ _ _ _ _ _ _ (by simp only;omega)];simp only [v6]))
end
end Ab
end Go.Proofs.Ytpflcogplhigcaa
namespace Go.Proofs.Ytpflcogplhigcaa
open Go Go.Proofs.Ytpflcogplhigcaa.Ab
set_option linter.unusedVariables false
set_option linter.unusedSimpArgs false
namespace Ab
theorem zo2 {blocks:Int} {l:List Ex} (h:Mk blocks l):∀x∈l,Ck x:=fun x hx=> (zcz (z89 h) x hx).1
theorem zjf {blocks:Int} {l:List Ex} (h:Mk blocks l):zgb l=some l:=
 zxm l (by have:=zc8 h;omega) fun x hx=> by have:=z43 (zo2 h x hx);omega
def z5j (blocks:Int) (x:Ex):Prop:=Ck x∧x.lba+x.len≤blocks
instance (blocks:Int) (x:Ex):Decidable (z5j blocks x):=by unfold z5j;infer_instance
def zjr (blocks:Int) (l:List Ex) (x:Ex):List Ex×Int:=if Mk blocks l then (if z5j blocks x then (put l x,0) else (l,81)) else ([],80)
theorem zzu (x:Ex) (fl:Bool) (e:Ex):(P1 x fl e).length≤3:=by
 unfold P1
 rw [List.length_append,List.length_append]
 have h:∀o:Option Ex,o.toList.length≤1:=fun o=> by cases o <;> simp
 have h1:=h (cut e 0 x.lba)
 have h2:=h (cut e (x.lba+x.len) 64)
 split <;> simp only [List.length_cons,List.length_nil] <;> omega
theorem zq2 (x:Ex):∀(l:List Ex) (p:Bool×List Ex),(l.foldl (stp x) p).2.length≤p.2.length+3*l.length
 | [],p=> by simp
 | e::l,p=> by
   have h1:=zq2 x l (stp x p e)
   have h2:=zai (P1 x p.1 e) p.2
   have h3:=zzu x p.1 e
   have h4:(stp x p e).2=(P1 x p.1 e).foldl add p.2:=rfl
   rw [h4] at h1
   rw [List.foldl_cons,List.length_cons];omega
theorem zsm (x:Ex) (l:List Ex) (i:Nat) (hi:i < l.length) (p:Bool×List Ex):(l.take (i+1)).foldl (stp x) p=stp x ((l.take i).foldl (stp x) p) (z0 l i):=by
 rw [z8j l i hi,List.foldl_append];rfl
theorem zjy (blocks:Int) (l:List Ex) (x:Ex) (hl:l.length≤4294967296):zpd blocks l x=some (zjr blocks l x):=by
 unfold zpd zjr
 rw [zbz _ _ (by omega),v6,z26]
 by_cases hm:Mk blocks l
 case neg=> rw [zuc hm,if_neg hm];rfl
 rw [mk_t hm,z68,if_pos hm,z2m,v6,z26]
 by_cases hx:Ck x
 case neg=> rw [zad hx,zdf,zjf hm,v6,if_neg fun h=> hx h.1]
 have px:=z08 hx
 have hlen:=zc8 hm
 rw [zce hx,z68,x9,t9 (x:=x.lba+x.len) (by omega) (by omega)]
 by_cases hf:x.lba+x.len > blocks
 · rw [if_pos hf,zjf hm,v6,if_neg fun h=> by have:=h.2;omega]
 rw [if_neg hf,if_pos (show z5j blocks x from ⟨hx,by omega⟩)]
 have hS:=fun (f:Bool×Int×List Ex→Option (List Ex×Int))=> z15 (f:=f) (step:=z25 blocks l x true true) (fun i=> (((l.take i).foldl (stp x) (false,[])).1,(i:Int),((l.take i).foldl (stp x) (false,[])).2)) l.length (fun i hi=> ?_) ?_
 rotate_left
 · have hb:=zq2 x (l.take i) (false,[])
   rw [List.length_take] at hb
   simp only [List.length_nil] at hb
   rw [zxi blocks l x true true _ i _ hi (by omega) (hm.2.1 i hi).1 hx (by omega),zsm _ _ _ hi]
   simp
 · unfold z25
   simp only [x9]
   rw [if_neg (by omega)]
 refine (hS _).trans ?_
 have hp:((l.take l.length).foldl (stp x) (false,[])).2=put l x:=by rw [List.take_length,zqg];rfl
 simp only [x9,hp]
 have hmk:=(z66 hm hx (by omega)).1
 rw [if_neg (by omega),x6 (by first | exact ⟨rfl,u5 _⟩ | exact ⟨trivial,u5 _⟩),zjf hmk,v6]
theorem zju {blocks:Int}:∀(o l:List Ex),Mk blocks l→(∀x∈o,z5j blocks x)→Mk blocks (o.foldl put l)
 | [],l,h,_=> h
 | x::o,l,h,hf=> by
   have h1:=hf x (by simp)
   exact zju o (put l x) (z66 h h1.1 h1.2).1 fun y hy=> hf y (by simp [hy])
end Ab
end Go.Proofs.Ytpflcogplhigcaa
namespace Go.Proofs.Ytpflcogplhigcaa
open Go Go.Proofs.Ytpflcogplhigcaa.Ab
set_option linter.unusedVariables false
set_option linter.unusedSimpArgs false
namespace Ab
def z9t (blocks:Int) (l o:List Ex):List Ex×Int:=if Mk blocks l then (if ∀x∈o,z5j blocks x then (o.foldl put l,0) else (l,81)) else ([],80)
theorem zmm (o l:List Ex) (i:Nat) (hi:i < o.length):(o.take (i+1)).foldl put l=put ((o.take i).foldl put l) (z0 o i):=by
 rw [z8j o i hi,List.foldl_append];rfl
theorem zn4 {o:List Ex} {n:Nat} {P:Ex→Prop} (hn:n≤o.length) (h:∀j,j < n→P (z0 o j)):∀x∈o.take n,P x:=by
 intro x hx
 obtain ⟨j,hj,e⟩:=List.getElem_of_mem hx
 rw [List.length_take] at hj
 rw [List.getElem_take] at e
 have:=h j (by omega)
 rw [←e]
 have e2:z0 o j=o[j]'(by omega):=by unfold z0;simp [show j < o.length by omega]
 rw [←e2];exact this
def zsc (l o:List Ex) (i:Nat):List Ex×Int:=((o.take (i+1)).foldl put l,((i+1:Nat):Int))
theorem zyw (l o:List Ex) (h:0 < o.length):zsc l o 0=(put l (z0 o 0),1):=by
 unfold zsc;rw [zmm o l 0 h];rfl
theorem zdg (blocks:Int) (l o:List Ex) (hl:l.length≤4294967296) (ho:o.length≤4294967296):zkt blocks l o=some (z9t blocks l o):=by
 unfold zkt z9t
 rw [zbz _ _ (by omega),v6,z26]
 by_cases hm:Mk blocks l
 case neg=> rw [zuc hm,if_neg hm];rfl
 rw [mk_t hm,z68,if_pos hm,zjf hm,v6,z1u]
 by_cases h0:o.length=0
 · have:o=[]:=List.eq_nil_of_length_eq_zero h0
   subst this
   rw [if_pos (show (0:Int)=(([]:List Ex).length:Int) from rfl),if_pos (by simp)];rfl
 rw [if_neg (by omega),zjy _ _ _ hl,v6,z1c]
 by_cases f0:z5j blocks (z0 o 0)
 case neg=>
  have e:zjr blocks l (z0 o 0)=(l,81):=by unfold zjr;rw [if_pos hm,if_neg f0]
  have hex:¬∀x∈o,z5j blocks x:=fun h=> f0 (h _ (by
   unfold z0;rw [List.getD_eq_getElem?_getD,List.getElem?_eq_getElem (by omega)];exact List.getElem_mem _))
  rw [e,if_neg (by simp),v6,if_neg hex]
 have e:zjr blocks l (z0 o 0)=(put l (z0 o 0),0):=by unfold zjr;rw [if_pos hm,if_pos f0]
 rw [e,if_pos rfl]
 have hQ:(∀i,i < o.length - 1→z5j blocks (z0 o (i+1)))↔∀x∈o,z5j blocks x:=by
  constructor
  · intro h
    have:=zn4 (o:=o) (n:=o.length) (P:=z5j blocks) (Nat.le_refl _) fun j hj=> by
     cases j with
     | zero=> exact f0
     | succ j=> exact h j (by omega)
    rwa [List.take_length] at this
  · intro h i hi
    refine h _ ?_
    unfold z0;rw [List.getD_eq_getElem?_getD,List.getElem?_eq_getElem (by omega)];exact List.getElem_mem _
 have hmk:∀i,i < o.length→(∀j,j < i→z5j blocks (z0 o (j+1)))→Mk blocks ((o.take (i+1)).foldl put l):=fun i hi h=> zju _ _ hm (zn4 (by omega) fun j hj=> by
  cases j with
  | zero=> exact f0
  | succ j=> exact h j (by omega))
 show th (z2b blocks l o true l (put l (z0 o 0),0)) (put l (z0 o 0),1) _=_
 rw [←zyw l o (by omega)]
 refine Eq.trans (zfc (some (l,81)) (some (o.foldl put l,0)) (zsc l o) (o.length - 1) (fun i=> z5j blocks (z0 o (i+1))) (∀x∈o,z5j blocks x) hQ (fun i hi hpre hp=> ?_) (fun i hi hpre hp=> ?_) (fun hall=> ?_)) ?_
 · have hk:=hmk i (by omega) hpre
   unfold z2b zsc
   simp only [z1u,z1c,Int.toNat_natCast]
   rw [if_neg (by omega),x6 (by omega),zjy _ _ _ (by have:=zc8 hk;omega),v6]
   unfold zjr
   rw [if_pos hk,if_pos hp,if_pos rfl,t9 (by omega) (by omega),zmm _ _ _ (show i+1 < o.length by omega)]
   simp
 · have hk:=hmk i (by omega) hpre
   have e2:zjr blocks ((o.take (i+1)).foldl put l) (z0 o (i+1))=((o.take (i+1)).foldl put l,81):=by unfold zjr;rw [if_pos hk,if_neg hp]
   unfold z2b zsc
   simp only [z1u,z1c,Int.toNat_natCast]
   rw [zjy _ _ _ (by have:=zc8 hk;omega),e2]
   simp only [v6]
   rw [if_neg (by omega),x6 (by omega),if_neg (by omega),if_neg (by omega),x6 (by omega)]
   exact ⟨rfl,rfl⟩
 · unfold z2b zsc
   simp only [z1u]
   rw [if_pos (by omega),if_pos (by omega),show o.length - 1+1=o.length by omega,List.take_length]
   exact ⟨rfl,rfl⟩
 · by_cases hall:∀x∈o,z5j blocks x
   · rw [if_pos hall,if_pos hall]
   · rw [if_neg hall,if_neg hall]
end Ab
end Go.Proofs.Ytpflcogplhigcaa
namespace Go.Proofs.Ytpflcogplhigcaa
open Go Go.Proofs.Ytpflcogplhigcaa.Ab
set_option linter.unusedVariables false
set_option linter.unusedSimpArgs false
namespace Ab
def gn (g:Int) (x:Ex):Ex:=⟨x.lba,x.len,x.kind,g,x.d⟩
def zgu (g:Int) (l:List Ex) (i:Nat):List Ex:=(l.take i).map (gn g)++l.drop i
theorem zsj (g:Int) (l:List Ex) (i:Nat) (hi:i≤l.length):(zgu g l i).length=l.length:=by simp [zgu];omega
theorem zwe (g:Int) (l:List Ex) (i:Nat) (hi:i < l.length):z0 (zgu g l i) i=z0 l i:=by
 have hl:((l.take i).map (gn g)).length=i:=by simp;omega
 unfold z0 zgu
 rw [List.getD_eq_getElem?_getD,List.getD_eq_getElem?_getD,List.getElem?_append_right (by omega),hl,List.getElem?_drop]
 simp
theorem zvb (g:Int) (l:List Ex) (i:Nat) (hi:i < l.length):(zgu g l i).set i (gn g (z0 l i))=zgu g l (i+1):=by
 have hl:((l.take i).map (gn g)).length=i:=by simp;omega
 unfold zgu
 rw [zb9 ⟨0,0,0,0,[]⟩ l i hi,List.set_append_right _ _ (by omega),hl,Nat.sub_self,List.set_cons_zero,z7h ⟨0,0,0,0,[]⟩ l i hi,List.map_append,List.append_assoc]
 rfl
noncomputable def genB (g:Int) (l:List Ex) (s7:Int×List Ex):Option (Int×List Ex):=
 (tb ((decide (s7.1 < (l.length:Int))))
  (tp (((0≤s7.1)∧(s7.1 < (l.length:Int))))
   (tp ((((List.length [(AV.i g)])=1)∧((((0+(s7.1.toNat*5))+3)+(List.length [(AV.i g)]))≤(List.length (List.flatMap Ex.cells s7.2)))))
    (some (((wr (s7.1+1)),(List.set s7.2 s7.1.toNat (Ex.mk (z0 s7.2 s7.1.toNat).lba (z0 s7.2 s7.1.toNat).len (z0 s7.2 s7.1.toNat).kind g (z0 s7.2 s7.1.toNat).d)))))))
  none)
theorem zag {α:Type} (g:Int) (l:List Ex) (hl:l.length≤4294967296) (f:Int×List Ex→Option α):th (genB g l) (0,l) f=f ((l.length:Int),l.map (gn g)):=by
 have h0:((0:Int),l)=(((0:Nat):Int),zgu g l 0):=by simp [zgu]
 rw [h0,z15 (step:=genB g l) (f:=f) (fun i=> ((i:Int),zgu g l i)) l.length]
 · simp [zgu]
 · intro i hi
   unfold genB
   simp only [x9,Int.toNat_natCast]
   rw [if_pos (by omega),x6 (by omega),x6 ⟨rfl,by rw [u5,zsj g l i (by omega)];simp;omega⟩,t9 (by omega) (by omega),zwe g l i hi]
   exact congrArg some (Prod.ext (by simp) (zvb g l i hi))
 · unfold genB
   simp only [x9]
   rw [if_neg (by omega)]
theorem th_ix {α β:Type} (l:List β) (d:β) (p:β→Bool) {step:Int→Option Int} {f:Int→Option α} (hs:∀i:Nat,i < l.length→p (l.getD i d)=false→step (i:Int)=some ((i:Int)+1)) (hf:∀i:Nat,i < l.length→p (l.getD i d)=true→step (i:Int)=none) (he:step (l.length:Int)=none):th step 0 f=f ((l.findIdx p:Nat):Int):=by
 have gd:∀i (hi:i < l.length),l.getD i d=l[i]:=fun i hi=> by simp [hi]
 have hle:l.findIdx p≤l.length:=List.findIdx_le_length
 have:=z15 (step:=step) (f:=f) (fun i=> (i:Int)) (l.findIdx p) (fun i hi=> hs i (by omega) (by
  rw [gd i (by omega)]
  have:=List.not_of_lt_findIdx hi
  simpa using this)) (by
  rcases Nat.lt_or_ge (l.findIdx p) l.length with g | g
  · exact hf _ g (by rw [gd _ g];exact List.findIdx_getElem (w:=g))
  · have:l.findIdx p=l.length:=by omega
    rw [this];exact he)
 simpa using this
def lyS (s:Sa) (o:List Ex):Sa×Int:=
 if (z9t s.blocks s.map (o.map (gn s.gen))).2=0 then (⟨s.blocks,s.gen,(z9t s.blocks s.map (o.map (gn s.gen))).1,s.points,s.last,s.staged⟩,0) else (s,(z9t s.blocks s.map (o.map (gn s.gen))).2)
def mkS (s:Sa) (id:Int):Sa×Int:=
 if id≤s.last then (s,112) else if s.points.length=4 then (s,113) else if s.gen=2147483647 then (s,113) else (⟨s.blocks,s.gen+1,s.map,s.points++[⟨id,s.gen,s.map⟩],id,s.staged⟩,0)
def ixP (l:List Po) (id:Int):Nat:=l.findIdx fun p=> p.id==id
def drS (s:Sa) (id:Int):Sa×Int:=
 if ixP s.points id < s.points.length then (⟨s.blocks,s.gen,s.map,s.points.take (ixP s.points id)++s.points.drop (ixP s.points id+1),s.last,s.staged⟩,0) else (s,111)
def stS (s:Sa) (d:List UInt8):Sa×Int:=
 if (d.length:Int) > 4000 - s.staged.length then (s,113) else (⟨s.blocks,s.gen,s.map,s.points,s.last,s.staged++d⟩,0)
def abS (s:Sa):Sa:=⟨s.blocks,s.gen,s.map,s.points,s.last,[]⟩
def apS (s:Sa) (c:Ch):Sa×Int:=
 if (lyS s c.list).2=0 then (if (mkS (lyS s c.list).1 c.id).2=0 then (abS (mkS (lyS s c.list).1 c.id).1,0) else (s,(mkS (lyS s c.list).1 c.id).2)) else (s,(lyS s c.list).2)
def doK (s:Sa) (c:Ch):Sa×Int:=
 if c.kind=1 then lyS s [⟨c.lba,c.n,2,0,c.d⟩] else if c.kind=2 then lyS s [⟨c.lba,c.n,1,0,[]⟩] else if c.kind=3 then lyS s [⟨c.lba,c.n,0,0,[]⟩] else
 if c.kind=4 then mkS s c.id else if c.kind=5 then drS s c.id else if c.kind=6 then stS s c.d else if c.kind=7 then (abS s,0) else apS s c
open Classical in
noncomputable def doS (s:Sa) (c:Ch):Sa×Int:=if SOk s then (if CkH c then doK s c else (s,100)) else (sa0,110)
theorem zg3 {s:Sa} {c:Ch} (h:SOk s) (hc:CkH c):doS s c=doK s c:=by unfold doS;rw [if_pos h,if_pos hc]
theorem z88 {s:Sa} {c:Ch} (h:SOk s) (hc:¬CkH c):doS s c=(s,100):=by unfold doS;rw [if_pos h,if_neg hc]
theorem zv0 {s:Sa} {c:Ch} (h:¬SOk s):doS s c=(sa0,110):=by unfold doS;rw [if_neg h]
def Hz (c:Ch):Prop:=c.d.length≤1000000∧Sx c.list
theorem mk_sx {b:Int} {l:List Ex} (h:Mk b l):Sx l:=⟨by have:=zc8 h;omega,fun x hx=> by have:=z43 (zo2 h x hx);omega⟩
theorem zdo {b:Int} {m o:List Ex} (h:(z9t b m o).2=0):Sx (z9t b m o).1∧Mk b m∧(∀x∈o,z5j b x)∧(z9t b m o).1=o.foldl put m:=by
 unfold z9t at h⊢
 by_cases h1:Mk b m
 · by_cases h2:∀x∈o,z5j b x
   · rw [if_pos h1,if_pos h2];exact ⟨mk_sx (zju o m h1 h2),h1,h2,rfl⟩
   · rw [if_pos h1,if_neg h2] at h;cases h
 · rw [if_neg h1] at h;cases h
theorem zjs {s:Sa} (h:Sz s) (o:List Ex):Sz (lyS s o).1:=by
 unfold lyS
 split
 · rename_i h0;exact ⟨(zdo h0).1,h.2.1,h.2.2.1,h.2.2.2⟩
 · exact h
theorem zzp {s:Sa} {c:Ch} (hz:Sz s) (hc:Hz c):sDo s c=some (doS s c):=by
 unfold sDo
 rw [z9b hz,v6,z1c]
 by_cases hs:SOk s
 case neg=> rw [zh0 hs,if_neg (by omega),zv0 hs];rfl
 rw [zur hs,if_pos rfl,zid c (by have:=hc.2.1;omega),v6,z26,x9]
 simp only [zgl hz,zpz hs,v6,x9,z1u]
 by_cases hk:CkH c
 case neg=> rw [if_neg hk,z88 hs hk,x6 ⟨trivial,u5 _⟩]
 rw [if_pos hk,zg3 hs hk]
 have kk:=z6w hk
 have hone:∀x:Ex,x.d.length≤1000000→Sx [x]:=fun x hx=> by
  refine ⟨by simp,fun y hy=> ?_⟩
  have e:y=x:=by simpa using hy
  rw [e];exact hx
 have hw:wr (s.gen+1)=s.gen+1:=by have:=hs;unfold SOk at this;exact t9 (by omega) (by omega)
 unfold doK
 by_cases k1:c.kind=1
 · rw [if_pos (by omega),if_pos k1,z23 (hone _ hc.1),v6]
   refine (zag s.gen _ (by simp) _).trans ?_
   rw [if_neg (by simp),x6 ⟨trivial,u5 _⟩,x6 ⟨trivial,by rw [u5];simp⟩,zdg _ _ _ (by have:=hz.1.1;omega) (by simp),v6]
   unfold lyS
   show (if (z9t s.blocks s.map (List.map (gn s.gen) [_])).2=0 then _ else _)=_
   split <;> rfl
 rw [if_neg (by omega),if_neg k1]
 by_cases k2:c.kind=2
 · rw [if_pos (by omega),if_pos k2,z23 (hone _ (by simp)),v6]
   refine (zag s.gen _ (by simp) _).trans ?_
   rw [if_neg (by simp),x6 ⟨trivial,u5 _⟩,x6 ⟨trivial,by rw [u5];simp⟩,zdg _ _ _ (by have:=hz.1.1;omega) (by simp),v6]
   unfold lyS
   show (if (z9t s.blocks s.map (List.map (gn s.gen) [_])).2=0 then _ else _)=_
   split <;> rfl
 rw [if_neg (by omega),if_neg k2]
 by_cases k3:c.kind=3
 · rw [if_pos (by omega),if_pos k3,z23 (hone _ (by simp)),v6]
   refine (zag s.gen _ (by simp) _).trans ?_
   rw [if_neg (by simp),x6 ⟨trivial,u5 _⟩,x6 ⟨trivial,by rw [u5];simp⟩,zdg _ _ _ (by have:=hz.1.1;omega) (by simp),v6]
   unfold lyS
   show (if (z9t s.blocks s.map (List.map (gn s.gen) [_])).2=0 then _ else _)=_
   split <;> rfl
 rw [if_neg (by omega),if_neg k3]
 have hpl:∀l:List Ex,(List.length ((List.flatMap Po.cells s.points)++[(AV.i c.id),(AV.i s.gen),(AV.rf 9 5 0 l.length)]))=(s.points.length+1)*3:=fun l=> by rw [List.length_append,z0r];simp;omega
 by_cases k4:c.kind=4
 · rw [if_pos (by omega),if_pos k4]
   unfold mkS
   by_cases h1:c.id≤s.last
   · rw [if_pos h1,if_pos h1,x6 ⟨trivial,u5 _⟩]
   rw [if_neg h1,if_neg h1]
   by_cases h2:s.points.length=4
   · rw [if_pos (by omega),if_pos h2,x6 ⟨trivial,u5 _⟩]
   rw [if_neg (by omega),if_neg h2]
   by_cases h3:s.gen=2147483647
   · rw [if_pos h3,if_pos h3,x6 ⟨trivial,u5 _⟩]
   rw [if_neg h3,if_neg h3,x6 ⟨trivial,u5 _⟩,z23 hz.1,v6,x6 ⟨z0r _,by have:=hz.2.1;omega⟩,x6 ⟨trivial,by first | exact hpl _ | (rw [List.length_append,z0r];simp;omega)⟩,hw,List.take_length]
 rw [if_neg (by omega),if_neg k4]
 by_cases k5:c.kind=5
 · rw [if_pos (by omega),if_pos k5]
   have hp:=hz.2.1
   refine (th_ix s.points ⟨0,0,[]⟩ (fun p=> p.id==c.id) ?_ ?_ ?_).trans ?_
   · intro i hi hp
     unfold z3x
     have hp':¬(v9 s.points i).id=c.id:=by simpa [v9] using hp
     simp only [x9,z1u,Int.toNat_natCast]
     rw [if_pos (by omega),x6 (by omega),if_neg hp',t9 (by omega) (by omega)]
   · intro i hi hp
     unfold z3x
     have hp':(v9 s.points i).id=c.id:=by simpa [v9] using hp
     simp only [x9,z1u,Int.toNat_natCast]
     rw [if_pos (by omega),x6 (by omega),if_pos hp']
   · unfold z3x
     simp only [x9]
     rw [if_neg (by omega)]
   · have hle:ixP s.points c.id≤s.points.length:=List.findIdx_le_length
     have hix:List.findIdx (fun p=> p.id==c.id) s.points=ixP s.points c.id:=rfl
     rw [hix]
     simp only [Int.toNat_natCast]
     unfold drS
     by_cases h:ixP s.points c.id < s.points.length
     · have hid:(v9 s.points (ixP s.points c.id)).id=c.id:=by
        have:=List.findIdx_getElem (p:=fun p:Po=> p.id==c.id) (w:=h)
        unfold v9
        rw [List.getD_eq_getElem?_getD,List.getElem?_eq_getElem h]
        exact eq_of_beq this
       rw [if_pos (by omega),if_pos h,x6 (by omega),if_pos hid,if_neg (by omega),x6 (by omega),x6 (z0r _),x6 (t9 (by omega) (by omega)),x6 ⟨trivial,u5 _⟩,x6 ⟨trivial,by rw [z0r];simp;omega⟩]
     · rw [if_neg (by omega),if_neg h,x6 ⟨trivial,u5 _⟩]
 rw [if_neg (by omega),if_neg k5]
 by_cases k6:c.kind=6
 · have h4:wr (4000 - (s.staged.length:Int))=4000 - (s.staged.length:Int):=t9 (by have:=hz.2.2.2;omega) (by omega)
   rw [if_pos (by omega),if_pos k6,h4]
   unfold stS
   by_cases h1:(c.d.length:Int) > 4000 - (s.staged.length:Int)
   · rw [if_pos h1,if_pos h1,x6 ⟨trivial,u5 _⟩]
   · rw [if_neg h1,if_neg h1,x6 ⟨by simp,by have:=hz.2.2.2;have:=hc.1;omega⟩,x6 ⟨trivial,u5 _⟩]
 rw [if_neg (by omega),if_neg k6]
 by_cases k7:c.kind=7
 · rw [if_pos (by omega),if_pos k7,x6 ⟨trivial,u5 _⟩]
   rfl
 rw [if_neg (by omega),if_neg k7,if_pos (by omega),z23 hc.2,v6]
 refine (zag s.gen _ (by have:=hc.2.1;omega) _).trans ?_
 rw [if_neg (by simp),x6 ⟨trivial,u5 _⟩,x6 ⟨trivial,by rw [u5];simp⟩,zdg _ _ _ (by have:=hz.1.1;omega) (by simp;have:=hc.2.1;omega),v6]
 unfold apS lyS
 show (if (z9t s.blocks s.map (List.map (gn s.gen) c.list)).2=0 then _ else _)=_
 by_cases h0:(z9t s.blocks s.map (c.list.map (gn s.gen))).2=0
 case neg=> rw [if_neg h0,if_neg h0,if_neg h0]
 rw [if_pos h0,if_pos h0,if_pos rfl]
 unfold mkS
 simp only
 by_cases h1:c.id≤s.last
 · rw [if_pos h1,if_pos h1];rfl
 rw [if_neg h1,if_neg h1]
 by_cases h2:s.points.length=4
 · rw [if_pos (by omega),if_pos h2];rfl
 rw [if_neg (by omega),if_neg h2]
 by_cases h3:s.gen=2147483647
 · rw [if_pos h3,if_pos h3];rfl
 rw [if_neg h3,if_neg h3,z23 (zdo h0).1,v6,x6 ⟨z0r _,by have:=hz.2.1;omega⟩,x6 ⟨trivial,by rw [List.length_append,z0r];simp;omega⟩,hw,List.take_length]
 rfl
theorem zzd {s:Sa} {c:Ch} (hz:Sz s) (hc:Hz c):Sz (doS s c).1:=by
 by_cases hs:SOk s
 case neg=> rw [zv0 hs];exact ⟨⟨by simp [sa0],fun x hx=> by cases hx⟩,by simp [sa0],fun p hp=> (by cases hp),by simp [sa0]⟩
 by_cases hk:CkH c
 case neg=> rw [z88 hs hk];exact hz
 rw [zg3 hs hk]
 have h4:s.points.length≤4∧s.staged.length≤4000:=by unfold SOk at hs;omega
 have hm:∀(s':Sa) (id:Int),Sz s'→s'.points=s.points→Sz (mkS s' id).1:=by
  intro s' id h' e
  unfold mkS
  split
  · exact h'
  split
  · exact h'
  split
  · exact h'
  · refine ⟨h'.1,by simp [e];omega,fun p hp=> ?_,h'.2.2.2⟩
    simp only [List.mem_append,List.mem_singleton] at hp
    rcases hp with hp | rfl
    · exact h'.2.2.1 p hp
    · exact h'.1
 unfold doK
 split
 · exact zjs hz _
 split
 · exact zjs hz _
 split
 · exact zjs hz _
 split
 · exact hm s _ hz rfl
 split
 · unfold drS
   split
   · refine ⟨hz.1,by simp;omega,fun p hp=> ?_,hz.2.2.2⟩
     simp only [List.mem_append] at hp
     rcases hp with hp | hp
     · exact hz.2.2.1 p (List.mem_of_mem_take hp)
     · exact hz.2.2.1 p (List.mem_of_mem_drop hp)
   · exact hz
 split
 · unfold stS
   split
   · exact hz
   · exact ⟨hz.1,hz.2.1,hz.2.2.1,by simp;omega⟩
 split
 · exact ⟨hz.1,hz.2.1,hz.2.2.1,by simp [abS]⟩
 · unfold apS
   have hl:(lyS s c.list).1.points=s.points:=by unfold lyS;split <;> rfl
   split
   · split
     · have:=hm _ c.id (zjs hz c.list) hl
       exact ⟨this.1,this.2.1,this.2.2.1,by simp [abS]⟩
     · exact hz
   · exact hz
end Ab
end Go.Proofs.Ytpflcogplhigcaa
namespace Go.Proofs.Ytpflcogplhigcaa
open Go Go.Proofs.Ytpflcogplhigcaa.Ab
set_option linter.unusedVariables false
set_option linter.unusedSimpArgs false
namespace Ab
theorem zx5 {blocks:Int} {l:List Ex} (h:Mk blocks l) {o:List Ex} (ho:∀x∈o,x∈l):(∀x∈o,z5j blocks x)∧(∀x∈o,∀y∈o,∀k,x.lba≤k→k < x.lba+x.len→y.lba≤k→k < y.lba+y.len→bAt x k=bAt y k):=by
 refine ⟨fun x hx=> ⟨zo2 h x (ho x hx),?_⟩,fun x hx y hy k a1 a2 b1 b2=> ?_⟩
 · have hg:=zu5 (z89 h) x (ho x hx)
   have h3:=h.2.2
   omega
 · exact zpj (z89 h) (k:=k) ⟨x,ho x hx,a1,a2,rfl⟩ ⟨y,ho y hy,b1,b2,rfl⟩
def new (blocks:Int):List Ex:=[⟨0,blocks,0,0,[]⟩]
theorem y11 {blocks:Int} (h:1≤blocks∧blocks≤64):Mk blocks (new blocks):=by
 refine zy7 (l:=new blocks) ⟨?_,rfl,(by intro y hy;cases hy),trivial⟩ (by simp [new,sl]) h.1
 refine ⟨by simp,by simp,by simp only;omega,by simp only;omega,by simp,by simp,by simp,by simp,by simp,by simp⟩
end Ab
end Go.Proofs.Ytpflcogplhigcaa
namespace Go.Proofs.Ytpflcogplhigcaa
open Go Go.Proofs.Ytpflcogplhigcaa.Ab
set_option linter.unusedVariables false
set_option linter.unusedSimpArgs false
namespace Ab
def s1 (b:Int):Sa:=⟨b,1,new b,[],0,[]⟩
theorem nw_eq {b:Int} (h:1≤b∧b≤64):nw b=(s1 b,0):=by unfold nw;rw [if_pos h];rfl
theorem s1_ok {b:Int} (h:1≤b∧b≤64):SOk (s1 b):=by
 refine ⟨⟨y11 h,fun x hx=> ?_⟩,by simp [s1],by simp [s1],by simp [s1],by simp [s1],by simp [s1],by simp [s1],fun i hi=> by simp [s1] at hi,y03 _ _⟩
 have:x=⟨0,b,0,0,[]⟩:=by simpa [s1,new] using hx
 rw [this];simp [s1]
theorem s1_sz (b:Int):Sz (s1 b):=⟨⟨by simp [s1,new],fun x hx=> by
 have:x=⟨0,b,0,0,[]⟩:=by simpa [s1,new] using hx
 rw [this];simp⟩,by simp [s1],fun p hp=> (by simp [s1] at hp),by simp [s1]⟩
theorem zho {s:Sa} {d:List UInt8} (h:SOk s) (hd:d.length≤4000):SOk ⟨s.blocks,s.gen,s.map,s.points,s.last,d⟩:=by
 obtain ⟨h1,h2,h3,h4,h5,h6,h7,h8,h9⟩:=h
 exact ⟨h1,h2,h3,h4,h5,h6,hd,h8,h9⟩
end Ab
end Go.Proofs.Ytpflcogplhigcaa
namespace Go.Proofs.Ytpflcogplhigcaa
open Go Go.Proofs.Ytpflcogplhigcaa.Ab
set_option linter.unusedVariables false
set_option linter.unusedSimpArgs false
namespace Ab
theorem zsr {b:Int} {A B C:List Ex} {g h:Int} (hB:Mk b B) (hC:Mk b C) (hg:g≤h) (h1:Kp A B g) (h2:Kp B C h):Kp A C g:=by
 intro x hx hxg y hy k k1 k2 k3 k4
 have hsub:∀z∈[x],z∈C:=fun z hz=> by
  have e:z=x:=by simpa using hz
  rw [e];exact hx
 have fx:=(zx5 hC hsub).1 x (by simp)
 have px:=z08 fx.1
 obtain ⟨z,hz,q1,q2⟩:=zsq (z89 hB) (k:=k) (by omega) (by have:=hB.2.2;have:=fx.2;omega)
 have e1:=h2 x hx (by omega) z hz k k1 k2 q1 q2
 have e2:x.gen=z.gen:=congrArg (fun c:Int×Int×List UInt8=> c.2.1) e1
 exact e1.trans (h1 z hz (by omega) y hy k q1 q2 k3 k4)
theorem zvq {s:Sa} (h:SOk s) {i:Nat}:∀j,i < j→j < s.points.length→(v9 s.points i).id < (v9 s.points j).id
 | 0,hij,_=> by omega
 | j+1,hij,hj=> by
   have hp:=(h.2.2.2.2.2.2.2.1 (j+1) hj).2.1
   rw [z1q] at hp
   rcases Nat.lt_or_ge i j with g | g
   · have:=zvq h j g (by omega);omega
   · have:i=j:=by omega
     subst this;exact hp
def rmS (s:Sa) (k:Nat):Sa:=⟨s.blocks,s.gen,s.map,s.points.take k++s.points.drop (k+1),s.last,s.staged⟩
theorem zzi {s:Sa} {k:Nat} (hk:k < s.points.length):(rmS s k).points.length=s.points.length - 1:=by simp [rmS];omega
theorem zyk {s:Sa} {k:Nat} (hk:k < s.points.length) (i:Nat):v9 (rmS s k).points i=if i < k then v9 s.points i else v9 s.points (i+1):=by
 have hl:(s.points.take k).length=k:=by simp;omega
 unfold v9 rmS
 simp only [List.getD_eq_getElem?_getD]
 by_cases h:i < k
 · rw [if_pos h,List.getElem?_append_left (by omega),List.getElem?_take,if_pos h]
 · rw [if_neg h,List.getElem?_append_right (by omega),hl,List.getElem?_drop,show k+1+(i - k)=i+1 by omega]
theorem zy1 {s:Sa} {k:Nat} (hk:k < s.points.length) (i:Nat):pv (rmS s k) i=if i≤k then pv s i else pv s (i+1):=by
 cases i with
 | zero=> simp [pv]
 | succ i=>
   rw [z1q,zyk hk,z1q,z1q]
   by_cases h:i < k
   · rw [if_pos h,if_pos (by omega)]
   · rw [if_neg h,if_neg (by omega)]
theorem zym {s:Sa} (h:SOk s) {k:Nat} (hk:k < s.points.length) {C:List Ex} (hC:Mk s.blocks C) (h2:Kp (pv s (k+1)).map C (pv s (k+1)).gen):Kp (pv s k).map C (pv s k).gen:=by
 have hp:=h.2.2.2.2.2.2.2.1 k hk
 rw [z1q] at h2
 exact zsr hp.1.1 hC (by have:=hp.2.2.2.1;omega) hp.2.2.2.2.2 h2
theorem rm_ok {s:Sa} (h:SOk s) {k:Nat} (hk:k < s.points.length):SOk (rmS s k):=by
 have hlen:=zzi hk
 have h4:=h.2.2.2.1
 refine ⟨h.1,h.2.1,h.2.2.1,by omega,h.2.2.2.2.1,h.2.2.2.2.2.1,h.2.2.2.2.2.2.1,fun i hi=> ?_,?_⟩
 · rw [hlen] at hi
   unfold PP
   rw [zyk hk,zy1 hk]
   by_cases h1:i < k
   · rw [if_pos h1,if_pos (by omega)]
     exact h.2.2.2.2.2.2.2.1 i (by omega)
   rw [if_neg h1]
   have hp:=h.2.2.2.2.2.2.2.1 (i+1) (by omega)
   by_cases h2:i≤k
   · have:i=k:=by omega
     subst this
     rw [if_pos (Nat.le_refl _)]
     have hq:=h.2.2.2.2.2.2.2.1 i hk
     have e:pv s (i+1)=v9 s.points i:=z1q s i
     refine ⟨hp.1,?_,hp.2.2.1,?_,hp.2.2.2.2.1,zym h hk hp.1.1 hp.2.2.2.2.2⟩
     · have:=hp.2.1;have:=hq.2.1;rw [e] at*;omega
     · have:=hp.2.2.2.1;have:=hq.2.2.2.1;rw [e] at*;omega
   · rw [if_neg h2];exact hp
 · rw [hlen,zy1 hk]
   have hf:=h.2.2.2.2.2.2.2.2
   by_cases h1:s.points.length - 1≤k
   · rw [if_pos h1]
     have e:s.points.length=k+1:=by omega
     rw [show s.points.length - 1=k by omega]
     rw [e] at hf
     exact zym h hk h.1.1 hf
   · rw [if_neg h1,show s.points.length - 1+1=s.points.length by omega];exact hf
theorem zvw (l:List Po) {i:Nat} (h:i < l.length):v9 l i=l[i]:=by simp [v9,h]
theorem zyi {s:Sa} (h:SOk s) {k:Nat} (hk:k < s.points.length):pnt s (v9 s.points k).id=(v9 s.points k,0):=by
 unfold pnt
 rw [if_pos h]
 have:fd s.points (v9 s.points k).id=some (v9 s.points k):=by
  unfold fd
  rw [List.find?_eq_some_iff_getElem]
  refine ⟨beq_self_eq_true _,k,hk,(zvw _ hk).symm,fun j hj=> ?_⟩
  have:=zvq h k hj hk
  rw [←zvw s.points (by omega:j < s.points.length)]
  simp only [Bool.not_eq_true',beq_eq_false_iff_ne]
  omega
 rw [this];rfl
end Ab
end Go.Proofs.Ytpflcogplhigcaa
namespace Go.Proofs.Ytpflcogplhigcaa
open Go Go.Proofs.Ytpflcogplhigcaa.Ab
set_option linter.unusedVariables false
set_option linter.unusedSimpArgs false
namespace Ab
theorem zir {l:List Ex} {x:Ex} (hx:x∈l) {k:Int} (h1:x.lba≤k) (h2:k < x.lba+x.len):Den l k (bAt x k):=⟨x,hx,h1,h2,rfl⟩
theorem zys {b g:Int} {m:List Ex} {y:Ex} (h:Up b m g) (hy:z5j b y) (hg:y.gen≤g):Up b (put m y) g:=by
 obtain ⟨p1,p2⟩:=z66 h.1 hy.1 hy.2
 refine ⟨p1,fun x hx=> ?_⟩
 have px:=z08 ((zcz (z89 p1) x hx).1)
 have hd:=zir hx (k:=x.lba) (by omega) (by omega)
 rcases (p2 _ _).1 hd with ⟨_,z,hz,_,_,e⟩ | ⟨_,_,e⟩
 · have:x.gen=z.gen:=congrArg (fun c:Int×Int×List UInt8=> c.2.1) e
   rw [this];exact h.2 z hz
 · have:x.gen=y.gen:=congrArg (fun c:Int×Int×List UInt8=> c.2.1) e
   omega
theorem zz1 {b g:Int} {was m:List Ex} {y:Ex} (h:Mk b m) (hy:z5j b y) (hg:g < y.gen) (hk:Kp was m g):Kp was (put m y) g:=by
 obtain ⟨p1,p2⟩:=z66 h hy.1 hy.2
 intro x hx hxg w hw k k1 k2 k3 k4
 rcases (p2 _ _).1 (zir hx k1 k2) with ⟨_,z,hz,q1,q2,e⟩ | ⟨_,_,e⟩
 · have e2:x.gen=z.gen:=congrArg (fun c:Int×Int×List UInt8=> c.2.1) e
   exact e.trans (hk z hz (by omega) w hw k q1 q2 k3 k4)
 · have:x.gen=y.gen:=congrArg (fun c:Int×Int×List UInt8=> c.2.1) e
   omega
theorem zq8 {b G:Int}:∀(o m:List Ex),Up b m G→(∀x∈o,z5j b x)→(∀x∈o,x.gen=G)→Up b (o.foldl put m) G
 | [],m,h,_,_=> h
 | y::o,m,h,ho,hg=> zq8 o _ (zys h (ho y (by simp)) (Int.le_of_eq (hg y (by simp)))) (fun x hx=> ho x (by simp [hx])) fun x hx=> hg x (by simp [hx])
theorem zqz {b G g:Int} {was:List Ex} (hG:g < G):∀(o m:List Ex),Mk b m→(∀x∈o,z5j b x)→(∀x∈o,x.gen=G)→Kp was m g→Kp was (o.foldl put m) g
 | [],m,_,_,_,h=> h
 | y::o,m,hm,ho,hg,h=> zqz hG o _ ((z66 hm (ho y (by simp)).1 (ho y (by simp)).2).1) (fun x hx=> ho x (by simp [hx])) (fun x hx=> hg x (by simp [hx])) (zz1 hm (ho y (by simp)) (by rw [hg y (by simp)];exact hG) h)
theorem znv {g:Int} {o:List Ex}:∀x∈o.map (gn g),x.gen=g:=by
 intro x hx
 obtain ⟨y,_,rfl⟩:=List.mem_map.1 hx
 rfl
theorem zi6 {s:Sa} (h:SOk s):(pv s s.points.length).gen < s.gen:=by
 rcases Nat.eq_zero_or_pos s.points.length with g | g
 · rw [g];have:=h.2.1;simp [pv];omega
 · obtain ⟨j,hj⟩:∃j,s.points.length=j+1:=⟨s.points.length - 1,by omega⟩
   rw [hj,z1q]
   exact (h.2.2.2.2.2.2.2.1 j (by omega)).2.2.2.2.1
theorem zvp {s:Sa} (h:SOk s):(pv s s.points.length).id≤s.last:=by
 rcases Nat.eq_zero_or_pos s.points.length with g | g
 · rw [g];have:=h.2.2.2.2.1;simp [pv];omega
 · obtain ⟨j,hj⟩:∃j,s.points.length=j+1:=⟨s.points.length - 1,by omega⟩
   rw [hj,z1q]
   exact (h.2.2.2.2.2.2.2.1 j (by omega)).2.2.1
theorem zyy {s:Sa} {m:List Ex} (h:SOk s) (h1:Up s.blocks m s.gen) (h2:Kp (pv s s.points.length).map m (pv s s.points.length).gen):SOk ⟨s.blocks,s.gen,m,s.points,s.last,s.staged⟩:=by
 obtain ⟨_,a2,a3,a4,a5,a6,a7,a8,_⟩:=h
 exact ⟨h1,a2,a3,a4,a5,a6,a7,a8,h2⟩
theorem zps {s:Sa} (h:SOk s) (o:List Ex):SOk (lyS s o).1:=by
 unfold lyS
 split
 · rename_i h0
   obtain ⟨_,q1,q2,q3⟩:=zdo h0
   rw [q3]
   exact zyy h (zq8 _ _ h.1 q2 znv) (zqz (zi6 h) _ _ h.1.1 q2 znv h.2.2.2.2.2.2.2.2)
 · exact h
theorem zw0 {b:Int} {m:List Ex} (h:Mk b m) (g:Int):Kp m m g:=fun x hx _ y hy k k1 k2 k3 k4=> zpj (z89 h) (zir hx k1 k2) (zir hy k3 k4)
theorem zqb {l:List Po} {p:Po} {i:Nat} (hi:i < l.length):v9 (l++[p]) i=v9 l i:=by
 unfold v9;simp only [List.getD_eq_getElem?_getD];rw [List.getElem?_append_left hi]
theorem zpw (l:List Po) (p:Po):v9 (l++[p]) l.length=p:=by
 unfold v9;simp
def adS (s:Sa) (id:Int):Sa:=⟨s.blocks,s.gen+1,s.map,s.points++[⟨id,s.gen,s.map⟩],id,s.staged⟩
theorem zqo {s:Sa} {id:Int} {i:Nat} (hi:i≤s.points.length):pv (adS s id) i=pv s i:=by
 cases i with
 | zero=> simp [pv]
 | succ i=> rw [z1q,z1q];exact zqb (by omega)
theorem ad_ok {s:Sa} (h:SOk s) {id:Int} (h1:¬id≤s.last) (h2:¬s.points.length=4) (h3:¬s.gen=2147483647) (h4:id≤2147483647):SOk (adS s id):=by
 obtain ⟨a1,a2,a3,a4,a5,a6,a7,a8,a9⟩:=h
 have hlt:=zi6 ⟨a1,a2,a3,a4,a5,a6,a7,a8,a9⟩
 have hid:=zvp ⟨a1,a2,a3,a4,a5,a6,a7,a8,a9⟩
 have hl:(adS s id).points.length=s.points.length+1:=by simp [adS]
 refine ⟨⟨a1.1,fun x hx=> by have:=a1.2 x hx;show x.gen≤s.gen+1;omega⟩,by show 1≤s.gen+1;omega,by show s.gen+1≤_;omega,by omega,by show 0≤id;omega,h4,a7,fun i hi=> ?_,?_⟩
 · rw [hl] at hi
   unfold PP
   by_cases g:i < s.points.length
   · have hp:=a8 i g
     rw [show (adS s id).points=s.points++[⟨id,s.gen,s.map⟩] from rfl,zqb g,zqo (by omega)]
     exact ⟨hp.1,hp.2.1,by have:=hp.2.2.1;show _≤id;omega,hp.2.2.2.1,by have:=hp.2.2.2.2.1;show _ < s.gen+1;omega,hp.2.2.2.2.2⟩
   · have e:i=s.points.length:=by omega
     subst e
     rw [show (adS s id).points=s.points++[⟨id,s.gen,s.map⟩] from rfl,zpw,zqo (Nat.le_refl _)]
     exact ⟨a1,by show _ < id;omega,Int.le_refl _,hlt,by show s.gen < s.gen+1;omega,a9⟩
 · rw [hl,z1q,show (adS s id).points=s.points++[⟨id,s.gen,s.map⟩] from rfl,zpw]
   exact zw0 a1.1 _
theorem zyn {s:Sa} (h:SOk s) {id:Int} (h4:id≤2147483647):SOk (mkS s id).1:=by
 unfold mkS
 split
 · exact h
 split
 · exact h
 split
 · exact h
 · rename_i h1 h2 h3
   exact ad_ok h h1 h2 h3 h4
theorem dr_ok {s:Sa} (h:SOk s) (id:Int):SOk (drS s id).1:=by
 unfold drS
 split
 · rename_i h1;exact rm_ok h h1
 · exact h
theorem st_ok {s:Sa} (h:SOk s) (d:List UInt8):SOk (stS s d).1:=by
 unfold stS
 split
 · exact h
 · rename_i h1
   exact zho h (by simp;omega)
theorem zya {s:Sa} (h:SOk s):SOk (abS s):=zho h (by simp)
theorem do_ok {s:Sa} {c:Ch} (h:SOk s) (hc:CkH c):SOk (doK s c).1:=by
 have kk:=z6w hc
 unfold doK
 split
 · exact zps h _
 split
 · exact zps h _
 split
 · exact zps h _
 split
 · rename_i k4;exact zyn h (((zyb k4).1 hc).2.1.2)
 split
 · exact dr_ok h _
 split
 · exact st_ok h _
 split
 · exact zya h
 · have k8:c.kind=8:=by omega
   unfold apS
   split
   · split
     · exact zya (zyn (zps h _) (((zmn k8).1 hc).2.1.2))
     · exact h
   · exact h
theorem zjt {s:Sa} (h:SOk s) (c:Ch):SOk (doS s c).1:=by
 by_cases hc:CkH c
 · rw [zg3 h hc];exact do_ok h hc
 · rw [z88 h hc];exact h
theorem z7w {s:Sa} (h:SOk s) (c:Ch):(doS s c).1.blocks=s.blocks:=by
 by_cases hc:CkH c
 case neg=> rw [z88 h hc]
 rw [zg3 h hc]
 have hl:∀o,(lyS s o).1.blocks=s.blocks:=fun o=> by unfold lyS;split <;> rfl
 have hm:∀(t:Sa) id,(mkS t id).1.blocks=t.blocks:=fun t id=> by
  unfold mkS
  split
  · rfl
  split
  · rfl
  split <;> rfl
 unfold doK
 split
 · exact hl _
 split
 · exact hl _
 split
 · exact hl _
 split
 · exact hm _ _
 split
 · unfold drS;split <;> rfl
 split
 · unfold stS;split <;> rfl
 split
 · rfl
 · unfold apS
   split
   · split
     · show (mkS _ _).1.blocks=_;rw [hm,hl]
     · rfl
   · rfl
end Ab
end Go.Proofs.Ytpflcogplhigcaa
namespace Go.Proofs.Ytpflcogplhigcaa
open Go Go.Proofs.Ytpflcogplhigcaa.Ab
set_option linter.unusedVariables false
set_option linter.unusedSimpArgs false
namespace Ab
def Nw (g:Int) (m:List Ex) (k:Int):Prop:=∃x∈m,g < x.gen∧x.lba≤k∧k < x.lba+x.len
def On (o:List Ex) (k:Int):Prop:=∃x∈o,x.lba≤k∧k < x.lba+x.len
theorem zu1 {g:Int} {m:List Ex} {k:Int}:Nw g m k↔∃c:Int×Int×List UInt8,Den m k c∧g < c.2.1:=by
 constructor
 · rintro ⟨x,hx,h1,h2,h3⟩
   exact ⟨bAt x k,⟨x,hx,h2,h3,rfl⟩,h1⟩
 · rintro ⟨c,⟨x,hx,h2,h3,rfl⟩,h1⟩
   exact ⟨x,hx,h1,h2,h3⟩
theorem y0k {b g:Int} {m:List Ex} {y:Ex} {k:Int} (h:Mk b m) (hy:z5j b y) (hg:g < y.gen):Nw g (put m y) k↔Nw g m k∨(y.lba≤k∧k < y.lba+y.len):=by
 obtain ⟨_,p2⟩:=z66 h hy.1 hy.2
 rw [zu1,zu1]
 constructor
 · rintro ⟨c,hc,hgc⟩
   rcases (p2 _ _).1 hc with ⟨_,hd⟩ | ⟨q1,q2,e⟩
   · exact .inl ⟨c,hd,hgc⟩
   · exact .inr ⟨q1,q2⟩
 · intro q
   by_cases hk:y.lba≤k∧k < y.lba+y.len
   · exact ⟨bAt y k,(p2 _ _).2 (.inr ⟨hk.1,hk.2,rfl⟩),hg⟩
   · rcases q with ⟨c,hc,hgc⟩ | q
     · exact ⟨c,(p2 _ _).2 (.inl ⟨by omega,hc⟩),hgc⟩
     · exact absurd q hk
theorem zqd {b g k:Int}:∀(o m:List Ex),Mk b m→(∀x∈o,z5j b x)→(∀x∈o,g < x.gen)→(Nw g (o.foldl put m) k↔Nw g m k∨On o k)
 | [],m,_,_,_=> by simp [On]
 | y::o,m,hm,ho,hg=> by
   have hy:=ho y (by simp)
   rw [List.foldl_cons,zqd o _ ((z66 hm hy.1 hy.2).1) (fun x hx=> ho x (by simp [hx])) (fun x hx=> hg x (by simp [hx])),y0k hm hy (hg y (by simp))]
   simp only [On,List.mem_cons,exists_eq_or_imp]
   constructor
   · rintro ((q | q) | q)
     · exact .inl q
     · exact .inr (.inl q)
     · exact .inr (.inr q)
   · rintro (q | q | q)
     · exact .inl (.inl q)
     · exact .inl (.inr q)
     · exact .inr q
theorem zy2 {g k:Int} {o:List Ex}:On (o.map (gn g)) k↔On o k:=by
 simp only [On,List.mem_map]
 constructor
 · rintro ⟨x,⟨y,hy,rfl⟩,q⟩;exact ⟨y,hy,q⟩
 · rintro ⟨y,hy,q⟩;exact ⟨gn g y,⟨y,hy,rfl⟩,q⟩
theorem zq4 {s:Sa} (h:SOk s) {g k:Int} (hg:g < s.gen) {o:List Ex} (he:(lyS s o).2=0):(lyS s o).1.gen=s.gen∧(Nw g (lyS s o).1.map k↔Nw g s.map k∨On o k):=by
 unfold lyS at he⊢
 split at he
 · rename_i h0
   rw [if_pos h0]
   obtain ⟨_,_,q2,q3⟩:=zdo h0
   refine ⟨rfl,?_⟩
   show Nw g (z9t s.blocks s.map (o.map (gn s.gen))).1 k↔_
   rw [q3,zqd _ _ h.1.1 q2 (fun x hx=> by rw [znv x hx];exact hg),zy2]
 · rename_i h0;exact absurd he h0
theorem zsw {s:Sa} {g k id:Int}:s.gen≤(mkS s id).1.gen∧(Nw g (mkS s id).1.map k↔Nw g s.map k):=by
 unfold mkS
 split
 · exact ⟨Int.le_refl _,Iff.rfl⟩
 split
 · exact ⟨Int.le_refl _,Iff.rfl⟩
 split
 · exact ⟨Int.le_refl _,Iff.rfl⟩
 · exact ⟨by show s.gen≤s.gen+1;omega,Iff.rfl⟩
theorem zca {k:Int}:¬On [] k:=fun ⟨x,hx,_⟩=> by cases hx
theorem zo8 {x:Ex} {k:Int}:On [x] k↔x.lba≤k∧k < x.lba+x.len:=by simp [On]
theorem nw_do {s:Sa} {c:Ch} (h:SOk s) {g:Int} (hg:g < s.gen) (he:(doS s c).2=0) (k:Int):s.gen≤(doS s c).1.gen∧(Nw g (doS s c).1.map k↔(Nw g s.map k∨(c.kind≤3∧c.lba≤k∧k < c.lba+c.n))∨On c.list k):=by
 have hc:CkH c:=Classical.byContradiction fun hn=> by rw [z88 h hn] at he;exact absurd he (by simp)
 rw [zg3 h hc] at he⊢
 have kk:=z6w hc
 have nl:c.kind≠8→c.list=[]:=fun q=> List.eq_nil_of_length_eq_zero (by
  unfold CkH at hc
  omega)
 unfold doK at he⊢
 by_cases k1:c.kind=1
 · rw [if_pos k1] at he⊢
   obtain ⟨e1,e2⟩:=zq4 h hg he (k:=k)
   rw [nl (by omega),e2,zo8]
   exact ⟨by omega,by simp only [zca,or_false];constructor <;> rintro (q | q) <;> first | exact .inl q | exact .inr ⟨by omega,q⟩ | exact .inr q.2⟩
 rw [if_neg k1] at he⊢
 by_cases k2:c.kind=2
 · rw [if_pos k2] at he⊢
   obtain ⟨e1,e2⟩:=zq4 h hg he (k:=k)
   rw [nl (by omega),e2,zo8]
   exact ⟨by omega,by simp only [zca,or_false];constructor <;> rintro (q | q) <;> first | exact .inl q | exact .inr ⟨by omega,q⟩ | exact .inr q.2⟩
 rw [if_neg k2] at he⊢
 by_cases k3:c.kind=3
 · rw [if_pos k3] at he⊢
   obtain ⟨e1,e2⟩:=zq4 h hg he (k:=k)
   rw [nl (by omega),e2,zo8]
   exact ⟨by omega,by simp only [zca,or_false];constructor <;> rintro (q | q) <;> first | exact .inl q | exact .inr ⟨by omega,q⟩ | exact .inr q.2⟩
 rw [if_neg k3] at he⊢
 have hno:¬(c.kind≤3∧c.lba≤k∧k < c.lba+c.n):=fun q=> by omega
 have same:∀t:Sa,c.kind≠8→s.gen≤t.gen→(Nw g t.map k↔Nw g s.map k)→s.gen≤t.gen∧(Nw g t.map k↔(Nw g s.map k∨(c.kind≤3∧c.lba≤k∧k < c.lba+c.n))∨On c.list k):=fun t q h1 h2=> by
  rw [nl q,h2]
  refine ⟨h1,?_⟩
  simp only [zca,hno,or_false]
 by_cases k4:c.kind=4
 · rw [if_pos k4];exact same _ (by omega) (zsw (g:=g) (k:=k)).1 zsw.2
 rw [if_neg k4] at he⊢
 by_cases k5:c.kind=5
 · rw [if_pos k5];exact same _ (by omega) (by unfold drS;split <;> exact Int.le_refl _) (by unfold drS;split <;> exact Iff.rfl)
 rw [if_neg k5] at he⊢
 by_cases k6:c.kind=6
 · rw [if_pos k6];exact same _ (by omega) (by unfold stS;split <;> exact Int.le_refl _) (by unfold stS;split <;> exact Iff.rfl)
 rw [if_neg k6] at he⊢
 by_cases k7:c.kind=7
 · rw [if_pos k7];exact same _ (by omega) (Int.le_refl _) Iff.rfl
 rw [if_neg k7] at he⊢
 have hly:(lyS s c.list).2=0:=by
  unfold apS at he
  split at he
  · assumption
  · rename_i q;exact absurd he q
 obtain ⟨e1,e2⟩:=zq4 h hg hly (k:=k)
 have hmk:(mkS (lyS s c.list).1 c.id).2=0:=by
  unfold apS at he
  rw [if_pos hly] at he
  split at he
  · assumption
  · rename_i q;exact absurd he q
 have hap:apS s c=(abS (mkS (lyS s c.list).1 c.id).1,0):=by unfold apS;rw [if_pos hly,if_pos hmk]
 rw [hap]
 have hm:=zsw (s:=(lyS s c.list).1) (g:=g) (k:=k) (id:=c.id)
 refine ⟨by show s.gen≤(mkS _ _).1.gen;omega,?_⟩
 show Nw g (mkS _ _).1.map k↔_
 rw [hm.2,e2]
 simp only [hno,or_false]
theorem ck_in {x:Ex} (h:Ck x):0≤x.lba∧1≤x.len∧x.lba+x.len≤64:=by
 unfold Ck at h;omega
theorem do_in {s:Sa} {c:Ch} (h:SOk s) (he:(doS s c).2=0):(c.kind≤3→0≤c.lba∧1≤c.n∧c.lba+c.n≤64)∧(∀x∈c.list,Ck x)∧c.list.length≤64:=by
 have hc:CkH c:=Classical.byContradiction fun hn=> by rw [z88 h hn] at he;exact absurd he (by simp)
 have kk:=z6w hc
 by_cases k8:c.kind=8
 · have hf:=((zmn k8).1 hc).2.2.2
   exact ⟨fun q=> by omega,(z1m c.list Ck).1 fun i hi=> (hf.1 i hi).1,hf.2⟩
 · have hl:c.list=[]:=List.eq_nil_of_length_eq_zero (by unfold CkH at hc;omega)
   refine ⟨fun q=> by unfold CkH at hc;omega,?_,by rw [hl];simp⟩
   rw [hl];intro x hx;cases hx
/-! Arrays of z8k. -/
def z83 (t:List Bool) (a n:Int):List Bool:=(List.range t.length).map fun (i:Nat)=> t.getD i false || (decide (a≤(i:Int)) && decide ((i:Int) < a+n))
theorem z38 (t:List Bool) (a n:Int):(z83 t a n).length=t.length:=by simp [z83]
theorem zbj (t:List Bool) (a n:Int) {k:Nat} (hk:k < t.length):(z83 t a n).getD k false=(t.getD k false || (decide (a≤(k:Int)) && decide ((k:Int) < a+n))):=by
 unfold z83
 rw [List.getD_eq_getElem?_getD,List.getElem?_map,List.getElem?_range hk]
 rfl
theorem zoh {t u:List Bool} (h:t.length=u.length) (hk:∀k,k < t.length→t.getD k false=u.getD k false):t=u:=by
 refine List.ext_getElem h fun i h1 h2=> ?_
 have:=hk i h1
 simpa [h1,h2] using this
theorem y0q (t:List Bool) (a:Int):z83 t a 0=t:=zoh (z38 _ _ _) fun k hk=> by
 rw [z38] at hk
 rw [zbj t a 0 hk]
 have:(decide (a≤(k:Int)) && decide ((k:Int) < a+0))=false:=by
  by_cases h:a≤(k:Int)
  · rw [decide_eq_true h,decide_eq_false (by omega)];rfl
  · rw [decide_eq_false h];rfl
 rw [this,Bool.or_false]
theorem zs3 (t:List Bool) {a:Int} {j:Nat} (ha:0≤a) (h:a+j < t.length):(z83 t a j).set (a+j).toNat true=z83 t a ((j:Int)+1):=zoh (by rw [List.length_set,z38,z38]) fun k hk=> by
 rw [List.length_set,z38] at hk
 rw [zbj t a _ hk]
 by_cases e:k=(a+j).toNat
 · subst e
   have:((z83 t a j).set (a+j).toNat true).getD (a+j).toNat false=true:=by
    rw [List.getD_eq_getElem?_getD,List.getElem?_set_self (by rw [z38];exact hk)];rfl
   rw [this,decide_eq_true (by omega),decide_eq_true (by omega)]
   simp
 · have:((z83 t a j).set (a+j).toNat true).getD k false=(z83 t a j).getD k false:=by
    rw [List.getD_eq_getElem?_getD,List.getD_eq_getElem?_getD,List.getElem?_set_ne (fun q=> e q.symm)]
   rw [this,zbj t a _ hk]
   congr 2
   exact decide_eq_decide.2 (by omega)
def zk7 (t:List Bool) (l:List Ex):List Bool:=l.foldl (fun t x=> z83 t x.lba x.len) t
theorem zle:∀(l:List Ex) (t:List Bool),(zk7 t l).length=t.length
 | [],t=> rfl
 | x::l,t=> by unfold zk7;rw [List.foldl_cons];exact (zle l _).trans (z38 _ _ _)
theorem zrj (t:List Bool) (l:List Ex) (i:Nat) (hi:i < l.length):zk7 t (l.take (i+1))=z83 (zk7 t (l.take i)) (z0 l i).lba (z0 l i).len:=by
 unfold zk7
 rw [z8j l i hi,List.foldl_append]
 rfl
def Tl (t:List Bool) (p:Int→Prop):Prop:=t.length=64∧∀k:Nat,k < 64→(t.getD k false=true↔p k)
theorem zwi {t u:List Bool} {p:Int→Prop} (h1:Tl t p) (h2:Tl u p):t=u:=zoh (by rw [h1.1,h2.1]) fun k hk=> by
 have hk:k < 64:=by have:=h1.1;omega
 exact Bool.eq_iff_iff.2 ((h1.2 k hk).trans (h2.2 k hk).symm)
theorem zf7 {t:List Bool} {p q:Int→Prop} (h:Tl t p) (hq:∀k,p k↔q k):Tl t q:=⟨h.1,fun k hk=> (h.2 k hk).trans (hq k)⟩
theorem ztd {t:List Bool} {p:Int→Prop} (h:Tl t p) (a n:Int):Tl (z83 t a n) (fun k=> p k∨(a≤k∧k < a+n)):=by
 refine ⟨(z38 _ _ _).trans h.1,fun k hk=> ?_⟩
 rw [zbj t a n (by rw [h.1];exact hk),Bool.or_eq_true,h.2 k hk,Bool.and_eq_true,decide_eq_true_iff,decide_eq_true_iff]
theorem zpm:∀(l:List Ex) {p:Int→Prop} {t:List Bool},Tl t p→Tl (zk7 t l) (fun k=> p k∨On l k)
 | [],p,t,h=> zf7 h fun k=> by simp [zca]
 | x::l,p,t,h=> by
   unfold zk7
   rw [List.foldl_cons]
   refine zf7 (q:=fun k=> p k∨On (x::l) k) (zpm l (ztd h x.lba x.len)) fun k=> ?_
   simp only [On,List.mem_cons,exists_eq_or_imp]
   exact or_assoc
theorem zpp:Tl (List.replicate 64 false) (fun _=> False):=⟨List.length_replicate,fun k hk=> by
 rw [List.getD_eq_getElem?_getD,List.getElem?_replicate,if_pos hk]
 simp only [Option.getD_some,Bool.false_eq_true]⟩
theorem y0s {α:Type} {t:List Bool} (ht:t.length=64) {a n:Int} (ha:0≤a) (hn:0≤n) (h:a+n≤64) {σ:Type} (mk:List Bool→Int→σ) {step:σ→Option σ} {f:σ→Option α}
 (hs:∀(u:List Bool) (b:Int),u.length=64→0≤b→b < 64→b < a+n→step (mk u b)=some (mk (u.set b.toNat true) (b+1))) (he:∀u:List Bool,step (mk u (a+n))=none):th step (mk t a) f=f (mk (z83 t a n) (a+n)):=by
 have:=z15 (step:=step) (f:=f) (fun i=> mk (z83 t a (i:Int)) (a+(i:Int))) n.toNat (fun i hi=> by
  rw [hs _ _ (by rw [z38];exact ht) (by omega) (by omega) (by omega),zs3 t ha (by omega)]
  congr 2
  omega) (by rw [show ((n.toNat:Nat):Int)=n by omega];exact he _)
 rw [show ((n.toNat:Nat):Int)=n by omega] at this
 simpa [y0q] using this
end Ab
end Go.Proofs.Ytpflcogplhigcaa
namespace Go.Proofs.Ytpflcogplhigcaa
open Go Go.Proofs.Ytpflcogplhigcaa.Ab
set_option linter.unusedVariables false
set_option linter.unusedSimpArgs false
namespace Ab
def zb (b:List UInt8):Bool:=b==List.replicate 32 0
def fl:Nat→List UInt8→List Bool
 | 0,_=> []
 | n+1,b=> zb (b.take 32)::fl n (b.drop 32)
def z0d (b:List UInt8):List Bool:=fl (b.length / 32) b
theorem z5p:∀(n:Nat) (b:List UInt8),(fl n b).length=n
 | 0,_=> rfl
 | n+1,b=> by simp [fl,z5p n]
theorem z74 {b:List UInt8} (h:b.length < 32):z0d b=[]:=by
 unfold z0d;rw [Nat.div_eq_of_lt h];rfl
theorem z3r {b:List UInt8} (h:32≤b.length):z0d b=zb (b.take 32)::z0d (b.drop 32):=by
 unfold z0d
 rw [show b.length / 32=(b.drop 32).length / 32+1 by rw [List.length_drop];omega]
 rfl
theorem z5i {a:List UInt8} (b:List UInt8) (h:a.length % 32=0):z0d (a++b)=z0d a++z0d b:=by
 have key:∀(n:Nat) (a:List UInt8),a.length=32*n→z0d (a++b)=z0d a++z0d b:=by
  intro n
  induction n with
  | zero=>
    intro a ha
    have:a=[]:=List.length_eq_zero_iff.1 (by omega)
    subst this;rw [z74 (b:=[]) (by simp)];rfl
  | succ n ih=>
    intro a ha
    rw [z3r (b:=a) (by omega),z3r (b:=a++b) (by rw [List.length_append];omega)]
    rw [List.take_append_of_le_length (by omega),List.drop_append_of_le_length (by omega),ih _ (by rw [List.length_drop];omega)]
    rfl
 exact key (a.length / 32) a (by omega)
end Ab
end Go.Proofs.Ytpflcogplhigcaa
namespace Go.Proofs.Ytpflcogplhigcaa
open Go Go.Proofs.Ytpflcogplhigcaa.Ab
set_option linter.unusedVariables false
set_option linter.unusedSimpArgs false
set_option maxRecDepth 1000000
set_option maxHeartbeats 0
namespace Ab
noncomputable def z6c (b:List UInt8) (s0:Int):Option (Int):=
 (tb ((decide (s0 < (b.length:Int)))) (tp ((((0:Int)≤s0)∧(s0 < (b.length:Int)))) (tb (((↑(UInt8.toNat (List.getD b (s0.toNat*1) (OfNat.ofNat 0))):Int) !=(0:Int))) none (some ((wr (s0+(1:Int))))))) none)
noncomputable def pIs (b:List UInt8):Option (Bool):=
 (th (z6c b) ((0:Int)) fun s0=> (tb ((decide (s0 < (b.length:Int)))) (tp ((((0:Int)≤s0)∧(s0 < (b.length:Int)))) (tb (((↑(UInt8.toNat (List.getD b (s0.toNat*1) (OfNat.ofNat 0))):Int) !=(0:Int))) (some (false)) none)) (some (true))))
noncomputable abbrev zhs (lba:Int) (b:List UInt8) (s4:Bool×Int×List UInt8×List Ex×List UInt8×Int):St:=(St.mk [(0,(AV.i lba)),(1,(bys b)),(2,(AV.pt 0 0)),(3,(AV.pt 1 0)),(4,(AV.pt 2 0)),(5,(AV.i 0)),(27,(AV.b (decide ((wr (Int.tdiv (b.length:Int) (32:Int))) > (wr ((64:Int) - lba)))))),(29,(AV.fn (95:Nat) [(AV.pt 3 0)])),(30,(AV.ag [(AV.b s4.1),(AV.i s4.2.1)])),(6,(AV.pt 7 0))] 61 (AH.mk 8 [(7,(AObj.cells [(AV.b s4.1),(AV.i s4.2.1)])),(5,(AObj.cells [(AV.b s4.1),(AV.i s4.2.1)])),(4,(AObj.loop Go.LoopState.busy Option.none [(0,(AV.i lba)),(1,(bys b)),(2,(AV.pt 0 0)),(3,(AV.pt 1 0)),(4,(AV.pt 2 0)),(5,(AV.i 0)),(27,(AV.b (decide ((wr (Int.tdiv (b.length:Int) (32:Int))) > (wr ((64:Int) - lba)))))),(29,(AV.fn (95:Nat) [(AV.pt 3 0)]))] 61 [(30:Nat)] (rfA Try.prog 71 0) (rfB Try.prog 71 0))),(3,(AObj.cells [(bys s4.2.2.1)])),(2,(AObj.cells [(AV.rf 6 5 0 s4.2.2.2.1.length)])),(1,(AObj.cells [(bys s4.2.2.2.2.1)])),(0,(AObj.cells [(AV.i s4.2.2.2.2.2)])),(6,(AObj.cells (s4.2.2.2.1.flatMap Ex.cells)))]) true)
noncomputable abbrev zc4 (lba:Int) (b:List UInt8) (s4:Bool×Int×List UInt8×List Ex×List UInt8×Int) (s8:List Ex×List UInt8×Int):St:=(St.mk [(0,(AV.i lba)),(1,(bys b)),(2,(AV.pt 0 0)),(3,(AV.pt 1 0)),(4,(AV.pt 2 0)),(5,(AV.i 0)),(27,(AV.b (decide ((wr (Int.tdiv (b.length:Int) (32:Int))) > (wr ((64:Int) - lba)))))),(29,(AV.fn (95:Nat) [(AV.pt 3 0)])),(30,(AV.ag [(AV.b s4.1),(AV.i s4.2.1)])),(6,(AV.pt 7 0))] 61 (AH.mk 9 [(7,(AObj.cells [(AV.b s4.1),(AV.i s4.2.1)])),(5,(AObj.cells [(AV.b s4.1),(AV.i s4.2.1)])),(4,(AObj.loop Go.LoopState.busy Option.none [(0,(AV.i lba)),(1,(bys b)),(2,(AV.pt 0 0)),(3,(AV.pt 1 0)),(4,(AV.pt 2 0)),(5,(AV.i 0)),(27,(AV.b (decide ((wr (Int.tdiv (b.length:Int) (32:Int))) > (wr ((64:Int) - lba)))))),(29,(AV.fn (95:Nat) [(AV.pt 3 0)]))] 61 [(30:Nat)] (rfA Try.prog 71 0) (rfB Try.prog 71 0))),(3,(AObj.cells [(bys s4.2.2.1)])),(2,(AObj.cells [(AV.rf 8 5 0 s8.1.length)])),(1,(AObj.cells [(bys s8.2.1)])),(0,(AObj.cells [(AV.i s8.2.2)])),(8,(AObj.cells (s8.1.flatMap Ex.cells)))]) true)
noncomputable def zbe (lba:Int) (b:List UInt8) (s4:Bool×Int×List UInt8×List Ex×List UInt8×Int):Option (List Ex×List UInt8×Int):=
 (tb ((!s4.1)) (tp (((0:Int)≤(wr (s4.2.1*(32:Int))))) (tp ((((0:Nat)≤(Int.toNat (wr (s4.2.1*(32:Int)))))∧(((Int.toNat (wr (s4.2.1*(32:Int))))≤s4.2.2.2.2.1.length)∧((List.length (List.map AV.y s4.2.2.2.2.1))=(s4.2.2.2.2.1.length*1))))) (tp ((((Int.toNat (wr (s4.2.1*(32:Int)))) - (0:Nat))≤(4294967296:Nat))) (tp ((((List.length (s4.2.2.2.1.flatMap Ex.cells))=(s4.2.2.2.1.length*5))∧((s4.2.2.2.1.length+(1:Nat))≤(4294967296:Nat)))) (some (((s4.2.2.2.1++[(Ex.mk s4.2.2.2.2.2 s4.2.1 2 0 (List.take (((Int.toNat (wr (s4.2.1*(32:Int)))) - (0:Nat))*1) (List.take (((Int.toNat (wr (s4.2.1*(32:Int)))) - (0:Nat))*1) s4.2.2.2.2.1)))]),((List.take ((s4.2.2.2.2.1.length - (Int.toNat (wr (s4.2.1*(32:Int)))))*1) (List.drop ((Int.toNat (wr (s4.2.1*(32:Int))))*1) s4.2.2.2.2.1)),(wr (s4.2.2.2.2.2+s4.2.1)))))))))) (tp ((((List.length (s4.2.2.2.1.flatMap Ex.cells))=(s4.2.2.2.1.length*5))∧((s4.2.2.2.1.length+(1:Nat))≤(4294967296:Nat)))) (tp (((0:Int)≤(wr (s4.2.1*(32:Int))))) (tp ((((Int.toNat (wr (s4.2.1*(32:Int))))≤s4.2.2.2.2.1.length)∧((s4.2.2.2.2.1.length≤s4.2.2.2.2.1.length)∧((List.length (List.map AV.y s4.2.2.2.2.1))=(s4.2.2.2.2.1.length*1))))) (some (((s4.2.2.2.1++[(Ex.mk s4.2.2.2.2.2 s4.2.1 1 0 ([]:List UInt8))]),((List.take ((s4.2.2.2.2.1.length - (Int.toNat (wr (s4.2.1*(32:Int)))))*1) (List.drop ((Int.toNat (wr (s4.2.1*(32:Int))))*1) s4.2.2.2.2.1)),(wr (s4.2.2.2.2.2+s4.2.1))))))))))
theorem znt (lba:Int) (b:List UInt8) (s4:Bool×Int×List UInt8×List Ex×List UInt8×Int) (zz:List Ex×List UInt8×Int):zbe lba b s4=some zz→u7 Try.prog cf 8 ((rfB Try.prog 71 0)) (zhs lba b s4) (zc4 lba b s4 zz):=by
 unfold zbe
 exact t6 (fun h9=> x8 fun h10=> x8 fun h11=> x8 fun h12=> x8 fun h13=> by intro e;injection e with e;subst e;exact j0 z9 (k:=300) (r:=[]) (hs:=hz [(8,[.fc]),(4,[.yes]),(7,[.yes,.yes,.yes,.yes]),(2,[.fc]),(2,[.fc]),(3,[.fc]),(1,[.fc,.fc,.yes,.yes]),(1,[.fc]),(12,[.yes,.yes]),(1,[.fc]),(1,[.fc,.yes])]) (ks:=[0,1,2,3,4,5,27,29,30,6]) (st1:=(St.mk [(0,(AV.i lba)),(1,(bys b)),(2,(AV.pt 0 0)),(3,(AV.pt 1 0)),(4,(AV.pt 2 0)),(5,(AV.i 0)),(27,(AV.b (decide ((wr (Int.tdiv (b.length:Int) (32:Int))) > (wr ((64:Int) - lba)))))),(29,(AV.fn (95:Nat) [(AV.pt 3 0)])),(30,(AV.ag [(AV.b s4.1),(AV.i s4.2.1)])),(6,(AV.pt 7 0))] 61 (AH.mk 12 [(11,(AObj.cells ((s4.2.2.2.1.flatMap Ex.cells)++[(AV.i s4.2.2.2.2.2),(AV.i s4.2.1),(AV.i 2),(AV.i 0),(AV.rf 9 1 0 ((Int.toNat (wr (s4.2.1*(32:Int)))) - (0:Nat)))]))),(10,(AObj.cells [(AV.i s4.2.2.2.2.2),(AV.i s4.2.1),(AV.i 2),(AV.i 0),(AV.rf 9 1 0 ((Int.toNat (wr (s4.2.1*(32:Int)))) - (0:Nat)))])),(9,(AObj.cells (List.take (((Int.toNat (wr (s4.2.1*(32:Int)))) - (0:Nat))*1) (List.map AV.y s4.2.2.2.2.1)))),(8,(AObj.cells [(AV.i s4.2.2.2.2.2),(AV.i s4.2.1),(AV.i 2),(AV.i 0),(AV.rf 9 1 0 ((Int.toNat (wr (s4.2.1*(32:Int)))) - (0:Nat)))])),(7,(AObj.cells [(AV.b s4.1),(AV.i s4.2.1)])),(5,(AObj.cells [(AV.b s4.1),(AV.i s4.2.1)])),(4,(AObj.loop Go.LoopState.busy Option.none [(0,(AV.i lba)),(1,(bys b)),(2,(AV.pt 0 0)),(3,(AV.pt 1 0)),(4,(AV.pt 2 0)),(5,(AV.i 0)),(27,(AV.b (decide ((wr (Int.tdiv (b.length:Int) (32:Int))) > (wr ((64:Int) - lba)))))),(29,(AV.fn (95:Nat) [(AV.pt 3 0)]))] 61 [(30:Nat)] (rfA Try.prog 71 0) (rfB Try.prog 71 0))),(3,(AObj.cells [(bys s4.2.2.1)])),(2,(AObj.cells [(AV.rf 11 5 0 (s4.2.2.2.1.length+(1:Nat)))])),(1,(AObj.cells [(AV.sl (s4.2.2.2.2.1.length - (Int.toNat (wr (s4.2.1*(32:Int))))) (List.take ((s4.2.2.2.2.1.length - (Int.toNat (wr (s4.2.1*(32:Int)))))*1) (List.drop ((Int.toNat (wr (s4.2.1*(32:Int))))*1) (List.map AV.y s4.2.2.2.2.1))))])),(0,(AObj.cells [(AV.i (wr (s4.2.2.2.2.2+s4.2.1)))])),(6,AObj.dead)]) true)) kq (ac h9 (ac h10 (ac h11 (ac (fq (p:=((List.length (List.take (((Int.toNat (wr (s4.2.1*(32:Int)))) - (0:Nat))*1) (List.map AV.y s4.2.2.2.2.1)))=(((Int.toNat (wr (s4.2.1*(32:Int)))) - (0:Nat))*1)))) (ac h12 (ac (tq (p:=(((0:Nat)=(0:Nat))∧((List.length [(AV.i s4.2.2.2.2.2),(AV.i s4.2.1),(AV.i 2),(AV.i 0),(AV.rf 9 1 0 ((Int.toNat (wr (s4.2.1*(32:Int)))) - (0:Nat)))])=(5:Nat))))) (ac h13 (ac h10 (ac (fq (p:=(((Int.toNat (wr (s4.2.1*(32:Int))))≤s4.2.2.2.2.1.length)∧((s4.2.2.2.2.1.length≤s4.2.2.2.2.1.length)∧((List.length (List.map AV.y s4.2.2.2.2.1))=(s4.2.2.2.2.1.length*1)))))) (ac (show z8 (rg Try.prog 71 0)=true∧x7 (Region.before (rg Try.prog 71 0)) [] 0 [(some [0],some []),(some [],some []),(some [7],some []),(some [],some []),(some [1],some []),(some [],some []),(some [7],some []),(some [],some []),(some [],some []),(some [0],some [0]),(some [1],some [1])]=true from (x0 zbn zbk kq)) an)))))))))) (Nat.le_of_ble_eq_true rfl) (Nat.le_of_ble_eq_true rfl) (y9 [11] [9] kq (.consn kq (.eqv tq rfl) (.consn kq (.eqv tq rfl) (.consn kq (.pt rfl) (.consn kq (.pt rfl) (.consn kq (.pt rfl) (.consn kq (.eqv tq rfl) (.consn kq (.eqv tq rfl) (.consn kq (.fn (.cons (.pt rfl) .nil)) (.consn kq (.agp pq) (.consn kq (.pt rfl) .nil)))))))))) (.cons (.old rfl rfl (.cells (.pl rfl pq))) (.cons (.old rfl rfl (.cells (.pl rfl pq))) (.cons (.old rfl rfl (.loop (.consn kq (.eqv tq rfl) (.consn kq (.eqv tq rfl) (.consn kq (.pt rfl) (.consn kq (.pt rfl) (.consn kq (.pt rfl) (.consn kq (.eqv tq rfl) (.consn kq (.eqv tq rfl) (.consn kq (.fn (.cons (.pt rfl) .nil)) .nil)))))))))) (.cons (.old rfl rfl (.cells (.cons (.eqv tq rfl) .nil))) (.cons (.old rfl rfl (.cells (.cons (.rfn (n:=(s4.2.2.2.1.length+(1:Nat))) rfl tq) .nil))) (.cons (.old rfl rfl (.cells (.cons (.eqv tq rfl) .nil))) (.cons (.old rfl rfl (.cells (.cons (.eqv tq rfl) .nil))) (.cons (.old rfl rfl (.cells (.cast rfl tq (.app (.pl rfl pq) (.cons (.eqv rfl rfl) (.cons (.eqv rfl rfl) (.cons (.eqv rfl rfl) (.cons (.eqv rfl rfl) (.cons (.frzn rfl tq pq (by simp) rfl) .nil))))))))) .nil)))))))))) fun h9=> x8 fun h10=> x8 fun h11=> x8 fun h12=> by intro e;injection e with e;subst e;exact j0 z9 (k:=300) (r:=[]) (hs:=hz [(8,[.fc]),(4,[.no]),(3,[.fc]),(1,[.fc,.fc,.yes,.yes]),(1,[.fc]),(12,[.yes,.yes]),(1,[.fc]),(1,[.fc,.yes])]) (ks:=[0,1,2,3,4,5,27,29,30,6]) (st1:=(St.mk [(0,(AV.i lba)),(1,(bys b)),(2,(AV.pt 0 0)),(3,(AV.pt 1 0)),(4,(AV.pt 2 0)),(5,(AV.i 0)),(27,(AV.b (decide ((wr (Int.tdiv (b.length:Int) (32:Int))) > (wr ((64:Int) - lba)))))),(29,(AV.fn (95:Nat) [(AV.pt 3 0)])),(30,(AV.ag [(AV.b s4.1),(AV.i s4.2.1)])),(6,(AV.pt 7 0))] 61 (AH.mk 11 [(10,(AObj.cells ((s4.2.2.2.1.flatMap Ex.cells)++[(AV.i s4.2.2.2.2.2),(AV.i s4.2.1),(AV.i (Int.ofNat 1)),(AV.i (Int.ofNat 0)),AV.nl]))),(9,(AObj.cells [(AV.i s4.2.2.2.2.2),(AV.i s4.2.1),(AV.i 1),(AV.i 0),AV.nl])),(8,(AObj.cells [(AV.i s4.2.2.2.2.2),(AV.i s4.2.1),(AV.i 1),(AV.i 0),AV.nl])),(7,(AObj.cells [(AV.b s4.1),(AV.i s4.2.1)])),(5,(AObj.cells [(AV.b s4.1),(AV.i s4.2.1)])),(4,(AObj.loop Go.LoopState.busy Option.none [(0,(AV.i lba)),(1,(bys b)),(2,(AV.pt 0 0)),(3,(AV.pt 1 0)),(4,(AV.pt 2 0)),(5,(AV.i 0)),(27,(AV.b (decide ((wr (Int.tdiv (b.length:Int) (32:Int))) > (wr ((64:Int) - lba)))))),(29,(AV.fn (95:Nat) [(AV.pt 3 0)]))] 61 [(30:Nat)] (rfA Try.prog 71 0) (rfB Try.prog 71 0))),(3,(AObj.cells [(bys s4.2.2.1)])),(2,(AObj.cells [(AV.rf 10 5 0 (s4.2.2.2.1.length+(1:Nat)))])),(1,(AObj.cells [(AV.sl (s4.2.2.2.2.1.length - (Int.toNat (wr (s4.2.1*(32:Int))))) (List.take ((s4.2.2.2.2.1.length - (Int.toNat (wr (s4.2.1*(32:Int)))))*1) (List.drop ((Int.toNat (wr (s4.2.1*(32:Int))))*1) (List.map AV.y s4.2.2.2.2.1))))])),(0,(AObj.cells [(AV.i (wr (s4.2.2.2.2.2+s4.2.1)))])),(6,AObj.dead)]) true)) kq (ac h9 (ac (tq (p:=(((0:Nat)=(0:Nat))∧((List.length [(AV.i s4.2.2.2.2.2),(AV.i s4.2.1),(AV.i (Int.ofNat 1)),(AV.i (Int.ofNat 0)),AV.nl])=(5:Nat))))) (ac h10 (ac h11 (ac h12 (ac (show z8 (rg Try.prog 71 0)=true∧x7 (Region.before (rg Try.prog 71 0)) [] 0 [(some [0],some []),(some [],some []),(some [7],some []),(some [],some []),(some [1],some []),(some [],some []),(some [7],some []),(some [],some []),(some [],some []),(some [0],some [0]),(some [1],some [1])]=true from (x0 zbn zbk kq)) an)))))) (Nat.le_of_ble_eq_true rfl) (Nat.le_of_ble_eq_true rfl) (y9 [10] [] kq (.consn kq (.eqv tq rfl) (.consn kq (.eqv tq rfl) (.consn kq (.pt rfl) (.consn kq (.pt rfl) (.consn kq (.pt rfl) (.consn kq (.eqv tq rfl) (.consn kq (.eqv tq rfl) (.consn kq (.fn (.cons (.pt rfl) .nil)) (.consn kq (.agp pq) (.consn kq (.pt rfl) .nil)))))))))) (.cons (.old rfl rfl (.cells (.pl rfl pq))) (.cons (.old rfl rfl (.cells (.pl rfl pq))) (.cons (.old rfl rfl (.loop (.consn kq (.eqv tq rfl) (.consn kq (.eqv tq rfl) (.consn kq (.pt rfl) (.consn kq (.pt rfl) (.consn kq (.pt rfl) (.consn kq (.eqv tq rfl) (.consn kq (.eqv tq rfl) (.consn kq (.fn (.cons (.pt rfl) .nil)) .nil)))))))))) (.cons (.old rfl rfl (.cells (.cons (.eqv tq rfl) .nil))) (.cons (.old rfl rfl (.cells (.cons (.rfn (n:=(s4.2.2.2.1.length+(1:Nat))) rfl tq) .nil))) (.cons (.old rfl rfl (.cells (.cons (.eqv tq rfl) .nil))) (.cons (.old rfl rfl (.cells (.cons (.eqv tq rfl) .nil))) (.cons (.old rfl rfl (.cells (.cast rfl tq (.app (.pl rfl pq) (.cons (.eqv rfl rfl) (.cons (.eqv rfl rfl) (.cons (.eqv rfl rfl) (.cons (.eqv rfl rfl) (.cons (.pur 1 rfl (by simp)) .nil))))))))) .nil)))))))))
noncomputable abbrev zi3 (lba:Int) (b:List UInt8):St:=(St.mk [(0,(AV.yl 4)),(1,(AV.pt 3 0)),(3,(AV.pt 5 0))] 41 (AH.mk 6 [(5,(AObj.cells [(AV.b false),(AV.i 0)])),(4,(AObj.loop Go.LoopState.ready Option.none [(0,(AV.i lba)),(1,(bys b)),(2,(AV.pt 0 0)),(3,(AV.pt 1 0)),(4,(AV.pt 2 0)),(5,(AV.i 0)),(8,(bys b)),(9,(AV.i (b.length:Int))),(10,(AV.i (Int.tmod (b.length:Int) (32:Int)))),(11,(AV.b ((Int.tmod (b.length:Int) (32:Int)) !=(0:Int)))),(12,(AV.b ((Int.tmod (b.length:Int) (32:Int)) !=(0:Int)))),(13,(AV.i lba)),(14,(AV.b (decide (lba < (0:Int))))),(15,(AV.b (decide (lba < (0:Int))))),(16,(AV.b (decide (lba < (0:Int))))),(17,(AV.i lba)),(18,(AV.b (decide (lba > (64:Int))))),(19,(AV.b (decide (lba > (64:Int))))),(20,(AV.b (decide (lba > (64:Int))))),(21,(bys b)),(22,(AV.i (b.length:Int))),(23,(AV.i (wr (Int.tdiv (b.length:Int) (32:Int))))),(24,(AV.i lba)),(25,(AV.i (wr ((64:Int) - lba)))),(26,(AV.b (decide ((wr (Int.tdiv (b.length:Int) (32:Int))) > (wr ((64:Int) - lba)))))),(27,(AV.b (decide ((wr (Int.tdiv (b.length:Int) (32:Int))) > (wr ((64:Int) - lba)))))),(28,(bys b)),(29,(AV.fn (95:Nat) [(AV.pt 3 0)]))] 61 [(30:Nat)] (rfA Try.prog 71 0) (rfB Try.prog 71 0))),(3,(AObj.cells [(bys b)])),(2,(AObj.cells [AV.nl])),(1,(AObj.cells [(bys b)])),(0,(AObj.cells [(AV.i lba)]))]) false)
noncomputable abbrev z5q (lba:Int) (b:List UInt8) (s4:Bool×Int×List UInt8×List Ex×List UInt8×Int):St:=(St.mk [(0,(AV.yl 4)),(1,(AV.pt 3 0)),(3,(AV.pt 5 0))] 41 (AH.mk 7 [(5,(AObj.cells [(AV.b s4.1),(AV.i s4.2.1)])),(4,(AObj.loop Go.LoopState.ready Option.none [(0,(AV.i lba)),(1,(bys b)),(2,(AV.pt 0 0)),(3,(AV.pt 1 0)),(4,(AV.pt 2 0)),(5,(AV.i 0)),(27,(AV.b (decide ((wr (Int.tdiv (b.length:Int) (32:Int))) > (wr ((64:Int) - lba)))))),(29,(AV.fn (95:Nat) [(AV.pt 3 0)]))] 61 [(30:Nat)] (rfA Try.prog 71 0) (rfB Try.prog 71 0))),(3,(AObj.cells [(bys s4.2.2.1)])),(2,(AObj.cells [(AV.rf 6 5 0 s4.2.2.2.1.length)])),(1,(AObj.cells [(bys s4.2.2.2.2.1)])),(0,(AObj.cells [(AV.i s4.2.2.2.2.2)])),(6,(AObj.cells (s4.2.2.2.1.flatMap Ex.cells)))]) false)
noncomputable def z5h (lba:Int) (b:List UInt8) (s4:Bool×Int×List UInt8×List Ex×List UInt8×Int):Option (Bool×Int×List UInt8×List Ex×List UInt8×Int):=
 (tb ((decide ((s4.2.2.1.length:Int)≥(32:Int)))) (tb ((!(((pad 32 s4.2.2.1)==(List.replicate (32:Nat) (UInt8.ofNat (0:Nat))))==s4.1))) (tb ((decide (s4.2.1 > (0:Int)))) (tc (zbe lba b s4) fun s8=> (some ((((pad 32 s4.2.2.1)==(List.replicate (32:Nat) (UInt8.ofNat (0:Nat)))),((1:Int),((List.take ((s4.2.2.1.length - (32:Nat))*1) (List.drop 32 s4.2.2.1)),(s8.1,(s8.2.1,s8.2.2)))))))) (some ((((pad 32 s4.2.2.1)==(List.replicate (32:Nat) (UInt8.ofNat (0:Nat)))),((wr (s4.2.1+(1:Int))),((List.take ((s4.2.2.1.length - (32:Nat))*1) (List.drop 32 s4.2.2.1)),(s4.2.2.2.1,(s4.2.2.2.2.1,s4.2.2.2.2.2)))))))) (some ((((pad 32 s4.2.2.1)==(List.replicate (32:Nat) (UInt8.ofNat (0:Nat)))),((wr (s4.2.1+(1:Int))),((List.take ((s4.2.2.1.length - (32:Nat))*1) (List.drop 32 s4.2.2.1)),(s4.2.2.2.1,(s4.2.2.2.2.1,s4.2.2.2.2.2)))))))) none)
theorem zfd (lba:Int) (b:List UInt8) (s4 zz:Bool×Int×List UInt8×List Ex×List UInt8×Int):z5h lba b s4=some zz→u7 Try.prog cf 6 (lp Try.prog 95 0) (z5q lba b s4) (z5q lba b zz):=by
 unfold z5h
 exact tbD (fun h5 h5p=> t6 (fun h6=> tbD (fun h7 h7p=> w6 fun s8 h8=> by intro e;injection e with e;subst e;exact j0 z9 (k:=300) (r:=[]) (hs:=hz [(4,[.yes]),(3,[.yes]),(1,[.yes,.cells ((List.map AV.y (pad 32 s4.2.2.1)))]),(1,[.yes,.truth (((pad 32 s4.2.2.1)==(List.replicate (32:Nat) (UInt8.ofNat (0:Nat)))))]),(7,[.yes]),(1,[.yes]),(2,[.yes]),(1,[.yes,.yes]),(2,[.fc]),(3,[.fc,.res .normal (zc4 lba b s4 s8)]),(4,[.fc]),(7,[.fc]),(3,[.yes]),(1,[.fc])]) (ks:=[0,1,3]) (st1:=(St.mk [(0,(AV.yl 4)),(1,(AV.pt 3 0)),(3,(AV.pt 5 0))] 41 (AH.mk 9 [(7,(AObj.cells [(AV.b s4.1),(AV.i s4.2.1)])),(5,(AObj.cells [(AV.b ((pad 32 s4.2.2.1)==(List.replicate (32:Nat) (UInt8.ofNat (0:Nat))))),(AV.i 1)])),(4,(AObj.loop Go.LoopState.ready Option.none [(0,(AV.i lba)),(1,(bys b)),(2,(AV.pt 0 0)),(3,(AV.pt 1 0)),(4,(AV.pt 2 0)),(5,(AV.i 0)),(27,(AV.b (decide ((wr (Int.tdiv (b.length:Int) (32:Int))) > (wr ((64:Int) - lba)))))),(29,(AV.fn (95:Nat) [(AV.pt 3 0)]))] 61 [(30:Nat)] (rfA Try.prog 71 0) (rfB Try.prog 71 0))),(3,(AObj.cells [(AV.sl (s4.2.2.1.length - (32:Nat)) (List.take ((s4.2.2.1.length - (32:Nat))*1) (List.drop 32 (List.map AV.y s4.2.2.1))))])),(2,(AObj.cells [(AV.rf 8 5 0 s8.1.length)])),(1,(AObj.cells [(bys s8.2.1)])),(0,(AObj.cells [(AV.i s8.2.2)])),(8,(AObj.cells (s8.1.flatMap Ex.cells)))]) false)) kq (ac h5 (ac (fq (p:=(((0:Nat)≤(32:Nat))∧(((32:Nat)≤s4.2.2.1.length)∧((List.length (List.map AV.y s4.2.2.1))=(s4.2.2.1.length*1)))))) (ac (fq (p:=((32:Nat)≤(List.length (List.take 32 (List.map AV.y s4.2.2.1)))))) (ac (show (List.take 32 (List.take 32 (List.map AV.y s4.2.2.1)))=(List.map AV.y (pad 32 s4.2.2.1)) from (zcc (x:=s4.2.2.1) tq bq)) (ac (tq (p:=(((List.length (List.map AV.y (pad 32 s4.2.2.1)))=(32:Nat))∧((32:Nat)=(32:Nat))))) (ac (show z0q ((List.map AV.y (pad 32 s4.2.2.1))) ((List.replicate (32:Nat) (AV.y (UInt8.ofNat (0:Nat)))))=some (((pad 32 s4.2.2.1)==(List.replicate (32:Nat) (UInt8.ofNat (0:Nat))))) from (z9x tq tq tq)) (ac h6 (ac h6 (ac h6 (ac h6 (ac h7 (ac (show Ev Try.prog cf ((rfB Try.prog 71 0)) (zhs lba b s4) (.normal,zc4 lba b s4 s8) from (u7.ev (znt lba b s4 _ h8) rfl)) (ac (fq (p:=(((32:Nat)≤s4.2.2.1.length)∧((s4.2.2.1.length≤s4.2.2.1.length)∧((List.length (List.map AV.y s4.2.2.1))=(s4.2.2.1.length*1)))))) an))))))))))))) (Nat.le_of_ble_eq_true rfl) (Nat.le_of_ble_eq_true rfl) (y9 [8] [] kq (.consn kq (.yl rfl) (.consn kq (.pt rfl) (.consn kq (.pt rfl) .nil))) (.cons (.old rfl rfl (.cells (.cons (.eqv tq rfl) (.cons (.eqv tq rfl) .nil)))) (.cons (.old rfl rfl (.loop (.consn kq (.eqv tq rfl) (.consn kq (.eqv tq rfl) (.consn kq (.pt rfl) (.consn kq (.pt rfl) (.consn kq (.pt rfl) (.consn kq (.eqv tq rfl) (.consn kq (.eqv tq rfl) (.consn kq (.fn (.cons (.pt rfl) .nil)) .nil)))))))))) (.cons (.old rfl rfl (.cells (.cons (.eqv tq rfl) .nil))) (.cons (.old rfl rfl (.cells (.cons (.rfn (n:=s8.1.length) rfl tq) .nil))) (.cons (.old rfl rfl (.cells (.cons (.eqv tq rfl) .nil))) (.cons (.old rfl rfl (.cells (.cons (.eqv tq rfl) .nil))) (.cons (.old rfl rfl (.cells (.pl tq pq))) .nil))))))))) fun h7 h7p=> by intro e;injection e with e;subst e;exact j0 z9 (k:=300) (r:=[]) (hs:=hz [(4,[.yes]),(3,[.yes]),(1,[.yes,.cells ((List.map AV.y (pad 32 s4.2.2.1)))]),(1,[.yes,.truth (((pad 32 s4.2.2.1)==(List.replicate (32:Nat) (UInt8.ofNat (0:Nat)))))]),(7,[.yes]),(1,[.yes]),(2,[.yes]),(1,[.yes,.no]),(7,[.fc]),(3,[.yes]),(1,[.fc])]) (ks:=[0,1,3]) (st1:=(St.mk [(0,(AV.yl 4)),(1,(AV.pt 3 0)),(3,(AV.pt 5 0))] 41 (AH.mk 7 [(5,(AObj.cells [(AV.b ((pad 32 s4.2.2.1)==(List.replicate (32:Nat) (UInt8.ofNat (0:Nat))))),(AV.i (wr (s4.2.1+(1:Int))))])),(4,(AObj.loop Go.LoopState.ready Option.none [(0,(AV.i lba)),(1,(bys b)),(2,(AV.pt 0 0)),(3,(AV.pt 1 0)),(4,(AV.pt 2 0)),(5,(AV.i 0)),(27,(AV.b (decide ((wr (Int.tdiv (b.length:Int) (32:Int))) > (wr ((64:Int) - lba)))))),(29,(AV.fn (95:Nat) [(AV.pt 3 0)]))] 61 [(30:Nat)] (rfA Try.prog 71 0) (rfB Try.prog 71 0))),(3,(AObj.cells [(AV.sl (s4.2.2.1.length - (32:Nat)) (List.take ((s4.2.2.1.length - (32:Nat))*1) (List.drop 32 (List.map AV.y s4.2.2.1))))])),(2,(AObj.cells [(AV.rf 6 5 0 s4.2.2.2.1.length)])),(1,(AObj.cells [(bys s4.2.2.2.2.1)])),(0,(AObj.cells [(AV.i s4.2.2.2.2.2)])),(6,(AObj.cells (s4.2.2.2.1.flatMap Ex.cells)))]) false)) kq (ac h5 (ac (fq (p:=(((0:Nat)≤(32:Nat))∧(((32:Nat)≤s4.2.2.1.length)∧((List.length (List.map AV.y s4.2.2.1))=(s4.2.2.1.length*1)))))) (ac (fq (p:=((32:Nat)≤(List.length (List.take 32 (List.map AV.y s4.2.2.1)))))) (ac (show (List.take 32 (List.take 32 (List.map AV.y s4.2.2.1)))=(List.map AV.y (pad 32 s4.2.2.1)) from (zcc (x:=s4.2.2.1) tq bq)) (ac (tq (p:=(((List.length (List.map AV.y (pad 32 s4.2.2.1)))=(32:Nat))∧((32:Nat)=(32:Nat))))) (ac (show z0q ((List.map AV.y (pad 32 s4.2.2.1))) ((List.replicate (32:Nat) (AV.y (UInt8.ofNat (0:Nat)))))=some (((pad 32 s4.2.2.1)==(List.replicate (32:Nat) (UInt8.ofNat (0:Nat))))) from (z9x tq tq tq)) (ac h6 (ac h6 (ac h6 (ac h6 (ac h7 (ac (fq (p:=(((32:Nat)≤s4.2.2.1.length)∧((s4.2.2.1.length≤s4.2.2.1.length)∧((List.length (List.map AV.y s4.2.2.1))=(s4.2.2.1.length*1)))))) an)))))))))))) (Nat.le_of_ble_eq_true rfl) (Nat.le_of_ble_eq_true rfl) (y9 [6] [] kq (.consn kq (.yl rfl) (.consn kq (.pt rfl) (.consn kq (.pt rfl) .nil))) (.cons (.old rfl rfl (.cells (.cons (.eqv tq rfl) (.cons (.eqv tq rfl) .nil)))) (.cons (.old rfl rfl (.loop (.consn kq (.eqv tq rfl) (.consn kq (.eqv tq rfl) (.consn kq (.pt rfl) (.consn kq (.pt rfl) (.consn kq (.pt rfl) (.consn kq (.eqv tq rfl) (.consn kq (.eqv tq rfl) (.consn kq (.fn (.cons (.pt rfl) .nil)) .nil)))))))))) (.cons (.old rfl rfl (.cells (.cons (.eqv tq rfl) .nil))) (.cons (.old rfl rfl (.cells (.cons (.rfn (n:=s4.2.2.2.1.length) rfl tq) .nil))) (.cons (.old rfl rfl (.cells (.cons (.eqv tq rfl) .nil))) (.cons (.old rfl rfl (.cells (.cons (.eqv tq rfl) .nil))) (.cons (.old rfl rfl (.cells (.pl tq pq))) .nil))))))))) fun h6=> by intro e;injection e with e;subst e;exact j0 z9 (k:=300) (r:=[]) (hs:=hz [(4,[.yes]),(3,[.yes]),(1,[.yes,.cells ((List.map AV.y (pad 32 s4.2.2.1)))]),(1,[.yes,.truth (((pad 32 s4.2.2.1)==(List.replicate (32:Nat) (UInt8.ofNat (0:Nat)))))]),(7,[.no,.no,.no,.no]),(8,[.fc]),(3,[.yes]),(1,[.fc])]) (ks:=[0,1,3]) (st1:=(St.mk [(0,(AV.yl 4)),(1,(AV.pt 3 0)),(3,(AV.pt 5 0))] 41 (AH.mk 7 [(5,(AObj.cells [(AV.b ((pad 32 s4.2.2.1)==(List.replicate (32:Nat) (UInt8.ofNat (0:Nat))))),(AV.i (wr (s4.2.1+(1:Int))))])),(4,(AObj.loop Go.LoopState.ready Option.none [(0,(AV.i lba)),(1,(bys b)),(2,(AV.pt 0 0)),(3,(AV.pt 1 0)),(4,(AV.pt 2 0)),(5,(AV.i 0)),(27,(AV.b (decide ((wr (Int.tdiv (b.length:Int) (32:Int))) > (wr ((64:Int) - lba)))))),(29,(AV.fn (95:Nat) [(AV.pt 3 0)]))] 61 [(30:Nat)] (rfA Try.prog 71 0) (rfB Try.prog 71 0))),(3,(AObj.cells [(AV.sl (s4.2.2.1.length - (32:Nat)) (List.take ((s4.2.2.1.length - (32:Nat))*1) (List.drop 32 (List.map AV.y s4.2.2.1))))])),(2,(AObj.cells [(AV.rf 6 5 0 s4.2.2.2.1.length)])),(1,(AObj.cells [(bys s4.2.2.2.2.1)])),(0,(AObj.cells [(AV.i s4.2.2.2.2.2)])),(6,(AObj.cells (s4.2.2.2.1.flatMap Ex.cells)))]) false)) kq (ac h5 (ac (fq (p:=(((0:Nat)≤(32:Nat))∧(((32:Nat)≤s4.2.2.1.length)∧((List.length (List.map AV.y s4.2.2.1))=(s4.2.2.1.length*1)))))) (ac (fq (p:=((32:Nat)≤(List.length (List.take 32 (List.map AV.y s4.2.2.1)))))) (ac (show (List.take 32 (List.take 32 (List.map AV.y s4.2.2.1)))=(List.map AV.y (pad 32 s4.2.2.1)) from (zcc (x:=s4.2.2.1) tq bq)) (ac (tq (p:=(((List.length (List.map AV.y (pad 32 s4.2.2.1)))=(32:Nat))∧((32:Nat)=(32:Nat))))) (ac (show z0q ((List.map AV.y (pad 32 s4.2.2.1))) ((List.replicate (32:Nat) (AV.y (UInt8.ofNat (0:Nat)))))=some (((pad 32 s4.2.2.1)==(List.replicate (32:Nat) (UInt8.ofNat (0:Nat))))) from (z9x tq tq tq)) (ac h6 (ac h6 (ac h6 (ac h6 (ac (fq (p:=(((32:Nat)≤s4.2.2.1.length)∧((s4.2.2.1.length≤s4.2.2.1.length)∧((List.length (List.map AV.y s4.2.2.1))=(s4.2.2.1.length*1)))))) an))))))))))) (Nat.le_of_ble_eq_true rfl) (Nat.le_of_ble_eq_true rfl) (y9 [6] [] kq (.consn kq (.yl rfl) (.consn kq (.pt rfl) (.consn kq (.pt rfl) .nil))) (.cons (.old rfl rfl (.cells (.cons (.eqv tq rfl) (.cons (.eqv tq rfl) .nil)))) (.cons (.old rfl rfl (.loop (.consn kq (.eqv tq rfl) (.consn kq (.eqv tq rfl) (.consn kq (.pt rfl) (.consn kq (.pt rfl) (.consn kq (.pt rfl) (.consn kq (.eqv tq rfl) (.consn kq (.eqv tq rfl) (.consn kq (.fn (.cons (.pt rfl) .nil)) .nil)))))))))) (.cons (.old rfl rfl (.cells (.cons (.eqv tq rfl) .nil))) (.cons (.old rfl rfl (.cells (.cons (.rfn (n:=s4.2.2.2.1.length) rfl tq) .nil))) (.cons (.old rfl rfl (.cells (.cons (.eqv tq rfl) .nil))) (.cons (.old rfl rfl (.cells (.cons (.eqv tq rfl) .nil))) (.cons (.old rfl rfl (.cells (.pl tq pq))) .nil))))))))) fun h5 h5p=> u6
noncomputable abbrev zhn (lba:Int) (b:List UInt8) (s4:Bool×Int×List UInt8×List Ex×List UInt8×Int):St:=(St.mk [(0,(AV.i lba)),(1,(bys b)),(2,(AV.pt 0 0)),(3,(AV.pt 1 0)),(4,(AV.pt 2 0)),(5,(AV.i 0)),(27,(AV.b (decide ((wr (Int.tdiv (b.length:Int) (32:Int))) > (wr ((64:Int) - lba)))))),(29,(AV.fn (95:Nat) [(AV.pt 3 0)])),(30,(AV.ag [(AV.b s4.1),(AV.i s4.2.1)])),(6,(AV.pt 7 0))] 61 (AH.mk 8 [(7,(AObj.cells [(AV.b s4.1),(AV.i s4.2.1)])),(5,(AObj.cells [(AV.b s4.1),(AV.i s4.2.1)])),(4,(AObj.loop Go.LoopState.busy Option.none [(0,(AV.i lba)),(1,(bys b)),(2,(AV.pt 0 0)),(3,(AV.pt 1 0)),(4,(AV.pt 2 0)),(5,(AV.i 0)),(27,(AV.b (decide ((wr (Int.tdiv (b.length:Int) (32:Int))) > (wr ((64:Int) - lba)))))),(29,(AV.fn (95:Nat) [(AV.pt 3 0)]))] 61 [(30:Nat)] (rfA Try.prog 71 0) (rfB Try.prog 71 0))),(3,(AObj.cells [(bys s4.2.2.1)])),(2,(AObj.cells [(AV.rf 6 5 0 s4.2.2.2.1.length)])),(1,(AObj.cells [(bys s4.2.2.2.2.1)])),(0,(AObj.cells [(AV.i s4.2.2.2.2.2)])),(6,(AObj.cells (s4.2.2.2.1.flatMap Ex.cells)))]) true)
noncomputable abbrev zch (lba:Int) (b:List UInt8) (s4:Bool×Int×List UInt8×List Ex×List UInt8×Int) (s7:List Ex×List UInt8×Int):St:=(St.mk [(0,(AV.i lba)),(1,(bys b)),(2,(AV.pt 0 0)),(3,(AV.pt 1 0)),(4,(AV.pt 2 0)),(5,(AV.i 0)),(27,(AV.b (decide ((wr (Int.tdiv (b.length:Int) (32:Int))) > (wr ((64:Int) - lba)))))),(29,(AV.fn (95:Nat) [(AV.pt 3 0)])),(30,(AV.ag [(AV.b s4.1),(AV.i s4.2.1)])),(6,(AV.pt 7 0))] 61 (AH.mk 9 [(7,(AObj.cells [(AV.b s4.1),(AV.i s4.2.1)])),(5,(AObj.cells [(AV.b s4.1),(AV.i s4.2.1)])),(4,(AObj.loop Go.LoopState.busy Option.none [(0,(AV.i lba)),(1,(bys b)),(2,(AV.pt 0 0)),(3,(AV.pt 1 0)),(4,(AV.pt 2 0)),(5,(AV.i 0)),(27,(AV.b (decide ((wr (Int.tdiv (b.length:Int) (32:Int))) > (wr ((64:Int) - lba)))))),(29,(AV.fn (95:Nat) [(AV.pt 3 0)]))] 61 [(30:Nat)] (rfA Try.prog 71 0) (rfB Try.prog 71 0))),(3,(AObj.cells [(bys s4.2.2.1)])),(2,(AObj.cells [(AV.rf 8 5 0 s7.1.length)])),(1,(AObj.cells [(bys s7.2.1)])),(0,(AObj.cells [(AV.i s7.2.2)])),(8,(AObj.cells (s7.1.flatMap Ex.cells)))]) true)
noncomputable def zdn (lba:Int) (b:List UInt8) (s4:Bool×Int×List UInt8×List Ex×List UInt8×Int):Option (List Ex×List UInt8×Int):=
 (tb ((!s4.1)) (tp (((0:Int)≤(wr (s4.2.1*(32:Int))))) (tp ((((0:Nat)≤(Int.toNat (wr (s4.2.1*(32:Int)))))∧(((Int.toNat (wr (s4.2.1*(32:Int))))≤s4.2.2.2.2.1.length)∧((List.length (List.map AV.y s4.2.2.2.2.1))=(s4.2.2.2.2.1.length*1))))) (tp ((((Int.toNat (wr (s4.2.1*(32:Int)))) - (0:Nat))≤(4294967296:Nat))) (tp ((((List.length (s4.2.2.2.1.flatMap Ex.cells))=(s4.2.2.2.1.length*5))∧((s4.2.2.2.1.length+(1:Nat))≤(4294967296:Nat)))) (some (((s4.2.2.2.1++[(Ex.mk s4.2.2.2.2.2 s4.2.1 2 0 (List.take (((Int.toNat (wr (s4.2.1*(32:Int)))) - (0:Nat))*1) (List.take (((Int.toNat (wr (s4.2.1*(32:Int)))) - (0:Nat))*1) s4.2.2.2.2.1)))]),((List.take ((s4.2.2.2.2.1.length - (Int.toNat (wr (s4.2.1*(32:Int)))))*1) (List.drop ((Int.toNat (wr (s4.2.1*(32:Int))))*1) s4.2.2.2.2.1)),(wr (s4.2.2.2.2.2+s4.2.1)))))))))) (tp ((((List.length (s4.2.2.2.1.flatMap Ex.cells))=(s4.2.2.2.1.length*5))∧((s4.2.2.2.1.length+(1:Nat))≤(4294967296:Nat)))) (tp (((0:Int)≤(wr (s4.2.1*(32:Int))))) (tp ((((Int.toNat (wr (s4.2.1*(32:Int))))≤s4.2.2.2.2.1.length)∧((s4.2.2.2.2.1.length≤s4.2.2.2.2.1.length)∧((List.length (List.map AV.y s4.2.2.2.2.1))=(s4.2.2.2.2.1.length*1))))) (some (((s4.2.2.2.1++[(Ex.mk s4.2.2.2.2.2 s4.2.1 1 0 ([]:List UInt8))]),((List.take ((s4.2.2.2.2.1.length - (Int.toNat (wr (s4.2.1*(32:Int)))))*1) (List.drop ((Int.toNat (wr (s4.2.1*(32:Int))))*1) s4.2.2.2.2.1)),(wr (s4.2.2.2.2.2+s4.2.1))))))))))
theorem zo6 (lba:Int) (b:List UInt8) (s4:Bool×Int×List UInt8×List Ex×List UInt8×Int) (zz:List Ex×List UInt8×Int):zdn lba b s4=some zz→u7 Try.prog cf 8 ((rfB Try.prog 71 0)) (zhn lba b s4) (zch lba b s4 zz):=by
 unfold zdn
 exact t6 (fun h8=> x8 fun h9=> x8 fun h10=> x8 fun h11=> x8 fun h12=> by intro e;injection e with e;subst e;exact j0 z9 (k:=300) (r:=[]) (hs:=hz [(8,[.fc]),(4,[.yes]),(7,[.yes,.yes,.yes,.yes]),(2,[.fc]),(2,[.fc]),(3,[.fc]),(1,[.fc,.fc,.yes,.yes]),(1,[.fc]),(12,[.yes,.yes]),(1,[.fc]),(1,[.fc,.yes])]) (ks:=[0,1,2,3,4,5,27,29,30,6]) (st1:=(St.mk [(0,(AV.i lba)),(1,(bys b)),(2,(AV.pt 0 0)),(3,(AV.pt 1 0)),(4,(AV.pt 2 0)),(5,(AV.i 0)),(27,(AV.b (decide ((wr (Int.tdiv (b.length:Int) (32:Int))) > (wr ((64:Int) - lba)))))),(29,(AV.fn (95:Nat) [(AV.pt 3 0)])),(30,(AV.ag [(AV.b s4.1),(AV.i s4.2.1)])),(6,(AV.pt 7 0))] 61 (AH.mk 12 [(11,(AObj.cells ((s4.2.2.2.1.flatMap Ex.cells)++[(AV.i s4.2.2.2.2.2),(AV.i s4.2.1),(AV.i 2),(AV.i 0),(AV.rf 9 1 0 ((Int.toNat (wr (s4.2.1*(32:Int)))) - (0:Nat)))]))),(10,(AObj.cells [(AV.i s4.2.2.2.2.2),(AV.i s4.2.1),(AV.i 2),(AV.i 0),(AV.rf 9 1 0 ((Int.toNat (wr (s4.2.1*(32:Int)))) - (0:Nat)))])),(9,(AObj.cells (List.take (((Int.toNat (wr (s4.2.1*(32:Int)))) - (0:Nat))*1) (List.map AV.y s4.2.2.2.2.1)))),(8,(AObj.cells [(AV.i s4.2.2.2.2.2),(AV.i s4.2.1),(AV.i 2),(AV.i 0),(AV.rf 9 1 0 ((Int.toNat (wr (s4.2.1*(32:Int)))) - (0:Nat)))])),(7,(AObj.cells [(AV.b s4.1),(AV.i s4.2.1)])),(5,(AObj.cells [(AV.b s4.1),(AV.i s4.2.1)])),(4,(AObj.loop Go.LoopState.busy Option.none [(0,(AV.i lba)),(1,(bys b)),(2,(AV.pt 0 0)),(3,(AV.pt 1 0)),(4,(AV.pt 2 0)),(5,(AV.i 0)),(27,(AV.b (decide ((wr (Int.tdiv (b.length:Int) (32:Int))) > (wr ((64:Int) - lba)))))),(29,(AV.fn (95:Nat) [(AV.pt 3 0)]))] 61 [(30:Nat)] (rfA Try.prog 71 0) (rfB Try.prog 71 0))),(3,(AObj.cells [(bys s4.2.2.1)])),(2,(AObj.cells [(AV.rf 11 5 0 (s4.2.2.2.1.length+(1:Nat)))])),(1,(AObj.cells [(AV.sl (s4.2.2.2.2.1.length - (Int.toNat (wr (s4.2.1*(32:Int))))) (List.take ((s4.2.2.2.2.1.length - (Int.toNat (wr (s4.2.1*(32:Int)))))*1) (List.drop ((Int.toNat (wr (s4.2.1*(32:Int))))*1) (List.map AV.y s4.2.2.2.2.1))))])),(0,(AObj.cells [(AV.i (wr (s4.2.2.2.2.2+s4.2.1)))])),(6,AObj.dead)]) true)) kq (ac h8 (ac h9 (ac h10 (ac (fq (p:=((List.length (List.take (((Int.toNat (wr (s4.2.1*(32:Int)))) - (0:Nat))*1) (List.map AV.y s4.2.2.2.2.1)))=(((Int.toNat (wr (s4.2.1*(32:Int)))) - (0:Nat))*1)))) (ac h11 (ac (tq (p:=(((0:Nat)=(0:Nat))∧((List.length [(AV.i s4.2.2.2.2.2),(AV.i s4.2.1),(AV.i 2),(AV.i 0),(AV.rf 9 1 0 ((Int.toNat (wr (s4.2.1*(32:Int)))) - (0:Nat)))])=(5:Nat))))) (ac h12 (ac h9 (ac (fq (p:=(((Int.toNat (wr (s4.2.1*(32:Int))))≤s4.2.2.2.2.1.length)∧((s4.2.2.2.2.1.length≤s4.2.2.2.2.1.length)∧((List.length (List.map AV.y s4.2.2.2.2.1))=(s4.2.2.2.2.1.length*1)))))) (ac (show z8 (rg Try.prog 71 0)=true∧x7 (Region.before (rg Try.prog 71 0)) [] 0 [(some [0],some []),(some [],some []),(some [7],some []),(some [],some []),(some [1],some []),(some [],some []),(some [7],some []),(some [],some []),(some [],some []),(some [0],some [0]),(some [1],some [1])]=true from (x0 zbn zbk kq)) an)))))))))) (Nat.le_of_ble_eq_true rfl) (Nat.le_of_ble_eq_true rfl) (y9 [11] [9] kq (.consn kq (.eqv tq rfl) (.consn kq (.eqv tq rfl) (.consn kq (.pt rfl) (.consn kq (.pt rfl) (.consn kq (.pt rfl) (.consn kq (.eqv tq rfl) (.consn kq (.eqv tq rfl) (.consn kq (.fn (.cons (.pt rfl) .nil)) (.consn kq (.agp pq) (.consn kq (.pt rfl) .nil)))))))))) (.cons (.old rfl rfl (.cells (.pl rfl pq))) (.cons (.old rfl rfl (.cells (.pl rfl pq))) (.cons (.old rfl rfl (.loop (.consn kq (.eqv tq rfl) (.consn kq (.eqv tq rfl) (.consn kq (.pt rfl) (.consn kq (.pt rfl) (.consn kq (.pt rfl) (.consn kq (.eqv tq rfl) (.consn kq (.eqv tq rfl) (.consn kq (.fn (.cons (.pt rfl) .nil)) .nil)))))))))) (.cons (.old rfl rfl (.cells (.cons (.eqv tq rfl) .nil))) (.cons (.old rfl rfl (.cells (.cons (.rfn (n:=(s4.2.2.2.1.length+(1:Nat))) rfl tq) .nil))) (.cons (.old rfl rfl (.cells (.cons (.eqv tq rfl) .nil))) (.cons (.old rfl rfl (.cells (.cons (.eqv tq rfl) .nil))) (.cons (.old rfl rfl (.cells (.cast rfl tq (.app (.pl rfl pq) (.cons (.eqv rfl rfl) (.cons (.eqv rfl rfl) (.cons (.eqv rfl rfl) (.cons (.eqv rfl rfl) (.cons (.frzn rfl tq pq (by simp) rfl) .nil))))))))) .nil)))))))))) fun h8=> x8 fun h9=> x8 fun h10=> x8 fun h11=> by intro e;injection e with e;subst e;exact j0 z9 (k:=300) (r:=[]) (hs:=hz [(8,[.fc]),(4,[.no]),(3,[.fc]),(1,[.fc,.fc,.yes,.yes]),(1,[.fc]),(12,[.yes,.yes]),(1,[.fc]),(1,[.fc,.yes])]) (ks:=[0,1,2,3,4,5,27,29,30,6]) (st1:=(St.mk [(0,(AV.i lba)),(1,(bys b)),(2,(AV.pt 0 0)),(3,(AV.pt 1 0)),(4,(AV.pt 2 0)),(5,(AV.i 0)),(27,(AV.b (decide ((wr (Int.tdiv (b.length:Int) (32:Int))) > (wr ((64:Int) - lba)))))),(29,(AV.fn (95:Nat) [(AV.pt 3 0)])),(30,(AV.ag [(AV.b s4.1),(AV.i s4.2.1)])),(6,(AV.pt 7 0))] 61 (AH.mk 11 [(10,(AObj.cells ((s4.2.2.2.1.flatMap Ex.cells)++[(AV.i s4.2.2.2.2.2),(AV.i s4.2.1),(AV.i (Int.ofNat 1)),(AV.i (Int.ofNat 0)),AV.nl]))),(9,(AObj.cells [(AV.i s4.2.2.2.2.2),(AV.i s4.2.1),(AV.i 1),(AV.i 0),AV.nl])),(8,(AObj.cells [(AV.i s4.2.2.2.2.2),(AV.i s4.2.1),(AV.i 1),(AV.i 0),AV.nl])),(7,(AObj.cells [(AV.b s4.1),(AV.i s4.2.1)])),(5,(AObj.cells [(AV.b s4.1),(AV.i s4.2.1)])),(4,(AObj.loop Go.LoopState.busy Option.none [(0,(AV.i lba)),(1,(bys b)),(2,(AV.pt 0 0)),(3,(AV.pt 1 0)),(4,(AV.pt 2 0)),(5,(AV.i 0)),(27,(AV.b (decide ((wr (Int.tdiv (b.length:Int) (32:Int))) > (wr ((64:Int) - lba)))))),(29,(AV.fn (95:Nat) [(AV.pt 3 0)]))] 61 [(30:Nat)] (rfA Try.prog 71 0) (rfB Try.prog 71 0))),(3,(AObj.cells [(bys s4.2.2.1)])),(2,(AObj.cells [(AV.rf 10 5 0 (s4.2.2.2.1.length+(1:Nat)))])),(1,(AObj.cells [(AV.sl (s4.2.2.2.2.1.length - (Int.toNat (wr (s4.2.1*(32:Int))))) (List.take ((s4.2.2.2.2.1.length - (Int.toNat (wr (s4.2.1*(32:Int)))))*1) (List.drop ((Int.toNat (wr (s4.2.1*(32:Int))))*1) (List.map AV.y s4.2.2.2.2.1))))])),(0,(AObj.cells [(AV.i (wr (s4.2.2.2.2.2+s4.2.1)))])),(6,AObj.dead)]) true)) kq (ac h8 (ac (tq (p:=(((0:Nat)=(0:Nat))∧((List.length [(AV.i s4.2.2.2.2.2),(AV.i s4.2.1),(AV.i (Int.ofNat 1)),(AV.i (Int.ofNat 0)),AV.nl])=(5:Nat))))) (ac h9 (ac h10 (ac h11 (ac (show z8 (rg Try.prog 71 0)=true∧x7 (Region.before (rg Try.prog 71 0)) [] 0 [(some [0],some []),(some [],some []),(some [7],some []),(some [],some []),(some [1],some []),(some [],some []),(some [7],some []),(some [],some []),(some [],some []),(some [0],some [0]),(some [1],some [1])]=true from (x0 zbn zbk kq)) an)))))) (Nat.le_of_ble_eq_true rfl) (Nat.le_of_ble_eq_true rfl) (y9 [10] [] kq (.consn kq (.eqv tq rfl) (.consn kq (.eqv tq rfl) (.consn kq (.pt rfl) (.consn kq (.pt rfl) (.consn kq (.pt rfl) (.consn kq (.eqv tq rfl) (.consn kq (.eqv tq rfl) (.consn kq (.fn (.cons (.pt rfl) .nil)) (.consn kq (.agp pq) (.consn kq (.pt rfl) .nil)))))))))) (.cons (.old rfl rfl (.cells (.pl rfl pq))) (.cons (.old rfl rfl (.cells (.pl rfl pq))) (.cons (.old rfl rfl (.loop (.consn kq (.eqv tq rfl) (.consn kq (.eqv tq rfl) (.consn kq (.pt rfl) (.consn kq (.pt rfl) (.consn kq (.pt rfl) (.consn kq (.eqv tq rfl) (.consn kq (.eqv tq rfl) (.consn kq (.fn (.cons (.pt rfl) .nil)) .nil)))))))))) (.cons (.old rfl rfl (.cells (.cons (.eqv tq rfl) .nil))) (.cons (.old rfl rfl (.cells (.cons (.rfn (n:=(s4.2.2.2.1.length+(1:Nat))) rfl tq) .nil))) (.cons (.old rfl rfl (.cells (.cons (.eqv tq rfl) .nil))) (.cons (.old rfl rfl (.cells (.cons (.eqv tq rfl) .nil))) (.cons (.old rfl rfl (.cells (.cast rfl tq (.app (.pl rfl pq) (.cons (.eqv rfl rfl) (.cons (.eqv rfl rfl) (.cons (.eqv rfl rfl) (.cons (.eqv rfl rfl) (.cons (.pur 1 rfl (by simp)) .nil))))))))) .nil)))))))))
noncomputable def zvd (lba:Int) (b:List UInt8):Option (List Ex×Int):=
 (tb (((Int.tmod (b.length:Int) (32:Int)) !=(0:Int))) (some ((([]:List Ex),(150:Int)))) (tb ((decide (lba < (0:Int)))) (some ((([]:List Ex),(150:Int)))) (tb ((decide (lba > (64:Int)))) (some ((([]:List Ex),(150:Int)))) (tb ((decide ((wr (Int.tdiv (b.length:Int) (32:Int))) > (wr ((64:Int) - lba))))) (some ((([]:List Ex),(150:Int)))) (th (z5h lba b) ((false,((0:Int),(b,(([]:List Ex),(b,lba)))))) fun s4=> (tb ((decide ((s4.2.2.1.length:Int)≥(32:Int)))) none (tb ((decide (s4.2.1 > (0:Int)))) (tc (zdn lba b s4) fun s7=> (tp ((((0:Nat)=(0:Nat))∧((List.length (s7.1.flatMap Ex.cells))=(s7.1.length*5)))) (some ((s7.1,(0:Int)))))) (tp ((((0:Nat)=(0:Nat))∧((List.length (s4.2.2.2.1.flatMap Ex.cells))=(s4.2.2.2.1.length*5)))) (some ((s4.2.2.2.1,(0:Int))))))))))))
abbrev y0v (lba:Int) (b:List UInt8) (r:List Ex×Int):Prop:=zbm Try.prog cf false [[5],[]] 71 [.i (lba),bys (b)] (.tu [exs (r.1),.i (r.2)])
theorem zxs (lba:Int) (b:List UInt8) (r:List Ex×Int):zvd lba b=some r→y0v lba b r:=by
 unfold zvd
 exact tbN (fun h0 h0p=> by intro e;injection e with e;subst e;exact zas z9 (k:=300) (r:=[]) (hs:=hz [(10,[.yes,.yes,.yes]),(14,[.fc]),(1,[])]) (R:=fun H=> ((AV.tu [(AV.rf (AH.nx H) 5 0 0),(AV.i 150)]),(AH.mk ((AH.nx H)+(1:Nat)) (((AH.nx H),(AObj.cells ([]:List AV)))::(AH.l H))))) (fun H=> kq) (ac h0 (ac h0 (ac h0 an))) (fun H=> oq)) fun h0 h0p=> tbD (fun h1 h1p=> by intro e;injection e with e;subst e;exact zas z9 (k:=300) (r:=[]) (hs:=hz [(10,[.no]),(2,[.no]),(1,[.no]),(1,[.yes,.yes,.yes]),(10,[.fc]),(1,[])]) (R:=fun H=> ((AV.tu [(AV.rf (AH.nx H) 5 0 0),(AV.i 150)]),(AH.mk ((AH.nx H)+(1:Nat)) (((AH.nx H),(AObj.cells ([]:List AV)))::(AH.l H))))) (fun H=> kq) (ac h0 (ac h0 (ac h0 (ac h1 (ac h1 (ac h1 an)))))) (fun H=> oq)) fun h1 h1p=> tbD (fun h2 h2p=> by intro e;injection e with e;subst e;exact zas z9 (k:=300) (r:=[]) (hs:=hz [(10,[.no]),(2,[.no]),(1,[.no]),(1,[.no]),(2,[.no]),(1,[.no]),(1,[.yes,.yes,.yes,.yes,.yes,.yes,.yes]),(2,[.fc]),(1,[])]) (R:=fun H=> ((AV.tu [(AV.rf (AH.nx H) 5 0 0),(AV.i 150)]),(AH.mk ((AH.nx H)+(1:Nat)) (((AH.nx H),(AObj.cells ([]:List AV)))::(AH.l H))))) (fun H=> kq) (ac h0 (ac h0 (ac h0 (ac h1 (ac h1 (ac h1 (ac h2 (ac h2 (ac h2 (ac h2 (ac h2 (ac h2 (ac h2 an))))))))))))) (fun H=> oq)) fun h2 h2p=> tbD (fun h3 h3p=> by intro e;injection e with e;subst e;exact zas z9 (k:=300) (r:=[]) (hs:=hz [(10,[.no]),(2,[.no]),(1,[.no]),(1,[.no]),(2,[.no]),(1,[.no]),(1,[.no]),(2,[.no]),(1,[.no]),(1,[.no]),(2,[.no]),(1,[.no]),(1,[.no,.yes]),(1,[.fc]),(1,[])]) (R:=fun H=> ((AV.tu [(AV.rf (AH.nx H) 5 0 0),(AV.i 150)]),(AH.mk ((AH.nx H)+(1:Nat)) (((AH.nx H),(AObj.cells ([]:List AV)))::(AH.l H))))) (fun H=> kq) (ac h0 (ac h0 (ac h0 (ac h1 (ac h1 (ac h1 (ac h2 (ac h2 (ac h2 (ac h2 (ac h2 (ac h2 (ac h2 (ac h3 an)))))))))))))) (fun H=> oq)) fun h3 h3p=> z13 fun s4 h4=> tbD (fun h5 h5p=> u6) fun h5 h5p=> tbD (fun h6 h6p=> w6 fun s7 h7=> x8 fun h8=> by intro e;injection e with e;subst e;exact zas z9 (k:=300) (r:=[]) (hs:=hz [(10,[.no]),(2,[.no]),(1,[.no]),(1,[.no]),(2,[.no]),(1,[.no]),(1,[.no]),(2,[.no]),(1,[.no]),(1,[.no]),(2,[.no]),(1,[.no]),(1,[.no,.no]),(8,[.head (z5q lba b s4)]),(4,[.no]),(4,[.yes]),(2,[.fc]),(3,[.fc,.res .normal (zch lba b s4 s7)]),(3,[.fc]),(1,[.yes,.yes])]) (R:=fun H=> ((AV.tu [(AV.rf (AH.nx H) 5 0 s7.1.length),(AV.i 0)]),(AH.mk ((AH.nx H)+(1:Nat)) (((AH.nx H),(AObj.cells (s7.1.flatMap Ex.cells)))::(AH.l H))))) (fun H=> kq) (ac h0 (ac h0 (ac h0 (ac h1 (ac h1 (ac h1 (ac h2 (ac h2 (ac h2 (ac h2 (ac h2 (ac h2 (ac h2 (ac h3 (ac (show x5 Try.prog cf (lp Try.prog 95 0) (zi3 lba b) (z5q lba b s4) from (x5.of (zfd lba b) (y9 [6] [] kq (.consn kq (.yl rfl) (.consn kq (.pt rfl) (.consn kq (.pt rfl) .nil))) (.cons (.old rfl rfl (.cells (.cons (.eqv tq rfl) (.cons (.eqv tq rfl) .nil)))) (.cons (.old rfl rfl (.loop (.consn kq (.eqv tq rfl) (.consn kq (.eqv tq rfl) (.consn kq (.pt rfl) (.consn kq (.pt rfl) (.consn kq (.pt rfl) (.consn kq (.eqv tq rfl) (.consn kq (.eqv tq rfl) (.consn kq (.fn (.cons (.pt rfl) .nil)) .nil)))))))))) (.cons (.old rfl rfl (.cells (.cons (.eqv tq rfl) .nil))) (.cons (.old rfl rfl (.cells (.cons (.nln tq) .nil))) (.cons (.old rfl rfl (.cells (.cons (.eqv tq rfl) .nil))) (.cons (.old rfl rfl (.cells (.cons (.eqv tq rfl) .nil))) (.cons (.none rfl (Nat.le_refl _) rfl) .nil)))))))) h4)) (ac h5 (ac h6 (ac (show Ev Try.prog cf ((rfB Try.prog 71 0)) (zhn lba b s4) (.normal,zch lba b s4 s7) from (u7.ev (zo6 lba b s4 _ h7) rfl)) (ac h8 (ac (pq (p:=Pl false ((s7.1.flatMap Ex.cells)))) an)))))))))))))))))))) (fun H=> oq)) fun h6 h6p=> x8 fun h7=> by intro e;injection e with e;subst e;exact zas z9 (k:=300) (r:=[]) (hs:=hz [(10,[.no]),(2,[.no]),(1,[.no]),(1,[.no]),(2,[.no]),(1,[.no]),(1,[.no]),(2,[.no]),(1,[.no]),(1,[.no]),(2,[.no]),(1,[.no]),(1,[.no,.no]),(8,[.head (z5q lba b s4)]),(4,[.no]),(4,[.no]),(3,[.fc]),(1,[.yes,.yes])]) (R:=fun H=> ((AV.tu [(AV.rf (AH.nx H) 5 0 s4.2.2.2.1.length),(AV.i 0)]),(AH.mk ((AH.nx H)+(1:Nat)) (((AH.nx H),(AObj.cells (s4.2.2.2.1.flatMap Ex.cells)))::(AH.l H))))) (fun H=> kq) (ac h0 (ac h0 (ac h0 (ac h1 (ac h1 (ac h1 (ac h2 (ac h2 (ac h2 (ac h2 (ac h2 (ac h2 (ac h2 (ac h3 (ac (show x5 Try.prog cf (lp Try.prog 95 0) (zi3 lba b) (z5q lba b s4) from (x5.of (zfd lba b) (y9 [6] [] kq (.consn kq (.yl rfl) (.consn kq (.pt rfl) (.consn kq (.pt rfl) .nil))) (.cons (.old rfl rfl (.cells (.cons (.eqv tq rfl) (.cons (.eqv tq rfl) .nil)))) (.cons (.old rfl rfl (.loop (.consn kq (.eqv tq rfl) (.consn kq (.eqv tq rfl) (.consn kq (.pt rfl) (.consn kq (.pt rfl) (.consn kq (.pt rfl) (.consn kq (.eqv tq rfl) (.consn kq (.eqv tq rfl) (.consn kq (.fn (.cons (.pt rfl) .nil)) .nil)))))))))) (.cons (.old rfl rfl (.cells (.cons (.eqv tq rfl) .nil))) (.cons (.old rfl rfl (.cells (.cons (.nln tq) .nil))) (.cons (.old rfl rfl (.cells (.cons (.eqv tq rfl) .nil))) (.cons (.old rfl rfl (.cells (.cons (.eqv tq rfl) .nil))) (.cons (.none rfl (Nat.le_refl _) rfl) .nil)))))))) h4)) (ac h5 (ac h6 (ac h7 (ac (pq (p:=Pl false ((s4.2.2.2.1.flatMap Ex.cells)))) an))))))))))))))))))) (fun H=> oq)
noncomputable abbrev zno (x:Ex) (s1:List Ex×Int):St:=(St.mk [(0,(AV.ag (xc x))),(1,(AV.pt 0 0)),(2,AV.nl),(6,(AV.pt 0 2)),(7,(AV.i x.kind)),(8,(AV.b (x.kind !=(2:Int)))),(13,(AV.pt 0 0)),(14,(AV.i x.lba)),(15,(AV.pt 0 4)),(16,(bys x.d)),(17,(AV.tu [(AV.rf 1 5 0 s1.1.length),(AV.i s1.2)])),(12,(AV.tu [(AV.rf 1 5 0 s1.1.length),(AV.i s1.2)])),(18,(AV.rf 1 5 0 s1.1.length)),(19,(AV.i s1.2)),(3,(AV.rf 1 5 0 s1.1.length)),(4,(AV.i s1.2)),(20,(AV.rf 1 5 0 s1.1.length)),(21,(AV.i (s1.1.length:Int))),(22,(AV.i 0))] 33 (AH.mk 2 [(1,(AObj.cells (s1.1.flatMap Ex.cells))),(0,(AObj.cells (xc x)))]) false)
noncomputable abbrev z7v (x:Ex) (s1:List Ex×Int) (s2:Int×List Ex):St:=(St.mk [(1,(AV.pt 0 0)),(3,(AV.rf 1 5 0 s1.1.length)),(21,(AV.i (s1.1.length:Int))),(22,(AV.i s2.1))] 33 (AH.mk 2 [(1,(AObj.cells (s2.2.flatMap Ex.cells))),(0,(AObj.cells (xc x)))]) false)
noncomputable def z2l (x:Ex) (s1:List Ex×Int) (s2:Int×List Ex):Option (Int×List Ex):=
 (tb ((decide (s2.1 < (s1.1.length:Int)))) (tp ((((0:Int)≤s2.1)∧(s2.1 < (s1.1.length:Int)))) (tp ((((List.length [(AV.i x.gen)])=(1:Nat))∧(((((0:Nat)+(s2.1.toNat*5))+(3:Nat))+(List.length [(AV.i x.gen)]))≤(List.length (s2.2.flatMap Ex.cells))))) (some (((wr (s2.1+(1:Int))),(List.set s2.2 s2.1.toNat (Ex.mk (z0 s2.2 s2.1.toNat).lba (z0 s2.2 s2.1.toNat).len (z0 s2.2 s2.1.toNat).kind x.gen (z0 s2.2 s2.1.toNat).d))))))) none)
theorem zl3 (x:Ex) (s1:List Ex×Int) (s2 zz:Int×List Ex):z2l x s1 s2=some zz→u7 Try.prog cf 2 (lp Try.prog 44 0) (z7v x s1 s2) (z7v x s1 zz):=by
 unfold z2l
 exact tbD (fun h3 h3p=> x8 fun h4=> x8 fun h5=> by intro e;injection e with e;subst e;exact j0 z9 (k:=300) (r:=[]) (hs:=hz [(1,[.yes]),(7,[.yes]),(1,[.yes,.cells ((List.flatMap Ex.cells (List.set s2.2 s2.1.toNat (Ex.mk (z0 s2.2 s2.1.toNat).lba (z0 s2.2 s2.1.toNat).len (z0 s2.2 s2.1.toNat).kind x.gen (z0 s2.2 s2.1.toNat).d))))]),(2,[])]) (ks:=[1,3,21,22]) (st1:=(St.mk [(1,(AV.pt 0 0)),(3,(AV.rf 1 5 0 s1.1.length)),(21,(AV.i (s1.1.length:Int))),(22,(AV.i (wr (s2.1+(1:Int)))))] 33 (AH.mk 2 [(1,(AObj.cells (List.flatMap Ex.cells (List.set s2.2 s2.1.toNat (Ex.mk (z0 s2.2 s2.1.toNat).lba (z0 s2.2 s2.1.toNat).len (z0 s2.2 s2.1.toNat).kind x.gen (z0 s2.2 s2.1.toNat).d))))),(0,(AObj.cells (xc x)))]) false)) kq (ac h3 (ac h4 (ac h5 (ac (show (((List.take (((0:Nat)+(s2.1.toNat*5))+(3:Nat)) (s2.2.flatMap Ex.cells))++[(AV.i x.gen)])++(List.drop ((((0:Nat)+(s2.1.toNat*5))+(3:Nat))+(List.length [(AV.i x.gen)])) (s2.2.flatMap Ex.cells)))=(List.flatMap Ex.cells (List.set s2.2 s2.1.toNat (Ex.mk (z0 s2.2 s2.1.toNat).lba (z0 s2.2 s2.1.toNat).len (z0 s2.2 s2.1.toNat).kind x.gen (z0 s2.2 s2.1.toNat).d))) from (by rw [show (((0:Nat)+(s2.1.toNat*5))+(3:Nat))=(s2.1.toNat)*5+3 by omega];exact zak _ _ 3 _ ((Ex.mk (z0 s2.2 s2.1.toNat).lba (z0 s2.2 s2.1.toNat).len (z0 s2.2 s2.1.toNat).kind x.gen (z0 s2.2 s2.1.toNat).d)) bq (by simp) rfl)) an)))) (Nat.le_of_ble_eq_true rfl) (Nat.le_of_ble_eq_true rfl) (y9 [] [] kq (.consn kq (.pt rfl) (.consn kq (.rf rfl) (.consn kq (.eqv tq rfl) (.consn kq (.eqv tq rfl) .nil)))) (.cons (.old rfl rfl (.cells (.pl tq pq))) (.cons (.old rfl rfl (.cells (.pl rfl pq))) .nil)))) fun h3 h3p=> u6
noncomputable def znj (x:Ex):Option (List Ex):=
 (tb ((x.kind !=(2:Int))) (some ([(Ex.mk x.lba x.len x.kind x.gen ([]:List UInt8))])) (tc (zvd (x.lba) (x.d)) fun s1=> (th (z2l x s1) (((0:Int),s1.1)) fun s2=> (tb ((decide (s2.1 < (s1.1.length:Int)))) none (tp ((((0:Nat)=(0:Nat))∧((List.length (s2.2.flatMap Ex.cells))=(s1.1.length*5)))) (some (s2.2)))))))
abbrev zwa (x:Ex) (r:List Ex):Prop:=z06 Try.prog cf false 44 [Ex.av (x)] (exs (r))
theorem zt6 (x:Ex) (r:List Ex):znj x=some r→zwa x r:=by
 unfold znj
 exact tbN (fun h0 h0p=> by intro e;injection e with e;subst e;exact x4 z9 (k:=300) (r:=[]) (hs:=hz [(6,[.yes]),(2,[.fc]),(1,[.fc]),(1,[.fc,.fc]),(1,[.yes]),(1,[])]) (raw:=(AV.sl 1 [(AV.i x.lba),(AV.i x.len),(AV.i x.kind),(AV.i x.gen),(AV.sl 0 ([]:List AV))])) kq (ac h0 (ac (tq (p:=(((0:Nat)=(0:Nat))∧((List.length [(AV.i x.lba),(AV.i x.len),(AV.i x.kind),(AV.i x.gen),AV.nl])=(5:Nat))))) an)) tq) fun h0 h0p=> w6 fun s1 h1=> z13 fun s2 h2=> tbD (fun h3 h3p=> u6) fun h3 h3p=> x8 fun h4=> by intro e;injection e with e;subst e;exact x4 z9 (k:=300) (r:=[]) (hs:=hz [(6,[.no]),(7,[.fres (.tu [exs (s1.1),.i (s1.2)])]),(8,[.head (z7v x s1 s2)]),(1,[.no]),(2,[.yes,.yes])]) (raw:=(AV.sl s1.1.length (s2.2.flatMap Ex.cells))) kq (ac h0 (ac (zxs (x.lba) (x.d) _ h1) (ac (show x5 Try.prog cf (lp Try.prog 44 0) (zno x s1) (z7v x s1 s2) from (x5.of (zl3 x s1) (y9 [] [] kq (.consn kq (.pt rfl) (.consn kq (.rf rfl) (.consn kq (.eqv tq rfl) (.consn kq (.eqv tq rfl) .nil)))) (.cons (.old rfl rfl (.cells (.pl tq pq))) (.cons (.old rfl rfl (.cells (.pl rfl pq))) .nil))) h2)) (ac h3 (ac h4 (ac (pq (p:=Pl false ((s2.2.flatMap Ex.cells)))) an)))))) tq
noncomputable abbrev zo9 (l:List Ex) (s1:List Ex×Int×Int) (s4:Bool) (s7:List Ex):St:=(St.mk [(2,(AV.rf 0 5 0 s1.1.length)),(4,(AV.i (wr ((z0 l s1.2.2.toNat).lba+(z0 l s1.2.2.toNat).len)))),(15,(exs l)),(16,(AV.i (l.length:Int))),(17,(AV.i s1.2.2)),(18,(AV.b (decide (s1.2.2 < (l.length:Int))))),(19,(AV.ip (List.drop (s1.2.2.toNat*5) (l.flatMap Ex.cells)))),(20,(AV.ag (xc (z0 l s1.2.2.toNat)))),(6,(AV.pt 1 0)),(21,(AV.ag (xc (z0 l s1.2.2.toNat)))),(22,(AV.b s4)),(23,(AV.b (!s4))),(24,(AV.b (!s4))),(25,(AV.pt 1 0)),(26,(AV.i (z0 l s1.2.2.toNat).lba)),(27,(AV.i s1.2.1)),(28,(AV.b (decide ((z0 l s1.2.2.toNat).lba < s1.2.1)))),(29,(AV.b (decide ((z0 l s1.2.2.toNat).lba < s1.2.1)))),(30,(AV.pt 1 0)),(31,(AV.i (z0 l s1.2.2.toNat).lba)),(32,(AV.pt 1 1)),(33,(AV.i (z0 l s1.2.2.toNat).len)),(34,(AV.i (wr ((z0 l s1.2.2.toNat).lba+(z0 l s1.2.2.toNat).len)))),(35,(AV.ag (xc (z0 l s1.2.2.toNat)))),(36,(exs s7)),(37,(AV.i (s7.length:Int))),(38,(AV.i 0))] 70 (AH.mk 2 [(1,(AObj.cells (xc (z0 l s1.2.2.toNat)))),(0,(AObj.cells (s1.1.flatMap Ex.cells)))]) false)
noncomputable abbrev z7t (l:List Ex) (s1:List Ex×Int×Int) (s4:Bool) (s7:List Ex) (s8:Int×List Ex×List Ex):St:=(St.mk [(2,(AV.rf 2 5 0 s8.2.2.length)),(4,(AV.i (wr ((z0 l s1.2.2.toNat).lba+(z0 l s1.2.2.toNat).len)))),(15,(exs l)),(16,(AV.i (l.length:Int))),(17,(AV.i s1.2.2)),(36,(exs s7)),(37,(AV.i (s7.length:Int))),(38,(AV.i s8.1))] 70 (AH.mk 3 [(2,(AObj.cells (s8.2.2.flatMap Ex.cells)))]) false)
noncomputable def z17 (l:List Ex) (s1:List Ex×Int×Int) (s4:Bool) (s7:List Ex) (s8:Int×List Ex×List Ex):Option (Int×List Ex×List Ex):=
 (tb ((decide (s8.1 < (s7.length:Int)))) (tp ((((0:Int)≤s8.1)∧(s8.1 < (s7.length:Int)))) (tb ((decide ((s8.2.2.length:Int) > (0:Int)))) (tp ((((0:Int)≤(wr ((s8.2.2.length:Int) - (1:Int))))∧((wr ((s8.2.2.length:Int) - (1:Int))) < (s8.2.2.length:Int)))) (tc (z64 ((z0 s8.2.2 (Int.toNat (wr ((s8.2.2.length:Int) - (1:Int)))))) ((z0 s7 s8.1.toNat))) fun s13=> (tb ((s13.2==(0:Int))) (tp ((((List.length (xc s13.1))=(5:Nat))∧((((0:Nat)+((Int.toNat (wr ((s8.2.2.length:Int) - (1:Int))))*5))+(List.length (xc s13.1)))≤(List.length (s8.2.2.flatMap Ex.cells))))) (some (((wr (s8.1+(1:Int))),(([]:List Ex),(List.set s8.2.2 (Int.toNat (wr ((s8.2.2.length:Int) - (1:Int)))) s13.1)))))) (tp ((((List.length (s8.2.2.flatMap Ex.cells))=(s8.2.2.length*5))∧((s8.2.2.length+(1:Nat))≤(4294967296:Nat)))) (some (((wr (s8.1+(1:Int))),(([]:List Ex),(s8.2.2++[(z0 s7 s8.1.toNat)]))))))))) (tp ((((List.length (s8.2.2.flatMap Ex.cells))=(s8.2.2.length*5))∧((s8.2.2.length+(1:Nat))≤(4294967296:Nat)))) (some (((wr (s8.1+(1:Int))),(([]:List Ex),(s8.2.2++[(z0 s7 s8.1.toNat)])))))))) none)
theorem zkd (l:List Ex) (s1:List Ex×Int×Int) (s4:Bool) (s7:List Ex) (s8 zz:Int×List Ex×List Ex):z17 l s1 s4 s7 s8=some zz→u7 Try.prog cf 2 (lp Try.prog 26 1) (z7t l s1 s4 s7 s8) (z7t l s1 s4 s7 zz):=by
 unfold z17
 exact tbD (fun h9 h9p=> x8 fun h10=> tbD (fun h11 h11p=> x8 fun h12=> w6 fun s13 h13=> tbE (fun h14 h14p=> x8 fun h15=> by intro e;injection e with e;subst e;exact j0 z9 (k:=300) (r:=[]) (hs:=hz [(1,[.yes,.yes,.yes,.cells ((Ex.cells (z0 s7 s8.1.toNat)))]),(2,[.fc]),(5,[.yes]),(3,[.yes,.yes,.cells ((Ex.cells (z0 s8.2.2 (Int.toNat (wr ((s8.2.2.length:Int) - (1:Int)))))))]),(1,[.fc]),(1,[.fres (.tu [Ex.av (s13.1),.i (s13.2)])]),(5,[.fc]),(1,[.yes]),(2,[.yes]),(4,[.fc,.yes,.yes,.cells ((List.flatMap Ex.cells (List.set s8.2.2 (Int.toNat (wr ((s8.2.2.length:Int) - (1:Int)))) s13.1)))]),(2,[])]) (ks:=[2,4,15,16,17,36,37,38]) (st1:=(St.mk [(2,(AV.rf 2 5 0 s8.2.2.length)),(4,(AV.i (wr ((z0 l s1.2.2.toNat).lba+(z0 l s1.2.2.toNat).len)))),(15,(exs l)),(16,(AV.i (l.length:Int))),(17,(AV.i s1.2.2)),(36,(exs s7)),(37,(AV.i (s7.length:Int))),(38,(AV.i (wr (s8.1+(1:Int)))))] 70 (AH.mk 5 [(4,(AObj.cells (xc s13.1))),(3,(AObj.cells (xc (z0 s7 s8.1.toNat)))),(2,(AObj.cells (List.flatMap Ex.cells (List.set s8.2.2 (Int.toNat (wr ((s8.2.2.length:Int) - (1:Int)))) s13.1))))]) false)) kq (ac h9 (ac h10 (ac (fq (p:=((5:Nat)≤(List.length (List.drop (s8.1.toNat*5) (s7.flatMap Ex.cells)))))) (ac (show (List.take 5 (List.drop (s8.1.toNat*5) (s7.flatMap Ex.cells)))=(Ex.cells (z0 s7 s8.1.toNat)) from (w7 bq bq)) (ac h11 (ac h12 (ac (fq (p:=((((0:Nat)+((Int.toNat (wr ((s8.2.2.length:Int) - (1:Int))))*5))+(5:Nat))≤(List.length (s8.2.2.flatMap Ex.cells))))) (ac (show (List.take 5 (List.drop ((0:Nat)+((Int.toNat (wr ((s8.2.2.length:Int) - (1:Int))))*5)) (s8.2.2.flatMap Ex.cells)))=(Ex.cells (z0 s8.2.2 (Int.toNat (wr ((s8.2.2.length:Int) - (1:Int)))))) from (w7 bq bq)) (ac (z0h ((z0 s8.2.2 (Int.toNat (wr ((s8.2.2.length:Int) - (1:Int)))))) ((z0 s7 s8.1.toNat)) _ h13).any0 (ac (show z8 (rg Try.prog 26 0)=true∧x7 (Region.before (rg Try.prog 26 0)) [] 0 [(some [],some []),(some [],some []),(some [],some []),(some [],some []),(some [2],some []),(some [3],some []),(some [],some []),(some [],some []),(some [],some []),(some [],some []),(some [],some [4]),(some [4],some [4]),(some [],some [])]=true from (x0 zm2 zmr kq)) (ac h14 (ac h12 (ac h15 (ac (show (((List.take ((0:Nat)+((Int.toNat (wr ((s8.2.2.length:Int) - (1:Int))))*5)) (s8.2.2.flatMap Ex.cells))++(xc s13.1))++(List.drop (((0:Nat)+((Int.toNat (wr ((s8.2.2.length:Int) - (1:Int))))*5))+(List.length (xc s13.1))) (s8.2.2.flatMap Ex.cells)))=(List.flatMap Ex.cells (List.set s8.2.2 (Int.toNat (wr ((s8.2.2.length:Int) - (1:Int)))) s13.1)) from (z4y (x:=s13.1) bq bq tq)) an)))))))))))))) (Nat.le_of_ble_eq_true rfl) (Nat.le_of_ble_eq_true rfl) (y9 [2] [] kq (.consn kq (.rfn (n:=s8.2.2.length) rfl tq) (.consn kq (.eqv tq rfl) (.consn kq (.eqv tq rfl) (.consn kq (.eqv tq rfl) (.consn kq (.eqv tq rfl) (.consn kq (.eqv tq rfl) (.consn kq (.eqv tq rfl) (.consn kq (.eqv tq rfl) .nil)))))))) (.cons (.old rfl rfl (.cells (.pl tq pq))) .nil))) fun h14 h14p=> x8 fun h15=> by intro e;injection e with e;subst e;exact j0 z9 (k:=300) (r:=[]) (hs:=hz [(1,[.yes,.yes,.yes,.cells ((Ex.cells (z0 s7 s8.1.toNat)))]),(2,[.fc]),(5,[.yes]),(3,[.yes,.yes,.cells ((Ex.cells (z0 s8.2.2 (Int.toNat (wr ((s8.2.2.length:Int) - (1:Int)))))))]),(1,[.fc]),(1,[.fres (.tu [Ex.av (s13.1),.i (s13.2)])]),(5,[.fc]),(1,[.yes]),(2,[.no]),(2,[.fc]),(1,[.fc,.fc,.yes,.yes]),(3,[])]) (ks:=[2,4,15,16,17,36,37,38]) (st1:=(St.mk [(2,(AV.rf 6 5 0 (s8.2.2.length+(1:Nat)))),(4,(AV.i (wr ((z0 l s1.2.2.toNat).lba+(z0 l s1.2.2.toNat).len)))),(15,(exs l)),(16,(AV.i (l.length:Int))),(17,(AV.i s1.2.2)),(36,(exs s7)),(37,(AV.i (s7.length:Int))),(38,(AV.i (wr (s8.1+(1:Int)))))] 70 (AH.mk 7 [(6,(AObj.cells ((s8.2.2.flatMap Ex.cells)++(xc (z0 s7 s8.1.toNat))))),(5,(AObj.cells (xc (z0 s7 s8.1.toNat)))),(4,(AObj.cells (xc s13.1))),(3,(AObj.cells (xc (z0 s7 s8.1.toNat)))),(2,AObj.dead)]) false)) kq (ac h9 (ac h10 (ac (fq (p:=((5:Nat)≤(List.length (List.drop (s8.1.toNat*5) (s7.flatMap Ex.cells)))))) (ac (show (List.take 5 (List.drop (s8.1.toNat*5) (s7.flatMap Ex.cells)))=(Ex.cells (z0 s7 s8.1.toNat)) from (w7 bq bq)) (ac h11 (ac h12 (ac (fq (p:=((((0:Nat)+((Int.toNat (wr ((s8.2.2.length:Int) - (1:Int))))*5))+(5:Nat))≤(List.length (s8.2.2.flatMap Ex.cells))))) (ac (show (List.take 5 (List.drop ((0:Nat)+((Int.toNat (wr ((s8.2.2.length:Int) - (1:Int))))*5)) (s8.2.2.flatMap Ex.cells)))=(Ex.cells (z0 s8.2.2 (Int.toNat (wr ((s8.2.2.length:Int) - (1:Int)))))) from (w7 bq bq)) (ac (z0h ((z0 s8.2.2 (Int.toNat (wr ((s8.2.2.length:Int) - (1:Int)))))) ((z0 s7 s8.1.toNat)) _ h13).any0 (ac (show z8 (rg Try.prog 26 0)=true∧x7 (Region.before (rg Try.prog 26 0)) [] 0 [(some [],some []),(some [],some []),(some [],some []),(some [],some []),(some [2],some []),(some [3],some []),(some [],some []),(some [],some []),(some [],some []),(some [],some []),(some [],some [4]),(some [4],some [4]),(some [],some [])]=true from (x0 zm2 zmr kq)) (ac h14 (ac (tq (p:=(((0:Nat)=(0:Nat))∧((List.length (xc (z0 s7 s8.1.toNat)))=(5:Nat))))) (ac h15 an))))))))))))) (Nat.le_of_ble_eq_true rfl) (Nat.le_of_ble_eq_true rfl) (y9 [6] [] kq (.consn kq (.rfn (n:=(s8.2.2.length+(1:Nat))) rfl tq) (.consn kq (.eqv tq rfl) (.consn kq (.eqv tq rfl) (.consn kq (.eqv tq rfl) (.consn kq (.eqv tq rfl) (.consn kq (.eqv tq rfl) (.consn kq (.eqv tq rfl) (.consn kq (.eqv tq rfl) .nil)))))))) (.cons (.old rfl rfl (.cells (.pl tq pq))) .nil))) fun h11 h11p=> x8 fun h12=> by intro e;injection e with e;subst e;exact j0 z9 (k:=300) (r:=[]) (hs:=hz [(1,[.yes,.yes,.yes,.cells ((Ex.cells (z0 s7 s8.1.toNat)))]),(2,[.fc]),(5,[.no]),(2,[.fc]),(1,[.fc,.fc,.yes,.yes]),(3,[])]) (ks:=[2,4,15,16,17,36,37,38]) (st1:=(St.mk [(2,(AV.rf 5 5 0 (s8.2.2.length+(1:Nat)))),(4,(AV.i (wr ((z0 l s1.2.2.toNat).lba+(z0 l s1.2.2.toNat).len)))),(15,(exs l)),(16,(AV.i (l.length:Int))),(17,(AV.i s1.2.2)),(36,(exs s7)),(37,(AV.i (s7.length:Int))),(38,(AV.i (wr (s8.1+(1:Int)))))] 70 (AH.mk 6 [(5,(AObj.cells ((s8.2.2.flatMap Ex.cells)++(xc (z0 s7 s8.1.toNat))))),(4,(AObj.cells (xc (z0 s7 s8.1.toNat)))),(3,(AObj.cells (xc (z0 s7 s8.1.toNat)))),(2,AObj.dead)]) false)) kq (ac h9 (ac h10 (ac (fq (p:=((5:Nat)≤(List.length (List.drop (s8.1.toNat*5) (s7.flatMap Ex.cells)))))) (ac (show (List.take 5 (List.drop (s8.1.toNat*5) (s7.flatMap Ex.cells)))=(Ex.cells (z0 s7 s8.1.toNat)) from (w7 bq bq)) (ac h11 (ac (tq (p:=(((0:Nat)=(0:Nat))∧((List.length (xc (z0 s7 s8.1.toNat)))=(5:Nat))))) (ac h12 an))))))) (Nat.le_of_ble_eq_true rfl) (Nat.le_of_ble_eq_true rfl) (y9 [5] [] kq (.consn kq (.rfn (n:=(s8.2.2.length+(1:Nat))) rfl tq) (.consn kq (.eqv tq rfl) (.consn kq (.eqv tq rfl) (.consn kq (.eqv tq rfl) (.consn kq (.eqv tq rfl) (.consn kq (.eqv tq rfl) (.consn kq (.eqv tq rfl) (.consn kq (.eqv tq rfl) .nil)))))))) (.cons (.old rfl rfl (.cells (.pl tq pq))) .nil))) fun h9 h9p=> u6
noncomputable abbrev za3 (l:List Ex):St:=(St.mk [(0,(exs l)),(2,AV.nl),(3,(AV.i 0)),(4,(AV.i 0)),(12,(exs l)),(13,(AV.i (l.length:Int))),(14,(AV.b (decide ((l.length:Int) > (64:Int))))),(15,(exs l)),(16,(AV.i (l.length:Int))),(17,(AV.i 0))] 70 (AH.mk 0 ([]:List (Prod Nat AObj))) false)
noncomputable abbrev z2s (l:List Ex) (s1:List Ex×Int×Int):St:=(St.mk [(2,(AV.rf 0 5 0 s1.1.length)),(4,(AV.i s1.2.1)),(15,(exs l)),(16,(AV.i (l.length:Int))),(17,(AV.i s1.2.2))] 70 (AH.mk 1 [(0,(AObj.cells (s1.1.flatMap Ex.cells)))]) false)
noncomputable def z1o (l:List Ex) (s1:List Ex×Int×Int):Option (List Ex×Int×Int):=
 (tb ((decide (s1.2.2 < (l.length:Int)))) (tp ((((0:Int)≤s1.2.2)∧(s1.2.2 < (l.length:Int)))) (tc (z2p ((z0 l s1.2.2.toNat))) fun s4=> (tb ((!s4)) none (tb ((decide ((z0 l s1.2.2.toNat).lba < s1.2.1))) none (tc (znj ((z0 l s1.2.2.toNat))) fun s7=> (th (z17 l s1 s4 s7) (((0:Int),(([]:List Ex),s1.1))) fun s8=> (tb ((decide (s8.1 < (s7.length:Int)))) none (some ((s8.2.2,((wr ((z0 l s1.2.2.toNat).lba+(z0 l s1.2.2.toNat).len)),(wr (s1.2.2+(1:Int)))))))))))))) none)
theorem z8r (l:List Ex) (s1 zz:List Ex×Int×Int):z1o l s1=some zz→u7 Try.prog cf 0 (lp Try.prog 26 0) (z2s l s1) (z2s l zz):=by
 unfold z1o
 exact tbD (fun h2 h2p=> x8 fun h3=> w6 fun s4 h4=> t6 (fun h5=> u6) fun h5=> tbD (fun h6 h6p=> u6) fun h6 h6p=> w6 fun s7 h7=> z13 fun s8 h8=> tbD (fun h9 h9p=> u6) fun h9 h9p=> by intro e;injection e with e;subst e;exact j0 z9 (k:=300) (r:=[]) (hs:=hz [(1,[.yes,.yes,.yes,.cells ((Ex.cells (z0 l s1.2.2.toNat)))]),(2,[.fc]),(1,[.fc]),(1,[.fres (.b (s4))]),(2,[.no]),(1,[.no]),(2,[.no]),(1,[.no]),(1,[.no,.no]),(9,[.fc]),(1,[.fres (exs (s7))]),(2,[.head (z7t l s1 s4 s7 s8)]),(1,[.no]),(2,[])]) (ks:=[2,4,15,16,17]) (st1:=(St.mk [(2,(AV.rf 2 5 0 s8.2.2.length)),(4,(AV.i (wr ((z0 l s1.2.2.toNat).lba+(z0 l s1.2.2.toNat).len)))),(15,(exs l)),(16,(AV.i (l.length:Int))),(17,(AV.i (wr (s1.2.2+(1:Int)))))] 70 (AH.mk 3 [(2,(AObj.cells (s8.2.2.flatMap Ex.cells)))]) false)) kq (ac h2 (ac h3 (ac (fq (p:=((5:Nat)≤(List.length (List.drop (s1.2.2.toNat*5) (l.flatMap Ex.cells)))))) (ac (show (List.take 5 (List.drop (s1.2.2.toNat*5) (l.flatMap Ex.cells)))=(Ex.cells (z0 l s1.2.2.toNat)) from (w7 bq bq)) (ac (j9 ((z0 l s1.2.2.toNat)) _ h4).any0 (ac h5 (ac h5 (ac h5 (ac h5 (ac h5 (ac h6 (ac (zt6 ((z0 l s1.2.2.toNat)) _ h7) (ac (show x5 Try.prog cf (lp Try.prog 26 1) (zo9 l s1 s4 s7) (z7t l s1 s4 s7 s8) from (x5.of (zkd l s1 s4 s7) (y9 [0] [] kq (.consn kq (.rfn (n:=s1.1.length) rfl tq) (.consn kq (.eqv tq rfl) (.consn kq (.eqv tq rfl) (.consn kq (.eqv tq rfl) (.consn kq (.eqv tq rfl) (.consn kq (.eqv tq rfl) (.consn kq (.eqv tq rfl) (.consn kq (.eqv tq rfl) .nil)))))))) (.cons (.old rfl rfl (.cells (.pl tq pq))) .nil)) h8)) (ac h9 an)))))))))))))) (Nat.le_of_ble_eq_true rfl) (Nat.le_of_ble_eq_true rfl) (y9 [2] [] kq (.consn kq (.rfn (n:=s8.2.2.length) rfl tq) (.consn kq (.eqv tq rfl) (.consn kq (.eqv tq rfl) (.consn kq (.eqv tq rfl) (.consn kq (.eqv tq rfl) .nil))))) (.cons (.old rfl rfl (.cells (.pl tq pq))) .nil))) fun h2 h2p=> u6
noncomputable def zin (l:List Ex):Option (List Ex×Int):=
 (tb ((decide ((l.length:Int) > (64:Int)))) (some ((([]:List Ex),(70:Int)))) (th (z1o l) ((([]:List Ex),((0:Int),(0:Int)))) fun s1=> (tb ((decide (s1.2.2 < (l.length:Int)))) (tp ((((0:Int)≤s1.2.2)∧(s1.2.2 < (l.length:Int)))) (tc (z2p ((z0 l s1.2.2.toNat))) fun s4=> (tb ((!s4)) (some ((([]:List Ex),(70:Int)))) (tb ((decide ((z0 l s1.2.2.toNat).lba < s1.2.1))) (some ((([]:List Ex),(70:Int)))) none)))) (tp ((((0:Nat)=(0:Nat))∧((List.length (s1.1.flatMap Ex.cells))=(s1.1.length*5)))) (some ((s1.1,(0:Int))))))))
abbrev zxq (l:List Ex) (r:List Ex×Int):Prop:=z06 Try.prog cf false 26 [exs (l)] (.tu [exs (r.1),.i (r.2)])
theorem zbg (l:List Ex) (r:List Ex×Int):zin l=some r→zxq l r:=by
 unfold zin
 exact tbD (fun h0 h0p=> by intro e;injection e with e;subst e;exact x4 z9 (k:=300) (r:=[]) (hs:=hz [(6,[.yes]),(2,[])]) (raw:=(AV.tu [(AV.sl 0 ([]:List AV)),(AV.i 70)])) kq (ac h0 an) tq) fun h0 h0p=> z13 fun s1 h1=> tbD (fun h2 h2p=> x8 fun h3=> w6 fun s4 h4=> t6 (fun h5=> by intro e;injection e with e;subst e;exact x4 z9 (k:=300) (r:=[]) (hs:=hz [(6,[.no]),(3,[.head (z2s l s1)]),(1,[.yes,.yes,.yes,.cells ((Ex.cells (z0 l s1.2.2.toNat)))]),(2,[.fc]),(1,[.fc]),(1,[.fres (.b (s4))]),(2,[.yes,.yes,.yes,.yes,.yes]),(3,[])]) (raw:=(AV.tu [(AV.sl 0 ([]:List AV)),(AV.i 70)])) kq (ac h0 (ac (show x5 Try.prog cf (lp Try.prog 26 0) (za3 l) (z2s l s1) from (x5.of (z8r l) (y9 [0] [] kq (.consn kq (.nln tq) (.consn kq (.eqv tq rfl) (.consn kq (.eqv tq rfl) (.consn kq (.eqv tq rfl) (.consn kq (.eqv tq rfl) .nil))))) (.cons (.none rfl (Nat.le_refl _) rfl) .nil)) h1)) (ac h2 (ac h3 (ac (fq (p:=((5:Nat)≤(List.length (List.drop (s1.2.2.toNat*5) (l.flatMap Ex.cells)))))) (ac (show (List.take 5 (List.drop (s1.2.2.toNat*5) (l.flatMap Ex.cells)))=(Ex.cells (z0 l s1.2.2.toNat)) from (w7 bq bq)) (ac (j9 ((z0 l s1.2.2.toNat)) _ h4).any0 (ac h5 (ac h5 (ac h5 (ac h5 (ac h5 an)))))))))))) tq) fun h5=> tbD (fun h6 h6p=> by intro e;injection e with e;subst e;exact x4 z9 (k:=300) (r:=[]) (hs:=hz [(6,[.no]),(3,[.head (z2s l s1)]),(1,[.yes,.yes,.yes,.cells ((Ex.cells (z0 l s1.2.2.toNat)))]),(2,[.fc]),(1,[.fc]),(1,[.fres (.b (s4))]),(2,[.no]),(1,[.no]),(2,[.no]),(1,[.no]),(1,[.no,.yes]),(2,[])]) (raw:=(AV.tu [(AV.sl 0 ([]:List AV)),(AV.i 70)])) kq (ac h0 (ac (show x5 Try.prog cf (lp Try.prog 26 0) (za3 l) (z2s l s1) from (x5.of (z8r l) (y9 [0] [] kq (.consn kq (.nln tq) (.consn kq (.eqv tq rfl) (.consn kq (.eqv tq rfl) (.consn kq (.eqv tq rfl) (.consn kq (.eqv tq rfl) .nil))))) (.cons (.none rfl (Nat.le_refl _) rfl) .nil)) h1)) (ac h2 (ac h3 (ac (fq (p:=((5:Nat)≤(List.length (List.drop (s1.2.2.toNat*5) (l.flatMap Ex.cells)))))) (ac (show (List.take 5 (List.drop (s1.2.2.toNat*5) (l.flatMap Ex.cells)))=(Ex.cells (z0 l s1.2.2.toNat)) from (w7 bq bq)) (ac (j9 ((z0 l s1.2.2.toNat)) _ h4).any0 (ac h5 (ac h5 (ac h5 (ac h5 (ac h5 (ac h6 an))))))))))))) tq) fun h6 h6p=> u6) fun h2 h2p=> x8 fun h3=> by intro e;injection e with e;subst e;exact x4 z9 (k:=300) (r:=[]) (hs:=hz [(6,[.no]),(3,[.head (z2s l s1)]),(1,[.no]),(3,[.yes,.yes])]) (raw:=(AV.tu [(exs s1.1),(AV.i 0)])) kq (ac h0 (ac (show x5 Try.prog cf (lp Try.prog 26 0) (za3 l) (z2s l s1) from (x5.of (z8r l) (y9 [0] [] kq (.consn kq (.nln tq) (.consn kq (.eqv tq rfl) (.consn kq (.eqv tq rfl) (.consn kq (.eqv tq rfl) (.consn kq (.eqv tq rfl) .nil))))) (.cons (.none rfl (Nat.le_refl _) rfl) .nil)) h1)) (ac h2 (ac h3 (ac (pq (p:=Pl false ((s1.1.flatMap Ex.cells)))) an))))) tq
end Ab
end Go.Proofs.Ytpflcogplhigcaa
namespace Go.Proofs.Ytpflcogplhigcaa
open Go Go.Proofs.Ytpflcogplhigcaa.Ab
set_option linter.unusedVariables false
set_option linter.unusedSimpArgs false
namespace Ab
theorem zb_eq (b:List UInt8):(List.take 32 (List.take 32 b)==List.replicate (32:Nat) (UInt8.ofNat 0))=zb (b.take 32):=by
 unfold zb;rw [List.take_take];rfl
theorem zwk {α:Type} (l:List α) (k:Nat):List.take ((l.length - k)*1) (l.drop k)=l.drop k:=by
 rw [Nat.mul_one];exact List.take_of_length_le (by simp)
theorem zuj (n:Nat):(Int.tmod (n:Int) 32=0)↔n % 32=0:=by
 rw [Int.tmod_eq_emod_of_nonneg (by omega)];omega
def yl (c:Bool) (n:Int) (out:List Int):List Int:=(if out=[]∧c=true then [0] else out)++[n]
end Ab
end Go.Proofs.Ytpflcogplhigcaa
namespace Go.Proofs.Ytpflcogplhigcaa
open Go Go.Proofs.Ytpflcogplhigcaa.Ab
set_option linter.unusedVariables false
set_option linter.unusedSimpArgs false
namespace Ab
def isz (b:List UInt8):Bool:=b.all (·==0)
theorem zwg (b:List UInt8):(∀i,i < b.length→b.getD i 0=0)↔isz b=true:=by
 rw [zb2 0 b (fun x=> x=0)];unfold isz;simp
theorem u0 (x:UInt8):((x.toNat:Int)=0)↔x=0:=by
 constructor
 · intro h;exact UInt8.toNat_inj.1 (by simpa using h)
 · rintro rfl;rfl
theorem zv4 (b:List UInt8) (h:b.length≤4294967296):pIs b=some (isz b):=by
 unfold pIs
 rw [zcp (some false) (some true) b.length (fun i=> b.getD i 0=0) (isz b=true) (zwg b)]
 · cases isz b <;> rfl
 · intro i hi hp
   unfold z6c
   simp only [x9,z1c,Int.toNat_natCast,Nat.mul_one]
   have:=(u0 _).2 hp
   rw [if_pos (by omega),x6 (by omega),if_pos this,t9 (by omega) (by omega)]
 · intro i hi hp
   unfold z6c
   simp only [x9,z1c,Int.toNat_natCast,Nat.mul_one]
   have hn:¬(((b.getD i 0).toNat:Int)=0):=fun h=> hp ((u0 _).1 h)
   rw [if_pos (by omega),x6 (by omega),if_neg hn,if_pos (by omega),x6 (by omega),if_neg hn]
   exact ⟨rfl,rfl⟩
 · unfold z6c
   simp only [x9]
   rw [if_neg (by omega),if_neg (by omega)]
   exact ⟨rfl,rfl⟩
theorem zyu {b:List UInt8} (h:b.length=32):isz b=zb b:=by
 unfold isz zb
 rw [Bool.eq_iff_iff,List.all_eq_true,beq_iff_eq,List.eq_replicate_iff]
 simp [h]
end Ab
end Go.Proofs.Ytpflcogplhigcaa
