/- More fuel tells the same; what is told without its number. -/
import Derived.Test.YtanncjfbollofaaAbsV
namespace Go.Proofs.Ytanncjfbollofaa.Ab
open Go
set_option linter.unusedVariables false
set_option linter.unusedSimpArgs false

def RecLe (r r' : Rec) : Prop := ∀ c st x, r c st = some x → r' c st = some x
section
variable {P : Program} {cf : Cfg} {r r' : Rec}
theorem enterA_mono (h : RecLe r r') {f : FuncId} {args : List AV} {H : AH} {x : AV × AH} (e : enterA P r f args H = some x) : enterA P r' f args H = some x := by
  unfold enterA at *
  split at e
  · rename_i af haf
    cases hq : r af.body ⟨tmOf 0 args, max af.nt args.length, H, false⟩ with
    | none => rw [hq] at e; cases e
    | some q => rw [hq] at e; rw [h _ _ _ hq]; exact e
  · cases e
theorem roundA_mono (h : RecLe r r') {b : Nat} {args : List AV} {H : AH} {x : AV × AH} (e : roundA r b args H = some x) : roundA r' b args H = some x := by
  unfold roundA at *
  split at e
  · rename_i s p T n ps asg body hl
    split at e
    · rename_i hc
      rw [if_pos hc]
      cases hq : r asg ⟨setAll T ps args, n, H, true⟩ with
      | none => rw [hq] at e; cases e
      | some q =>
        rw [hq] at e; rw [h _ _ _ hq]
        obtain ⟨e1, st⟩ := q
        cases e1 with
        | normal =>
          simp only at e ⊢
          cases hl2 : loopOf st.H b with
          | none => rw [hl2] at e; cases e
          | some q2 =>
            obtain ⟨s2, p2, T2, n2, ps2, a2, c2⟩ := q2
            rw [hl2] at e
            cases s2 with
            | ready =>
              simp only at e ⊢
              cases hq2 : r body { st with H := st.H.put b (.loop .busy p2 T2 n2 ps2 a2 c2) } with
              | none => rw [hq2] at e; cases e
              | some q3 => rw [hq2] at e; rw [h _ _ _ hq2]; exact e
            | _ => cases e
        | _ => cases e
    · cases e
  · cases e
theorem callA_mono (h : RecLe r r') {f : AV} {args : List AV} {H : AH} {x : CR} (e : callA P cf r f args H = some x) : callA P cf r' f args H = some x := by
  unfold callA at *
  split at e
  · rename_i f cap
    split at e
    · exact e
    · rename_i hno
      split at e
      · rename_i hc
        cases hq : enterA P r f (args ++ cap) H with
        | none => rw [hq] at e; cases e
        | some q =>
          rw [hq] at e
          simp only [hc, if_true, enterA_mono h hq]
          exact e
      · rename_i hc
        simp only [hc, if_false, Bool.false_eq_true]
        cases hm : mapP (purV H false depthA) args with
        | none => rw [hm] at e; cases e
        | some q =>
          obtain ⟨pa, rd⟩ := q
          rw [hm] at e
          simp only at e ⊢
          cases hq : enterA P r f pa AH.empty with
          | none => rw [hq] at e; cases e
          | some q => rw [hq] at e; rw [enterA_mono h hq]; exact e
  · rename_i b
    cases hq : roundA r b args H with
    | none => rw [hq] at e; cases e
    | some q => rw [hq] at e; rw [roundA_mono h hq]; exact e
  · cases e
theorem doA_mono (h : RecLe r r') {op : Op} {st : St} {x : CR} (e : doA P cf r op st = some x) : doA P cf r' op st = some x := by
  unfold doA at *
  split at e
  · split at e
    · exact callA_mono h e
    · exact e
  · exact e
theorem operA_mono (h : RecLe r r') {ops : Array Oper} {o : Oper} {st : St} {x : St × Ft} (e : operA P cf r ops o st = some x) : operA P cf r' ops o st = some x := by
  unfold operA at *
  split at e
  · cases e
  · exact e
  · cases hq : doA P cf r o.op st with
    | none => rw [hq] at e; cases e
    | some q => rw [hq] at e; rw [doA_mono h hq]; exact e
theorem opsA_mono (h : RecLe r r') {ops : Array Oper} : ∀ {l : List Nat} {st : St} {x : St × List Ft}, opsA P cf r ops l st = some x → opsA P cf r' ops l st = some x
  | [], st, x, e => e
  | i :: l, st, x, e => by
    simp only [opsA] at e ⊢
    split at e
    · rename_i o ho
      cases hq : operA P cf r ops o st with
      | none => rw [hq] at e; cases e
      | some q =>
        rw [hq] at e
        rw [operA_mono h hq]
        obtain ⟨st', ft⟩ := q
        simp only at e ⊢
        cases hq2 : opsA P cf r ops l st' with
        | none => rw [hq2] at e; cases e
        | some q2 => rw [hq2] at e; rw [opsA_mono h hq2]; exact e
    · cases e
theorem regA_mono (h : RecLe r r') {ops : Array Oper} {draw : Bool} {st : St} {x : AX × St} (e : regA P cf r ops draw st = some x) : regA P cf r' ops draw st = some x := by
  unfold regA at *
  cases hq : opsA P cf r ops (List.range ops.size) st with
  | none => rw [hq] at e; cases e
  | some q => rw [hq] at e; rw [opsA_mono h hq]; exact e
theorem loopA_mono (h : RecLe r r') {body : Code} : ∀ {k k' : Nat} {st : St} {x : AX × St}, k ≤ k' → loopA r body k st = some x → loopA r' body k' st = some x
  | 0, k', st, x, hk, e => by cases e
  | k + 1, 0, st, x, hk, e => by omega
  | k + 1, k' + 1, st, x, hk, e => by
    simp only [loopA] at e ⊢
    cases hq : r body st with
    | none => rw [hq] at e; cases e
    | some q =>
      rw [hq] at e; rw [h _ _ _ hq]
      obtain ⟨e1, st1⟩ := q
      cases e1 with
      | normal => exact loopA_mono h (by omega) e
      | _ => exact e
theorem scopeA_mono (h : RecLe r r') {body : Code} : ∀ {k k' : Nat} {c : Code} {st : St} {x : AX × St}, k ≤ k' → scopeA r body k c st = some x → scopeA r' body k' c st = some x
  | 0, k', c, st, x, hk, e => by cases e
  | k + 1, 0, c, st, x, hk, e => by omega
  | k + 1, k' + 1, c, st, x, hk, e => by
    simp only [scopeA] at e ⊢
    cases hq : r c st with
    | none => rw [hq] at e; cases e
    | some q =>
      rw [hq] at e; rw [h _ _ _ hq]
      obtain ⟨e1, st1⟩ := q
      cases e1 with
      | goto l =>
        simp only at e ⊢
        split at e
        · rename_i rest hf; exact scopeA_mono h (by omega) e
        · exact e
      | _ => exact e
theorem rangeA_mono (h : RecLe r r') {g : Operand} {ps : Array Tmp} {asg body : Code} {st : St} {x : AX × St} (e : rangeA P cf r g ps asg body st = some x) : rangeA P cf r' g ps asg body st = some x := by
  unfold rangeA at *
  split at e
  · cases e
  · rename_i hq
    rw [if_neg hq]
    simp only at e ⊢
    split at e
    · rename_i f cap hg
      cases he : enterA P r f (.yl st.H.nx :: cap) (st.H.new (.loop .ready none st.T st.n ps.toList asg body)) with
      | none => rw [he] at e; cases e
      | some q =>
        rw [he] at e; rw [enterA_mono h he]
        obtain ⟨v, h2⟩ := q
        simp only at e ⊢
        cases hl : loopOf h2 st.H.nx with
        | none => rw [hl] at e; cases e
        | some q2 =>
          obtain ⟨s, p, T, n, qs, a, b⟩ := q2
          rw [hl] at e
          simp only at e ⊢
          split at e
          · cases e
          · rename_i hb
            rw [if_neg hb]
            cases p with
            | none => exact e
            | some c => exact h _ _ _ e
    · cases e
end

theorem aCode_succ {P : Program} {cf : Cfg} : ∀ k, RecLe (aCode P cf k) (aCode P cf (k + 1))
  | 0 => fun c st x e => by cases e
  | k + 1 => by
    have ih := aCode_succ (P := P) (cf := cf) k
    intro c st x e
    cases c with
    | seq a b =>
      simp only [aCode] at e ⊢
      cases hq : aCode P cf k a st with
      | none => rw [hq] at e; cases e
      | some q =>
        rw [hq] at e
        have hq' := ih _ _ _ hq
        simp only [aCode] at hq'
        rw [hq']
        obtain ⟨e1, st1⟩ := q
        cases e1 with
        | normal => exact ih _ _ _ e
        | _ => exact e
    | cond c x' y =>
      simp only [aCode] at e ⊢
      split at e
      · rename_i t ht; exact ih _ _ _ e
      · cases e
    | block id c =>
      simp only [aCode] at e ⊢
      cases hq : aCode P cf k c st with
      | none => rw [hq] at e; cases e
      | some q =>
        rw [hq] at e
        have hq' := ih _ _ _ hq
        simp only [aCode] at hq'
        rw [hq']; exact e
    | loop c => exact loopA_mono ih (Nat.le_succ k) e
    | scope c => exact scopeA_mono ih (Nat.le_succ k) e
    | region id ops draw => exact regA_mono ih e
    | rangeFunc g ps asg body => exact rangeA_mono (cf := cf) ih e
    | refuse x => simp only [aCode] at e; cases e
    | _ => exact e
theorem aCode_le {P : Program} {cf : Cfg} {k k' : Nat} (h : k ≤ k') : RecLe (aCode P cf k) (aCode P cf k') := by
  induction h with
  | refl => exact fun _ _ _ e => e
  | step _ ih => exact fun c st x e => aCode_succ _ _ _ _ (ih c st x e)

/-! ### Without the number -/
section
variable (P : Program) (cf : Cfg)
def Ev (c : Code) (st : St) (x : AX × St) : Prop := ∃ k, aCode P cf k c st = some x
def EvLoop (c : Code) (st : St) (x : AX × St) : Prop := ∃ k, loopA (aCode P cf k) c k st = some x
def EvScope (body c : Code) (st : St) (x : AX × St) : Prop := ∃ k, scopeA (aCode P cf k) body k c st = some x
def EvEnter (f : FuncId) (args : List AV) (h : AH) (x : AV × AH) : Prop := ∃ k, enterA P (aCode P cf k) f args h = some x
def EvCall (f : AV) (args : List AV) (h : AH) (x : CR) : Prop := ∃ k, callA P cf (aCode P cf k) f args h = some x
def EvRound (b : Nat) (args : List AV) (h : AH) (x : AV × AH) : Prop := ∃ k, roundA (aCode P cf k) b args h = some x
def EvDo (op : Op) (st : St) (x : CR) : Prop := ∃ k, doA P cf (aCode P cf k) op st = some x
def EvOper (ops : Array Oper) (o : Oper) (st : St) (x : St × Ft) : Prop := ∃ k, operA P cf (aCode P cf k) ops o st = some x
def EvOps (ops : Array Oper) (l : List Nat) (st : St) (x : St × List Ft) : Prop := ∃ k, opsA P cf (aCode P cf k) ops l st = some x
/-- A whole call. -/
def EvFun (f : FuncId) (args : List AV) (v : AV) : Prop := ∃ k, aCall P cf k f args = some v
end
section
variable {P : Program} {cf : Cfg}
theorem Ev.seq {a b : Code} {st st1 : St} {x : AX × St} (h1 : Ev P cf a st (.normal, st1)) (h2 : Ev P cf b st1 x) : Ev P cf (.seq a b) st x := by
  obtain ⟨k1, e1⟩ := h1
  obtain ⟨k2, e2⟩ := h2
  refine ⟨max k1 k2 + 1, ?_⟩
  simp only [aCode, aCode_le (Nat.le_max_left k1 k2) _ _ _ e1]
  exact aCode_le (Nat.le_max_right k1 k2) _ _ _ e2
theorem Ev.seq' {a b : Code} {st st1 : St} {e : AX} (he : e ≠ .normal) (h1 : Ev P cf a st (e, st1)) : Ev P cf (.seq a b) st (e, st1) := by
  obtain ⟨k1, e1⟩ := h1
  refine ⟨k1 + 1, ?_⟩
  simp only [aCode, e1]
  cases e <;> first | rfl | exact absurd rfl he
theorem Ev.cond {c : Operand} {x y : Code} {st : St} {t : Bool} {z : AX × St} (hc : ev st.T c = .b t) (h : Ev P cf (bif t then x else y) st z) : Ev P cf (.cond c x y) st z := by
  obtain ⟨k, e⟩ := h
  exact ⟨k + 1, by simp only [aCode, hc]; exact e⟩
theorem Ev.block {id : Nat} {c : Code} {st st1 : St} {e : AX} (h : Ev P cf c st (e, st1)) : Ev P cf (.block id c) st (blockX id e, st1) := by
  obtain ⟨k, e1⟩ := h
  exact ⟨k + 1, by simp only [aCode, e1, Option.map_some]⟩
theorem EvLoop.step {c : Code} {st st1 : St} {x : AX × St} (h1 : Ev P cf c st (.normal, st1)) (h2 : EvLoop P cf c st1 x) : EvLoop P cf c st x := by
  obtain ⟨k1, e1⟩ := h1
  obtain ⟨k2, e2⟩ := h2
  refine ⟨max k1 k2 + 1, ?_⟩
  simp only [loopA, aCode_le (Nat.le_trans (Nat.le_max_left k1 k2) (Nat.le_succ _)) _ _ _ e1]
  exact loopA_mono (aCode_le (Nat.le_trans (Nat.le_max_right k1 k2) (Nat.le_succ _))) (Nat.le_max_right k1 k2) e2
theorem EvLoop.stop {c : Code} {st st1 : St} {e : AX} (he : e ≠ .normal) (h1 : Ev P cf c st (e, st1)) : EvLoop P cf c st (e, st1) := by
  obtain ⟨k1, e1⟩ := h1
  refine ⟨k1 + 1, ?_⟩
  simp only [loopA, aCode_le (Nat.le_succ k1) _ _ _ e1]
  cases e <;> first | rfl | exact absurd rfl he
theorem Ev.loop {c : Code} {st : St} {x : AX × St} (h : EvLoop P cf c st x) : Ev P cf (.loop c) st x := by
  obtain ⟨k, e⟩ := h
  exact ⟨k + 1, by simp only [aCode]; exact e⟩
theorem EvScope.goto {body c rest : Code} {st st1 : St} {l : Nat} {x : AX × St} (h1 : Ev P cf c st (.goto l, st1)) (hf : findLabel body l = some rest) (h2 : EvScope P cf body rest st1 x) : EvScope P cf body c st x := by
  obtain ⟨k1, e1⟩ := h1
  obtain ⟨k2, e2⟩ := h2
  refine ⟨max k1 k2 + 1, ?_⟩
  simp only [scopeA, aCode_le (Nat.le_trans (Nat.le_max_left k1 k2) (Nat.le_succ _)) _ _ _ e1, hf]
  exact scopeA_mono (aCode_le (Nat.le_trans (Nat.le_max_right k1 k2) (Nat.le_succ _))) (Nat.le_max_right k1 k2) e2
theorem EvScope.out {body c : Code} {st st1 : St} {e : AX} (he : ∀ l, e = .goto l → findLabel body l = none) (h1 : Ev P cf c st (e, st1)) : EvScope P cf body c st (e, st1) := by
  obtain ⟨k1, e1⟩ := h1
  refine ⟨k1 + 1, ?_⟩
  simp only [scopeA, aCode_le (Nat.le_succ k1) _ _ _ e1]
  cases e with
  | goto l => simp only [he l rfl]
  | _ => rfl
theorem Ev.scope {c : Code} {st : St} {x : AX × St} (h : EvScope P cf c c st x) : Ev P cf (.scope c) st x := by
  obtain ⟨k, e⟩ := h
  exact ⟨k + 1, by simp only [aCode]; exact e⟩
theorem Ev.region {id : Nat} {ops : Array Oper} {draw : Bool} {st st1 : St} {fts : List Ft} (h : EvOps P cf ops (List.range ops.size) st (st1, fts)) (hd : draw = false ∨ (orderOk ops = true ∧ allOk (Region.before ops) [] 0 fts = true)) : Ev P cf (.region id ops draw) st (.normal, st1) := by
  obtain ⟨k, e⟩ := h
  exact ⟨k + 1, by simp only [aCode, regA, e]; rw [if_pos hd]⟩
theorem EvOps.nil {ops : Array Oper} {st : St} : EvOps P cf ops [] st (st, []) := ⟨0, rfl⟩
theorem EvOps.cons {ops : Array Oper} {i : Nat} {l : List Nat} {o : Oper} {st st1 st2 : St} {ft : Ft} {fts : List Ft} (ho : ops[i]? = some o) (h1 : EvOper P cf ops o st (st1, ft)) (h2 : EvOps P cf ops l st1 (st2, fts)) : EvOps P cf ops (i :: l) st (st2, ft :: fts) := by
  obtain ⟨k1, e1⟩ := h1
  obtain ⟨k2, e2⟩ := h2
  refine ⟨max k1 k2, ?_⟩
  simp only [opsA, ho, operA_mono (aCode_le (Nat.le_max_left k1 k2)) e1, opsA_mono (aCode_le (Nat.le_max_right k1 k2)) e2]
theorem EvOper.skip {ops : Array Oper} {o : Oper} {st s : St} (hw : wantedA ops st.T o = some false) (hp : putA st o.dst (.tu []) = some s) : EvOper P cf ops o st (s, (some [], some [])) :=
  ⟨0, by simp only [operA, hw, hp]⟩
theorem EvOper.run {ops : Array Oper} {o : Oper} {st s : St} {r : CR} (hw : wantedA ops st.T o = some true) (h : EvDo P cf o.op st r) (hp : putA { st with H := r.h } o.dst r.v = some s) : EvOper P cf ops o st (s, (r.rd, r.wr)) := by
  obtain ⟨k, e⟩ := h
  exact ⟨k, by simp only [operA, hw, e, hp]⟩
theorem EvDo.call {c : Call} {f : Operand} {st : St} {r : CR} (hc : c.callee = .value f) (h : EvCall P cf (ev st.T f) (c.args.toList.map (ev st.T)) st.H r) : EvDo P cf (.call c) st r := by
  obtain ⟨k, e⟩ := h
  exact ⟨k, by simp only [doA, hc]; exact e⟩
theorem EvDo.op {op : Op} {st : St} {r : OR} (h : aOp P st.H st.T op = some r) : EvDo P cf op st (ofOR r) := by
  refine ⟨0, ?_⟩
  unfold doA
  split
  · rename_i c
    split
    · rename_i f hc
      simp only [aOp, hc] at h; cases h
    · rw [h]; rfl
  · rw [h]; rfl
theorem EvEnter.of {f : FuncId} {args vs : List AV} {h : AH} {af : AF} {e : AX} {st : St} (ha : afun P f = some af) (hb : Ev P cf af.body ⟨tmOf 0 args, max af.nt args.length, h, false⟩ (e, st)) (he : e = .normal ∨ e = .ret) (hr : resA P st.T st.H af.res = some vs) : EvEnter P cf f args h (oneA vs, st.H) := by
  obtain ⟨k, e1⟩ := hb
  refine ⟨k, ?_⟩
  simp only [enterA, ha, e1]
  rcases he with rfl | rfl <;> simp only [hr]
theorem EvCall.own {f : FuncId} {cap args : List AV} {h h' : AH} {v : AV} (hno : cloneOf cf.clone f = none) (hi : (!cap.isEmpty || cf.inl.contains f) = true) (he : EvEnter P cf f (args ++ cap) h (v, h')) : EvCall P cf (.fn f cap) args h ⟨v, h', none, none⟩ := by
  obtain ⟨k, e⟩ := he
  exact ⟨k, by simp only [callA, hno, hi, if_true, e]⟩
theorem EvCall.pure {f : FuncId} {args pargs : List AV} {h h1 : AH} {v : AV} {rd : List Nat} {r : CR} (hno : cloneOf cf.clone f = none) (hi : cf.inl.contains f = false) (hm : mapP (purV h false depthA) args = some (pargs, rd)) (he : EvEnter P cf f pargs AH.empty (v, h1))
    (hb : backA (!cf.move.contains f) (cf.thaw.contains f) h rd v h1 = some r) : EvCall P cf (.fn f []) args h r := by
  obtain ⟨k, e⟩ := he
  exact ⟨k, by simp only [callA, hno, hi, List.isEmpty_nil, Bool.not_true, Bool.or_self, Bool.false_eq_true, if_false, hm, e, hb]⟩
theorem EvCall.round {b : Nat} {args : List AV} {h h' : AH} {v : AV} (he : EvRound P cf b args h (v, h')) : EvCall P cf (.yl b) args h ⟨v, h', none, none⟩ := by
  obtain ⟨k, e⟩ := he
  exact ⟨k, by simp only [callA, e]⟩
theorem EvCall.clone {f z w n : Nat} {x : AV} {h : AH} {cs : List AV} {rd : List Nat} (hc : cloneOf cf.clone f = some (z, w)) (hs : slCells h z x = some (n, cs, rd)) (hb : n ≤ 4294967296 ∧ w ≤ 4096 ∧ 0 < z) : EvCall P cf (.fn f []) [x] h ⟨.rf h.nx z 0 n, h.new (.cells cs), some rd, some [h.nx]⟩ :=
  ⟨0, by simp only [callA, hc, hs, List.isEmpty_nil]; rw [if_pos ⟨hb.1, hb.2.1, hb.2.2, trivial⟩]⟩
theorem EvFun.of {f : FuncId} {args : List AV} {v v' : AV} {h : AH} {bs : List Nat} (he : EvEnter P cf f args AH.empty (v, h)) (hp : purV h false depthA v = some (v', bs)) : EvFun P cf f args v' := by
  obtain ⟨k, e⟩ := he
  exact ⟨k, by simp only [aCall, e, hp, Option.map_some]⟩
end
end Go.Proofs.Ytanncjfbollofaa.Ab
