/- Each operation of the interpreter is one of the machine's: memory, structs, slices' parts. -/
import Derived.Test.YtadipihpgcelmaaAbsD
namespace Go.Proofs.Ytadipihpgcelmaa.Ab
open Go
set_option linter.unusedVariables false
set_option linter.unusedSimpArgs false

/-- What an operation gives is what the machine gives. 'n': the number that a new block bears. -/
def Gives (P : Program) (C : Ctx) (K : Nat → Option AObj) (w : World) (n : Nat) (r : OR) (s : Sem Value) : Prop :=
  ∃ v C' w', s.run P w = .ok v w' ∧ VRel C' w' r.v v ∧ Step C w C' w' ∧ Sim C' (fun b => if b ∈ r.wr then r.h.get b else K b) w' ∧ ∀ b, C.φ b = none → (b ≠ n ∨ r.h.nx = n) → C'.φ b = none

section
variable {P : Program} {C : Ctx} {K : Nat → Option AObj} {w : World} {h : AH}

theorem gives_quiet {x : AV} {v : Value} {s : Sem Value} {n : Nat} {rd : List Nat} (hS : Sim C K w) (hr : s.run P w = .ok v w) (hv : VRel C w x v) : Gives P C K w n ⟨x, h, rd, []⟩ s :=
  ⟨v, C, w, hr, hv, Step.refl C w, by simpa using hS, fun b hb _ => hb⟩
theorem gives_new {x : AV} {o : AObj} {ob : Obj} {v : Value} {s : Sem Value} {rd : List Nat} (hS : Sim C K w) (hn : C.φ h.nx = none) (ho : isRo o = false) (hl : live o = some o)
    (hR : ORel (C.with h.nx w.heap.size) (wnew w ob) w.heap.size o) (hr : s.run P w = .ok v (wnew w ob)) (hv : VRel (C.with h.nx w.heap.size) (wnew w ob) x v) :
    Gives P C K w h.nx ⟨x, h.new o, rd, [h.nx]⟩ s := by
  refine ⟨v, _, _, hr, hv, step_new hS hn ob, ?_, fun b hb hne => by simp [Ctx.with, hne.resolve_right (by simp), hb]⟩
  refine (sim_new hS hn ho hR).congr fun b => ?_
  simp only [List.mem_singleton, updK, AH.get_new]
  by_cases e : b = h.nx
  · subst e; simp [hl]
  · simp [e]

/-! ### A value's cells -/
theorem VRel.one {x : AV} {v : Value} {cs : List AV} (hc : vcells x = some cs) (hv : VRel C w x v) : LRel C w true cs v.cells.toList := by
  have one : ∀ y, vcells x = some [y] → y = x → v.oneCell' = true → LRel C w true cs v.cells.toList := by
    intro y e1 e2 e3
    rw [hc] at e1; injection e1 with e1; subst e1 e2
    have : v.cells.toList = [v] := by cases v <;> first | rfl | (simp [Value.oneCell'] at e3)
    rw [this]
    exact LRel.cons (fun _ => e3) hv LRel.nil
  cases x with
  | top => simp [vcells] at hc
  | tu xs => simp [vcells] at hc
  | ag xs =>
    simp only [vcells, Option.some.injEq] at hc; subst hc
    simp only [VRel] at hv
    obtain ⟨vs, rfl, h⟩ := hv
    simpa [Value.cells] using h
  | sc u =>
    simp only [vcells] at hc
    split at hc
    · rename_i ho
      injection hc with hc; subst hc
      have e : v = u := by simpa only [VRel] using hv
      refine one (.sc u) ?_ rfl (e ▸ ho)
      simp [vcells, ho]
    · cases hc
  | i n => have e : v = .int .i64 n := by simpa only [VRel] using hv
           exact one _ rfl rfl (by rw [e]; rfl)
  | y n => have e : v = .int .u8 n.toNat := by simpa only [VRel] using hv
           exact one _ rfl rfl (by rw [e]; rfl)
  | b n => have e : v = .bool n := by simpa only [VRel] using hv
           exact one _ rfl rfl (by rw [e]; rfl)
  | st n => have e : v = .string ⟨n.toArray⟩ := by simpa only [VRel] using hv
            exact one _ rfl rfl (by rw [e]; rfl)
  | nl => have hv' := hv; simp only [VRel] at hv'; obtain ⟨a, e⟩ := hv'
          exact one _ rfl rfl (by rw [e]; rfl)
  | sl n c => have hv' := hv; simp only [VRel] at hv'; obtain ⟨a, _, e, _⟩ := hv'
              exact one _ rfl rfl (by rw [e]; rfl)
  | rf b z o n => have hv' := hv; simp only [VRel] at hv'; obtain ⟨a, _, e, _⟩ := hv'
                  exact one _ rfl rfl (by rw [e]; rfl)
  | pt b o => have hv' := hv; simp only [VRel] at hv'; obtain ⟨a, _, e⟩ := hv'
              exact one _ rfl rfl (by rw [e]; rfl)
  | ip c => have hv' := hv; simp only [VRel] at hv'; obtain ⟨a, _, e, _⟩ := hv'
            exact one _ rfl rfl (by rw [e]; rfl)
  | fn f c => have hv' := hv; simp only [VRel] at hv'; obtain ⟨a, e, _⟩ := hv'
              exact one _ rfl rfl (by rw [e]; rfl)
  | yl b => have hv' := hv; simp only [VRel] at hv'; obtain ⟨a, _, e⟩ := hv'
            exact one _ rfl rfl (by rw [e]; rfl)
  | mp b => have hv' := hv; simp only [VRel] at hv'; obtain ⟨a, _, e⟩ := hv'
            exact one _ rfl rfl (by rw [e]; rfl)

theorem orel_new {cs : List AV} {vs : List Value} {T : TypeId} {rb : Nat} {ob : Obj} (hob : w.heap[rb]? = some (Obj.cells vs.toArray T (0, 0))) (h : LRel C w true cs vs) : ORel C w rb (.cells cs) :=
  ⟨vs, [], T, by simpa using hob, h⟩

theorem run_newVar (t : TypeId) (v : Value) : (newVar t v).run P w = .ok ⟨w.heap.size, 0, none⟩ (wnew w (Obj.cells v.cells t)) := by
  simp [newVar, newRow, wnew]

theorem gives_box {e : TypeId} {x : AV} {v : Value} {cs : List AV} (hS : Sim C K w) (hn : C.φ h.nx = none) (hc : vcells x = some cs) (hv : VRel C w x v) :
    Gives P C K w h.nx ⟨.pt h.nx 0, h.new (.cells cs), [], [h.nx]⟩ (Instr.box e v) := by
  refine gives_new (ob := Obj.cells v.cells e) (v := .pointer (some ⟨w.heap.size, 0, none⟩)) hS hn rfl rfl ?_ ?_ ?_
  · have := (hv.one hc).step (step_new hS hn (Obj.cells v.cells e))
    exact ⟨_, [], e, by simpa using wnew_at w _, this⟩
  · simp [Instr.box, run_newVar]
  · simp only [VRel]; exact ⟨_, Ctx.with_at C _ _, rfl⟩
theorem gives_alloc {e : TypeId} {ti : TI} (hS : Sim C K w) (hn : C.φ h.nx = none) (hT : TSpec P e ti) :
    Gives P C K w h.nx ⟨.pt h.nx 0, h.new (.cells ti.zero), [], [h.nx]⟩ (Instr.alloc e true (.tuple #[])) := by
  refine gives_new (ob := Obj.cells hT.z.cells e) (v := .pointer (some ⟨w.heap.size, 0, none⟩)) hS hn rfl rfl ?_ ?_ ?_
  · refine ⟨hT.z.cells.toList, [], e, by simpa using wnew_at w _, ?_⟩
    rw [hT.zeros]; exact ofCells_rel _ _ _ hT.ones
  · simp [Instr.alloc, hT.run_zero, run_newVar]
  · simp only [VRel]; exact ⟨_, Ctx.with_at C _ _, rfl⟩

/-! ### Cells at an address -/
/-- What is read at an address: cells of the machine's. -/
theorem cellsAt_rel {a : AV} {v : Value} {n : Nat} {cs : List AV} {rd : List Nat} (hS : Sim C K w) (hK : ∀ b ∈ rd, K b = h.get b) (hc : cellsAt h a n = some (cs, rd)) (hv : VRel C w a v) (hpos : 0 < n) :
    ∃ (ad : Addr) (vs : List Value), v = .pointer (some ad) ∧ ad.spot = none ∧ CellsAt w ad.block ad.off vs ∧ LRel C w true cs vs ∧ cs.length = n := by
  cases a with
  | pt b off =>
    simp only [cellsAt] at hc
    split at hc
    · rename_i ds hds
      split at hc
      · rename_i hle
        injection hc with hc
        injection hc with h1 h2
        subst h1 h2
        simp only [VRel] at hv
        obtain ⟨rb, hφ, rfl⟩ := hv
        have hkb : K b = h.get b := hK b (by simp)
        have hlen : ((ds.drop off).take n).length = n := by simp; omega
        refine ⟨⟨rb, off, none⟩, ?_⟩
        unfold AH.cells at hds
        split at hds
        · rename_i c0 hg
          injection hds with hds; subst hds
          rw [hg] at hkb
          rcases hS.at_ b _ hkb with ⟨g, g'⟩ | ⟨rb', g1, g2, g3⟩
          · rw [g] at hφ; cases hφ
          · rw [g1] at hφ; injection hφ with hφ; subst hφ
            obtain ⟨vs, rest, T, e1, e2⟩ := g2
            refine ⟨(vs.drop off).take n, rfl, rfl, ?_, (e2.drop off).take n, hlen⟩
            intro i u hu
            have hi : i < n := by
              rcases Nat.lt_or_ge i n with g | g
              · exact g
              · rw [List.getElem?_take, if_neg (by omega)] at hu; cases hu
            rw [List.getElem?_take, if_pos hi, List.getElem?_drop] at hu
            rw [cell?_of w e1]
            have : off + i < vs.length := by
              rcases Nat.lt_or_ge (off + i) vs.length with g | g
              · exact g
              · rw [List.getElem?_eq_none g] at hu; cases hu
            simp [List.getElem?_append_left this, hu]
        · rename_i c0 hg
          injection hds with hds; subst hds
          rw [hg] at hkb
          rcases hS.at_ b _ hkb with ⟨g, g'⟩ | ⟨rb', g1, g2, g3⟩
          · rw [g] at hφ; cases hφ
          · rw [g1] at hφ; injection hφ with hφ; subst hφ
            obtain ⟨vs, e1, e2⟩ := g2
            refine ⟨(vs.drop off).take n, rfl, rfl, ?_, (e2.drop off).take n, hlen⟩
            have := (e1.drop off).take n
            simpa using this
        · cases hds
      · cases hc
    · cases hc
  | ip ds =>
    simp only [cellsAt] at hc
    split at hc
    · rename_i hle
      injection hc with hc
      injection hc with h1 h2
      subst h1 h2
      simp only [VRel] at hv
      obtain ⟨ad, vs, rfl, e1, e2, e3, e4⟩ := hv
      exact ⟨ad, vs.take n, rfl, e1, e4.take n, e3.unpure.take n, by simp; omega⟩
    · cases hc
  | _ => simp [cellsAt] at hc

theorem asTy_rel {t : TypeId} {ti : TI} (hT : TSpec P t ti) {ad : Addr} {vs : List Value} {cs : List AV} {x : AV} (hsp : ad.spot = none) (hat : CellsAt w ad.block ad.off vs) (hl : LRel C w true cs vs) (hlen : cs.length = ti.size)
    (hx : asTy ti cs = some x) : ∃ v, (loadVar t ad).run P w = .ok v w ∧ VRel C w x v := by
  have hvl : vs.length = ti.size := by rw [← hl.length, hlen]
  unfold asTy at hx
  cases hag : ti.agg with
  | true =>
    rw [hag] at hx
    simp only [if_true, Option.some.injEq] at hx; subst hx
    refine ⟨.agg vs.toArray, ?_, by simp only [VRel]; exact ⟨vs, rfl, hl⟩⟩
    simp only [loadVar, Sem.run_bind, hT.run_agg, hag, Result.andThen_ok, if_true, hT.run_size]
    rw [← hvl, run_loadCells P w ad hsp vs hat]
    rfl
  | false =>
    rw [hag] at hx
    simp only [Bool.false_eq_true, if_false] at hx
    split at hx
    · rename_i c
      injection hx with hx; subst hx
      obtain ⟨v, rfl, hv, _⟩ := hl.one1
      refine ⟨v, ?_, hv⟩
      have h0 : w.cell? ad = some v := by
        have := hat 0 v rfl
        cases ad; simp_all
      simp [loadVar, hT.run_agg, hag, h0]
    · cases hx

theorem gives_load {t : TypeId} {ti : TI} {a x : AV} {v : Value} {cs : List AV} {rd : List Nat} (hS : Sim C K w) (hT : TSpec P t ti) (hpos : 0 < ti.size) (hK : ∀ b ∈ rd, K b = h.get b)
    (hc : cellsAt h a ti.size = some (cs, rd)) (hx : asTy ti cs = some x) (hv : VRel C w a v) {n : Nat} : Gives P C K w n ⟨x, h, rd, []⟩ (Instr.loadAt t v) := by
  obtain ⟨ad, vs, rfl, hsp, hat, hl, hlen⟩ := cellsAt_rel hS hK hc hv hpos
  obtain ⟨u, hr, hu⟩ := asTy_rel hT hsp hat hl hlen hx
  exact gives_quiet hS (by simp [Instr.loadAt, Instr.sureAddr, hr]) hu

/-! ### A store -/
theorem over_length {α : Type} (cs : List α) (off : Nat) (vs : List α) (h : off + vs.length ≤ cs.length) : (cs.take off ++ vs ++ cs.drop (off + vs.length)).length = cs.length := by
  simp; omega
theorem over_append {α : Type} (cs rest : List α) (off : Nat) (vs : List α) (h : off + vs.length ≤ cs.length) :
    (cs ++ rest).take off ++ vs ++ (cs ++ rest).drop (off + vs.length) = (cs.take off ++ vs ++ cs.drop (off + vs.length)) ++ rest := by
  rw [List.take_append_of_le_length (by omega), List.drop_append_of_le_length (by omega)]
  simp

/-- An owned block, written from a place on. -/
theorem put_over {b rb off : Nat} {cs vs : List AV} {us : List Value} (hS : Sim C K w) (hk : K b = some (.cells cs)) (hφ : C.φ b = some rb) (hl : LRel C w true vs us) (hle : off + vs.length ≤ cs.length) :
    ∃ w', (storeCells ⟨rb, off, none⟩ us).run P w = .ok () w' ∧ Step C w C w' ∧ Sim C (updK K b (some (.cells (over cs off vs)))) w' := by
  rcases hS.at_ b _ hk with ⟨g, g'⟩ | ⟨rb', g1, g2, g3⟩
  · rw [g] at hφ; cases hφ
  · rw [g1] at hφ; injection hφ with hφ; subst hφ
    obtain ⟨ds, rest, T, e1, e2⟩ := g2
    have hul : us.length = vs.length := hl.length.symm
    have hdl : ds.length = cs.length := e2.length.symm
    have hst := run_storeCells P rb' us w off 0 (ds ++ rest).toArray T hl.cells e1 (by simp; omega)
    have hC : C.with b rb' = C := by
      cases C
      simp only [Ctx.with]
      congr
      funext x
      split
      · rename_i hx; subst hx; exact g1.symm
      · rfl
    have hsz : (List.take (off + 0) (ds ++ rest).toArray.toList ++ us ++ List.drop (off + 0 + us.length) (ds ++ rest).toArray.toList).toArray.size = (ds ++ rest).toArray.size := by
      simp; omega
    have hstep := step_put hS hk g1 (.inl rfl) e1 hsz
    rw [hC] at hstep
    refine ⟨_, hst, hstep, ?_⟩
    have hs := sim_put hS hk g1 (n := b) (.inl rfl) e1 hsz (o := .cells (over cs off vs)) rfl ?_
    · rw [hC] at hs
      refine hs.congr fun x => ?_
      simp only [updK]
      split <;> rfl
    · rw [hC]
      refine ⟨ds.take off ++ us ++ ds.drop (off + us.length), rest, T, ?_, (e2.step hstep).over off (hl.step hstep)⟩
      rw [setBlock_get]
      simp only [lt_of_some w e1, if_true, and_self]
      rw [← over_append ds rest off us (by omega)]
      simp

theorem storeA_rel {t : TypeId} {a x : AV} {h' : AH} {bs : List Nat} {va vx : Value} (hS : Sim C K w) (hs : storeA P h t a x = (some h', bs)) (hK : ∀ b ∈ bs, K b = h.get b) (hva : VRel C w a va) (hvx : VRel C w x vx) :
    ∃ w', (Instr.storeAt t va vx).run P w = .ok () w' ∧ Step C w C w' ∧ Sim C (fun b => if b ∈ bs then h'.get b else K b) w' := by
  unfold storeA at hs
  split at hs
  · rename_i ti b off vs ht hvs
    split at hs
    · rename_i cs hcs
      split at hs
      · rename_i hle
        injection hs with h1 h2
        injection h1 with h1
        subst h1 h2
        obtain ⟨hT⟩ := tinfo_spec ht
        simp only [VRel] at hva
        obtain ⟨rb, hφ, rfl⟩ := hva
        have hcell := hvx.one hvs
        have hk : K b = some (.cells cs) := by
          rw [hK b (by simp)]
          unfold AH.wcells at hcs
          split at hcs
          · rename_i c0 hg; injection hcs with hcs; subst hcs; exact hg
          · cases hcs
        obtain ⟨w', hr, hst, hsim⟩ := put_over (P := P) hS hk hφ hcell hle.2
        have hsz : vx.cells.size = ti.size := by
          have := hcell.length
          rw [hle.1] at this
          simpa using this.symm
        refine ⟨w', ?_, hst, ?_⟩
        · simp only [Instr.storeAt, Instr.sureAddr, Sem.run_bind, Sem.run_pure, Result.andThen_ok, storeVar, hT.run_size, hsz]
          simpa using hr
        · refine hsim.congr fun y => ?_
          simp only [List.mem_singleton, updK, AH.get_put]
          by_cases e : y = b
          · subst e; simp [live]
          · simp [e]
      · cases hs
    · cases hs
  · cases hs

/-! ### Structs built -/
theorem foldl_set {α : Type} (us : List α) : ∀ (cs : List α) (off k : Nat), off + k + us.length ≤ cs.length →
    ((us.zipIdx k).foldl (fun (cs : Array α) (p : α × Nat) => cs.setIfInBounds (off + p.2) p.1) cs.toArray) = (cs.take (off + k) ++ us ++ cs.drop (off + k + us.length)).toArray := by
  induction us with
  | nil => intro cs off k h; simp
  | cons u us ih =>
    intro cs off k h
    simp only [List.zipIdx_cons, List.foldl_cons]
    have hk : off + k < cs.length := by simp at h; omega
    have e : cs.toArray.setIfInBounds (off + k) u = (cs.set (off + k) u).toArray := by simp
    rw [e, ih (cs.set (off + k) u) off (k + 1) (by simp at h ⊢; omega)]
    exact congrArg List.toArray (splice_cons hk)

theorem fill_rel {places : Nat → Option (Nat × Nat)} : ∀ (parts : List (Nat × AV)) (vparts : List (Nat × Value)) (cells out : List AV) (cs : List Value),
    (∀ i : Nat, (parts[i]?).map (fun p : Nat × AV => p.1) = (vparts[i]?).map (fun p : Nat × Value => p.1)) → (∀ (i : Nat) (p : Nat × AV) (q : Nat × Value), parts[i]? = some p → vparts[i]? = some q → VRel C w p.2 q.2) → LRel C w true cells cs →
    fillA places cells parts = some out → ∃ vs : List Value, Instr.fill places cs.toArray vparts = some vs.toArray ∧ LRel C w true out vs
  | [], vparts, cells, out, cs, h1, h2, h3, h4 => by
    have : vparts = [] := by
      cases vparts with
      | nil => rfl
      | cons q r => have := h1 0; simp at this
    subst this
    simp only [fillA, Option.some.injEq] at h4; subst h4
    exact ⟨cs, by simp [Instr.fill], h3⟩
  | (i, x) :: parts, vparts, cells, out, cs, h1, h2, h3, h4 => by
    cases vparts with
    | nil => have := h1 0; simp at this
    | cons q vparts =>
      obtain ⟨j, v⟩ := q
      have hij : i = j := by have := h1 0; simpa using this
      subst hij
      simp only [fillA] at h4
      split at h4
      · rename_i off size vs hp hv
        split at h4
        · rename_i hle
          have hx : VRel C w x v := h2 0 (i, x) (i, v) rfl rfl
          have hc := hx.one hv
          have hvl : v.cells.size = size := by have := hc.length; rw [hle.1] at this; simpa using this.symm
          have hcl : cs.length = cells.length := h3.length.symm
          have hfs := foldl_set v.cells.toList cs off 0 (by simp; omega)
          obtain ⟨us, e1, e2⟩ := fill_rel parts vparts (over cells off vs) out (cs.take off ++ v.cells.toList ++ cs.drop (off + v.cells.toList.length))
            (fun k => by have := h1 (k + 1); simpa using this) (fun k p q hp hq => h2 (k + 1) p q (by simpa using hp) (by simpa using hq)) (h3.over off hc) h4
          refine ⟨us, ?_, e2⟩
          simp only [Instr.fill, hp]
          have hno : (v.cells.size ≠ size || off + v.cells.size > cs.toArray.size) = false := by
            simp [hvl]; omega
          rw [if_neg (by simpa using hno)]
          rw [← Array.foldl_toList, Array.toList_zipIdx]
          rw [show (fun (cs : Array Value) (x : Value × Nat) => match x with | (c, j) => cs.setIfInBounds (off + j) c) = (fun (cs : Array Value) (p : Value × Nat) => cs.setIfInBounds (off + p.2) p.1) from rfl]
          rw [hfs]
          simpa using e1
        · cases h4
      · cases h4
end
end Go.Proofs.Ytadipihpgcelmaa.Ab
