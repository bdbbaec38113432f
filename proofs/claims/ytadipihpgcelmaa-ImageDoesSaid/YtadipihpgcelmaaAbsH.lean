/- Each operation of the interpreter is one of the machine's: what is built and made, numbers, maps. -/
import Derived.Test.YtadipihpgcelmaaAbsG
namespace Go.Proofs.Ytadipihpgcelmaa.Ab
open Go
set_option linter.unusedVariables false
set_option linter.unusedSimpArgs false

section
variable {P : Program} {C : Ctx} {K : Nat → Option AObj} {w : World} {h : AH}

/-! ### Built and made -/
theorem repl_succ (n : Nat) (z : List AV) : repl (n + 1) z = z ++ repl n z := by simp [repl, List.replicate_succ]
theorem range_mod {α : Type} [Inhabited α] (zs : Array α) (hz : 0 < zs.size) : ∀ n, ((Array.range (n * zs.size)).map fun i => zs[i % zs.size]!).toList = (List.replicate n zs.toList).flatten := by
  intro n
  apply List.ext_getElem?
  intro i
  have hlen : ∀ n, ((List.replicate n zs.toList).flatten).length = n * zs.size := by
    intro n; induction n with
    | zero => simp
    | succ n ih => simp [List.replicate_succ, ih, Nat.add_mul, Nat.add_comm]
  by_cases hi : i < n * zs.size
  · have e1 : ((Array.range (n * zs.size)).map fun i => zs[i % zs.size]!).toList[i]? = some (zs[i % zs.size]!) := by
      simp [hi]
    rw [e1]
    have key : ∀ n i, i < n * zs.size → ((List.replicate n zs.toList).flatten)[i]? = some (zs[i % zs.size]!) := by
      intro n
      induction n with
      | zero => intro i hi; simp at hi
      | succ n ih =>
        intro i hi
        simp only [List.replicate_succ, List.flatten_cons]
        by_cases h1 : i < zs.size
        · rw [List.getElem?_append_left (by simpa using h1), Nat.mod_eq_of_lt h1]
          simp [h1]
        · rw [List.getElem?_append_right (by simpa using Nat.le_of_not_lt h1)]
          simp only [Array.length_toList]
          rw [ih _ (by rw [Nat.add_mul, Nat.one_mul] at hi; omega)]
          congr 2
          conv => rhs; rw [← Nat.sub_add_cancel (Nat.le_of_not_lt h1)]
          simp
    exact (key n i hi).symm
  · rw [List.getElem?_eq_none (by simpa using Nat.le_of_not_lt hi), List.getElem?_eq_none (by rw [hlen]; exact Nat.le_of_not_lt hi)]
theorem repl_rel {one : Bool} {z : List AV} {vs : List Value} (hz : LRel C w one z vs) : ∀ n, LRel C w one (repl n z) (List.replicate n vs).flatten
  | 0 => by simpa [repl] using LRel.nil
  | n + 1 => by rw [repl_succ, List.replicate_succ, List.flatten_cons]; exact hz.append (repl_rel hz n)
theorem repl_length (n : Nat) (z : List AV) : (repl n z).length = n * z.length := by
  induction n with
  | zero => simp [repl]
  | succ n ih => rw [repl_succ, List.length_append, ih, Nat.add_mul, Nat.one_mul, Nat.add_comm]

theorem gives_makeSlice {t e : TypeId} {ti ei : TI} (hS : Sim C K w) (hn : C.φ h.nx = none) (hT : TSpec P t ti) (hk : ti.k = .slice e) (hE : TSpec P e ei) {n : Int} (h0 : 0 ≤ n) (h1 : n ≤ 4294967296) (h2 : ei.bytes ≤ 4096)
    (h3 : ei.zero.length = ei.size) (h4 : 0 < ei.size) : Gives P C K w h.nx ⟨.rf h.nx ei.size 0 n.toNat, h.new (.cells (repl n.toNat ei.zero)), [], [h.nx]⟩ (Instr.makeSlice t (.int .i64 n) (.int .i64 n)) := by
  have hd := kindOf_slice (hk ▸ hT.kind)
  have hu : (underlying t).run P w = .ok (.slice e) w := by rw [hT.run_und, hd]
  have hzs : hE.z.cells.size = ei.size := by rw [← h3, hE.zeros]; simp
  have hw : IntKind.i64.wrap n = n := by unfold IntKind.wrap IntKind.bits IntKind.signed; simp; omega
  have hb : ¬ (281474976710656 < (hE.i.bytes : Int) * n) := by
    rw [← hE.bytes]
    have : (ei.bytes : Int) * n ≤ 4096 * 4294967296 := Int.mul_le_mul (by omega) h1 h0 (by omega)
    omega
  have hrun : (Instr.makeSlice t (.int .i64 n) (.int .i64 n)).run P w = .ok (.slice (some ⟨w.heap.size, 0, none⟩) n.toNat n.toNat) (wnew w (Obj.cells (List.replicate n.toNat hE.z.cells.toList).flatten.toArray e (0, 0))) := by
    by_cases hz : n = 0
    · subst hz
      simp [Instr.makeSlice, hu, asInt, asIntOf, hE.run_info, hw, newRow, wnew, hE.run_size]
      congr 2
      simp [Array.range]
    · have h5 : ¬ (n.toNat * ei.size = 0) := by
        have : 0 < n.toNat * ei.size := Nat.mul_pos (by omega) h4
        omega
      have h6 : ¬ n < 0 := by omega
      have h7 : ¬ n ≤ 0 := by omega
      have rm := range_mod hE.z.cells (by omega) n.toNat
      rw [hzs] at rm
      simp [Instr.makeSlice, hu, asInt, asIntOf, hE.run_info, hw, newRow, wnew, hE.run_size, hE.run_zero, h6, hb, h5, hzs, h7, Nat.ne_of_gt h4]
      congr 2
      apply Array.ext'
      simpa using rm
  obtain ⟨g1, g2, g3⟩ := realloc (K' := K) (rest := []) (e := e) (z := ei.size) (N := n.toNat) (q := n.toNat) (cs := repl n.toNat ei.zero) (vs := (List.replicate n.toNat hE.z.cells.toList).flatten) hS hn ⟨rfl, rfl⟩
    (repl_rel (by rw [hE.zeros]; exact ofCells_rel C w _ hE.ones) _) (Nat.le_refl _) (by
      have := repl_length n.toNat ei.zero
      rw [h3] at this
      have l := (repl_rel (C := C) (w := w) (one := true) (z := ei.zero) (vs := hE.z.cells.toList) (by rw [hE.zeros]; exact ofCells_rel C w _ hE.ones) n.toNat).length
      rw [List.append_nil, ← l, this]; exact Nat.le_refl _)
  rw [List.append_nil] at g1 g2 g3
  refine ⟨_, _, _, hrun, g1, g2, g3.congr fun b => ?_, fun b hb hne => by simp [Ctx.with, hne.resolve_right (by simp), hb]⟩
  simp only [List.mem_singleton, updK, AH.get_new]
  by_cases e : b = h.nx
  · subst e; simp [live]
  · simp [e]

/-- The parts of a literal, told. -/
theorem parts_rel {T : Tm} {a : Act} {parts : Array (Nat × Operand)} (hT : ∀ p ∈ parts.toList, TRel1 C w T a p.2) :
    (∀ i : Nat, ((parts.toList.map fun p => (p.1, ev T p.2))[i]?).map (fun p : Nat × AV => p.1) = (((parts.map fun (i, x) => (i, a.eval x)).toList)[i]?).map (fun p : Nat × Value => p.1)) ∧
    (∀ (i : Nat) (p : Nat × AV) (q : Nat × Value), (parts.toList.map fun p => (p.1, ev T p.2))[i]? = some p → ((parts.map fun (i, x) => (i, a.eval x)).toList)[i]? = some q → VRel C w p.2 q.2) := by
  refine ⟨fun i => ?_, fun i p q hp hq => ?_⟩
  · simp only [Array.toList_map, List.getElem?_map, Option.map_map]
    cases parts.toList[i]? <;> rfl
  · simp only [Array.toList_map, List.getElem?_map] at hp hq
    cases hx : parts.toList[i]? with
    | none => rw [hx] at hp; cases hp
    | some x =>
      rw [hx] at hp hq
      simp only [Option.map_some, Option.some.injEq] at hp hq
      subst hp hq
      exact ev_rel (hT x (List.mem_of_getElem? hx))

theorem run_mapM_fields {gs : Array Field} {fs : List (Nat × Nat × Bool)} (hm : gs.toList.mapM (fieldI P) = some fs) :
    (gs.mapM fun f => (do pure (f.offset, ← sizeOf f.type) : Sem (Nat × Nat))).run P w = .ok (fs.map fun f => (f.1, f.2.1)).toArray w := by
  rw [← Array.toArray_toList (xs := gs), List.mapM_toArray]
  generalize gs.toList = l at hm
  have key : ∀ (l : List Field) (fs : List (Nat × Nat × Bool)), l.mapM (fieldI P) = some fs →
      (l.mapM fun f => (do pure (f.offset, ← sizeOf f.type) : Sem (Nat × Nat))).run P w = .ok (fs.map fun f => (f.1, f.2.1)) w := by
    intro l
    induction l with
    | nil => intro fs hm; simp at hm; subst hm; simp
    | cons g l ih =>
      intro fs hm
      rw [List.mapM_cons] at hm
      cases hg : fieldI P g with
      | none => rw [hg] at hm; simp at hm
      | some y =>
        rw [hg] at hm
        cases hl : l.mapM (fieldI P) with
        | none => rw [hl] at hm; simp at hm
        | some r =>
          rw [hl] at hm
          simp at hm; subst hm
          unfold fieldI at hg
          split at hg
          · rename_i fi fd h1 h2
            injection hg with hg; subst hg
            have := ih r hl
            simp only [List.mapM_cons, Sem.run_bind, run_size' h1, Result.andThen_ok, this, Sem.run_pure, List.map_cons]
          · cases hg
  have := key l fs hm
  rw [Sem.run_map, this]
  rfl

theorem build_rel {T : Tm} {a : Act} {t : TypeId} {parts : Array (Nat × Operand)} {r : OR} (hS : Sim C K w) (hr : aOp P h T (.build t parts) = some r) (hT : ∀ p ∈ parts.toList, TRel1 C w T a p.2) {n : Nat} :
    Gives P C K w n r (Instr.build t (parts.map fun (i, x) => (i, a.eval x))) := by
  obtain ⟨p1, p2⟩ := parts_rel (C := C) (w := w) hT
  simp only [aOp] at hr
  split at hr
  · rename_i ti ht
    obtain ⟨hTy⟩ := tinfo_spec ht
    split at hr
    · rename_i fs hk
      obtain ⟨gs, hd, hm⟩ := kindOf_struct (hk ▸ hTy.kind)
      split at hr
      · rename_i cs hcs
        simp only [quiet, Option.some.injEq] at hr; subst hr
        obtain ⟨vs, g1, g2⟩ := fill_rel _ _ _ cs hTy.z.cells.toList p1 p2 (by rw [hTy.zeros]; exact ofCells_rel C w _ hTy.ones) hcs
        refine gives_quiet (v := .agg vs.toArray) hS ?_ (by simp only [VRel]; exact ⟨vs, rfl, g2⟩)
        have hu : (underlying t).run P w = .ok (.struct gs) w := by rw [hTy.run_und, hd]
        have e1 : (fun i : Nat => (fs[i]?).map fun f : Nat × Nat × Bool => (f.1, f.2.1)) = (fun i : Nat => ((fs.map fun f : Nat × Nat × Bool => (f.1, f.2.1)).toArray)[i]?) := by
          funext i; simp
        rw [e1] at g1
        simp only [Array.toArray_toList] at g1
        simp only [Instr.build, Sem.run_bind, hTy.run_zero, Result.andThen_ok, hu, run_mapM_fields hm, g1]
        rfl
      · cases hr
    · rename_i m e hk
      have hd := kindOf_array (hk ▸ hTy.kind)
      split at hr
      · rename_i ei he
        obtain ⟨hE⟩ := tinfo_spec he
        split at hr
        · rename_i cs hcs
          simp only [quiet, Option.some.injEq] at hr; subst hr
          obtain ⟨vs, g1, g2⟩ := fill_rel _ _ _ cs hTy.z.cells.toList p1 p2 (by rw [hTy.zeros]; exact ofCells_rel C w _ hTy.ones) hcs
          refine gives_quiet (v := .agg vs.toArray) hS ?_ (by simp only [VRel]; exact ⟨vs, rfl, g2⟩)
          have hu : (underlying t).run P w = .ok (.array m e) w := by rw [hTy.run_und, hd]
          simp only [Array.toArray_toList] at g1
          simp only [Instr.build, Sem.run_bind, hTy.run_zero, Result.andThen_ok, hu, hE.run_size, g1]
          rfl
        · cases hr
      · cases hr
    · cases hr
  · cases hr

theorem buildSlice_rel {T : Tm} {a : Act} {t : TypeId} {len : Nat} {parts : Array (Nat × Operand)} {r : OR} (hS : Sim C K w) (hn : r.h.nx ≠ h.nx → C.φ h.nx = none) (hr : aOp P h T (.buildSlice t len parts) = some r) (hT : ∀ p ∈ parts.toList, TRel1 C w T a p.2) :
    Gives P C K w h.nx r (Instr.buildSlice t len (parts.map fun (i, x) => (i, a.eval x))) := by
  obtain ⟨p1, p2⟩ := parts_rel (C := C) (w := w) hT
  simp only [aOp] at hr
  split at hr
  · rename_i ti ht
    obtain ⟨hTy⟩ := tinfo_spec ht
    split at hr
    · rename_i e hk
      have hd := kindOf_slice (hk ▸ hTy.kind)
      have hu : (underlying t).run P w = .ok (.slice e) w := by rw [hTy.run_und, hd]
      split at hr
      · rename_i ei he
        obtain ⟨hE⟩ := tinfo_spec he
        split at hr
        · rename_i hb
          obtain ⟨h1, h2, h3⟩ := hb
          have hzs : hE.z.cells.size = ei.size := by rw [← h2, hE.zeros]; simp
          have h1' : ¬ (16777216 < len * ei.size) := by omega
          split at hr
          · rename_i h0
            subst h0
            split at hr
            · rename_i hp
              simp only [quiet, Option.some.injEq] at hr; subst hr
              have hpe : parts = #[] := Array.size_eq_zero_iff.1 hp
              subst hpe
              refine ⟨.slice (some ⟨w.heap.size, 0, none⟩) 0 0, C, wnew w (Obj.cells #[] e (0, 0)), ?_, by simp only [VRel]; exact ⟨_, rfl⟩, step_waste hS _, by simpa using sim_waste hS _, fun b hb _ => hb⟩
              simp [Instr.buildSlice, hu, hE.run_size, Instr.fill, newRow, wnew]
              congr 2
              simp [Array.range]
            · cases hr
          · rename_i h0
            split at hr
            · rename_i cs hcs
              injection hr with hr; subst hr
              have h5 : ¬ (len * ei.size = 0) := by
                have : 0 < len * ei.size := Nat.mul_pos (by omega) h3
                omega
              have rm := range_mod hE.z.cells (by omega) len
              rw [hzs] at rm
              obtain ⟨vs, g1, g2⟩ := fill_rel _ _ _ cs (List.replicate len hE.z.cells.toList).flatten p1 p2 (repl_rel (by rw [hE.zeros]; exact ofCells_rel C w _ hE.ones) len) hcs
              have hfl : ∀ (parts : List (Nat × AV)) (cells out : List AV), fillA (fun i => some (i * ei.size, ei.size)) cells parts = some out → out.length = cells.length := by
                intro parts
                induction parts with
                | nil => intro cells out hf; simp only [fillA, Option.some.injEq] at hf; rw [hf]
                | cons p parts ih =>
                  intro cells out hf
                  simp only [fillA] at hf
                  split at hf
                  · split at hf
                    · rename_i hle
                      rw [ih _ _ hf]
                      unfold Ab.over
                      rw [over_length _ _ _ hle.2]
                    · cases hf
                  · cases hf
              have hcl : cs.length = len * ei.size := by rw [hfl _ _ _ hcs, repl_length, h2]
              obtain ⟨k1, k2, k3⟩ := realloc (K' := K) (rest := []) (e := e) (z := ei.size) (N := len) (q := len) (cs := cs) (vs := vs) hS (hn (by simp)) ⟨rfl, rfl⟩ g2 (Nat.le_refl _) (by rw [List.append_nil, ← g2.length, hcl]; exact Nat.le_refl _)
              rw [List.append_nil] at k1 k2 k3
              refine ⟨_, _, _, ?_, k1, k2, k3.congr fun b => ?_, fun b hb hne => by simp [Ctx.with, hne.resolve_right (by simp), hb]⟩
              · have hz0 : hE.z.cells.size ≠ 0 := by omega
                have e2 : ((Array.range (len * ei.size)).map fun i => hE.z.cells[i % hE.z.cells.size]!) = (List.replicate len hE.z.cells.toList).flatten.toArray := by
                  rw [hzs]; apply Array.ext'; simpa using rm
                simp only [Array.toArray_toList] at g1
                simp only [Instr.buildSlice, Sem.run_bind, hu, Result.andThen_ok, hE.run_size]
                rw [if_neg h1', if_neg h5]
                simp only [Sem.run_bind, hE.run_zero, Result.andThen_ok, Sem.run_pure, e2, g1]
                simp [newRow, wnew]
              · simp only [List.mem_singleton, updK, AH.get_new]
                by_cases e : b = h.nx
                · subst e; simp [live]
                · simp [e]
            · cases hr
        · cases hr
      · cases hr
    · cases hr
  · cases hr
end
end Go.Proofs.Ytadipihpgcelmaa.Ab
