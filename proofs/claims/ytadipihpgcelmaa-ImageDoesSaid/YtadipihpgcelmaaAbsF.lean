/- Each operation of the interpreter is one of the machine's: slices, appended to, copied, cut. -/
import Derived.Test.YtadipihpgcelmaaAbsE
namespace Go.Proofs.Ytadipihpgcelmaa.Ab
open Go
set_option linter.unusedVariables false
set_option linter.unusedSimpArgs false

section
variable {P : Program} {C : Ctx} {K : Nat → Option AObj} {w : World} {h : AH}

theorem CellsAt.heap {w w' : World} (e : w'.heap = w.heap) {b o : Nat} {vs : List Value} (r : CellsAt w b o vs) : CellsAt w' b o vs := by
  intro i v hv
  have := r i v hv
  unfold World.cell? at *
  simpa only [e] using this
theorem cells_spec {b : Nat} {cs : List AV} (hc : h.cells b = some cs) : h.get b = some (.cells cs) ∨ h.get b = some (.ro cs) := by
  unfold AH.cells at hc
  split at hc
  · rename_i g; injection hc with hc; subst hc; exact .inl g
  · rename_i g; injection hc with hc; subst hc; exact .inr g
  · cases hc
theorem wcells_spec {b : Nat} {cs : List AV} (hc : h.wcells b = some cs) : h.get b = some (.cells cs) := by
  unfold AH.wcells at hc
  split at hc
  · rename_i g; injection hc with hc; subst hc; exact g
  · cases hc

/-- What an owned block's cells are in the machine's memory. -/
theorem block_at {b rb : Nat} {cs : List AV} (hS : Sim C K w) (hk : K b = some (.cells cs) ∨ K b = some (.ro cs)) (hφ : C.φ b = some rb) : ∃ vs, CellsAt w rb 0 vs ∧ LRel C w true cs vs := by
  rcases hk with hk | hk
  · rcases hS.at_ b _ hk with ⟨g, _⟩ | ⟨rb', g1, g2, _⟩
    · rw [g] at hφ; cases hφ
    · rw [g1] at hφ; injection hφ with hφ; subst hφ
      obtain ⟨vs, rest, T, e1, e2⟩ := g2
      refine ⟨vs, fun i v hv => ?_, e2⟩
      rw [cell?_of w e1]
      have : i < vs.length := by
        rcases Nat.lt_or_ge i vs.length with g | g
        · exact g
        · rw [List.getElem?_eq_none g] at hv; cases hv
      simp [List.getElem?_append_left this, hv]
  · rcases hS.at_ b _ hk with ⟨g, _⟩ | ⟨rb', g1, g2, _⟩
    · rw [g] at hφ; cases hφ
    · rw [g1] at hφ; injection hφ with hφ; subst hφ
      exact g2

/-- A slice's elements, read. -/
theorem slCells_rel {z n : Nat} {x : AV} {v : Value} {cs : List AV} {rd : List Nat} (hS : Sim C K w) (hc : slCells h z x = some (n, cs, rd)) (hK : ∀ b ∈ rd, K b = h.get b) (hv : VRel C w x v) :
    ∃ vs : List Value, LRel C w true cs vs ∧ cs.length = n * z ∧ (∀ w', (Builtin.lenOf v).run P w' = .ok n w') ∧ ∀ k, k ≤ n → ∀ w' : World, w'.heap = w.heap → (Builtin.firstCells z k v).run P w' = .ok (vs.take (k * z)).toArray w' := by
  have zero : ∀ a c (w' : World), (Builtin.firstCells z 0 (.slice a 0 c)).run P w' = .ok #[] w' := by
    intro a c w'
    cases a <;> simp [Builtin.firstCells, loadCells, loadCellsFrom]
  cases x with
  | nl =>
    simp only [slCells, Option.some.injEq, Prod.mk.injEq] at hc
    obtain ⟨rfl, rfl, rfl⟩ := hc
    simp only [VRel] at hv
    obtain ⟨a, rfl⟩ := hv
    refine ⟨[], LRel.nil, by simp, fun _ => by simp [Builtin.lenOf], fun k hk w' hw' => ?_⟩
    have : k = 0 := by omega
    subst this
    simpa using zero a 0 w'
  | sl m ds =>
    simp only [slCells] at hc
    split at hc
    · rename_i hlen
      simp only [Option.some.injEq, Prod.mk.injEq] at hc
      obtain ⟨rfl, rfl, rfl⟩ := hc
      simp only [VRel] at hv
      obtain ⟨a, c, rfl, hle, hn | ⟨ad, vs, rfl, h2, h3, h4, h5⟩⟩ := hv
      · subst hn
        have : ds = [] := by cases ds with | nil => rfl | cons _ _ => simp at hlen
        subst this
        refine ⟨[], LRel.nil, by simp, fun _ => by simp [Builtin.lenOf], fun k hk w' hw' => ?_⟩
        have : k = 0 := by omega
        subst this
        simpa using zero a c w'
      · refine ⟨vs, h4.unpure, hlen, fun _ => by simp [Builtin.lenOf], fun k hk w' hw' => ?_⟩
        simp only [Builtin.firstCells]
        have hl : (vs.take (k * z)).length = k * z := by
          rw [List.length_take, ← h4.length, hlen]
          exact Nat.min_eq_left (Nat.mul_le_mul_right z hk)
        have := run_loadCells P w' ad h2 (vs.take (k * z)) ((h5.heap hw').take _)
        rwa [hl] at this
    · cases hc
  | rf b z' off m =>
    simp only [slCells] at hc
    split at hc
    · rename_i hz; subst hz
      split at hc
      · rename_i ds hds
        split at hc
        · rename_i hle
          simp only [Option.some.injEq, Prod.mk.injEq] at hc
          obtain ⟨rfl, rfl, rfl⟩ := hc
          have hlen : ((ds.drop off).take (m * z')).length = m * z' := by simp; omega
          simp only [VRel] at hv
          obtain ⟨a, c, rfl, hcap, h0 | ⟨rb, hφ, rfl, hR⟩⟩ := hv
          · subst h0
            have : m = 0 := by omega
            subst this
            refine ⟨[], by simpa using LRel.nil, hlen, fun _ => by simp [Builtin.lenOf], fun k hk w' hw' => ?_⟩
            have : k = 0 := by omega
            subst this
            simpa using zero a 0 w'
          · have hk : K b = some (.cells ds) ∨ K b = some (.ro ds) := by rw [hK b (by simp)]; exact cells_spec hds
            obtain ⟨vs, e1, e2⟩ := block_at hS hk hφ
            refine ⟨(vs.drop off).take (m * z'), (e2.drop off).take _, hlen, fun _ => by simp [Builtin.lenOf], fun k hk w' hw' => ?_⟩
            simp only [Builtin.firstCells]
            have hl : (((vs.drop off).take (m * z')).take (k * z')).length = k * z' := by
              have := Nat.mul_le_mul_right z' hk
              have := e2.length
              simp; omega
            have := run_loadCells P w' ⟨rb, off, none⟩ rfl (((vs.drop off).take (m * z')).take (k * z')) (((by simpa using (e1.heap hw').drop off : CellsAt w' rb off (vs.drop off)).take _).take _)
            rwa [hl] at this
        · cases hc
      · cases hc
    · cases hc
  | _ => simp [slCells] at hc

/-! ### append -/
theorem zeroCells_size (zero : Array Value) (n : Nat) : (Builtin.zeroCells zero n).size = n * zero.size := by simp [Builtin.zeroCells]

theorem growBy_le (N : Nat) : ∀ (r c : Nat), c ≤ N → Builtin.growBy N r c ≤ N + (N + 768) / 4
  | 0, c, h => by simp only [Builtin.growBy]; omega
  | r + 1, c, h => by
    simp only [Builtin.growBy]
    split
    · omega
    · rename_i hlt
      by_cases h2 : c + (c + 768) / 4 ≤ N
      · exact growBy_le N r _ h2
      · cases r with
        | zero => simp only [Builtin.growBy]; omega
        | succ r =>
          simp only [Builtin.growBy]
          rw [if_pos (by omega)]
          omega
theorem nextslicecap_le (need cap : Nat) (h : ¬ need ≤ cap) : Builtin.nextslicecap need cap ≤ 2 * need + 256 := by
  unfold Builtin.nextslicecap
  split
  · omega
  · split
    · omega
    · have := growBy_le need 4 cap (by omega)
      omega

/-- The machine's append of cells, in its two ways. -/
theorem run_append {t e : TypeId} {ti ei : TI} (hT : TSpec P t ti) (hE : TSpec P e ei) (hk : ti.k = .slice e) {ts : Array TypeId} (hts : ts[0]? = some t) (hno : noInt P ts[1]? = true)
    {a : Option Addr} {m c n : Nat} {x : Value} {old new : List Value} (hlen : ∀ w', (Builtin.lenOf x).run P w' = .ok n w') (hnew : ∀ w' : World, w'.heap = w.heap → (Builtin.firstCells ei.size n x).run P w' = .ok new.toArray w')
    (hold : ∀ w' : World, w'.heap = w.heap → (Builtin.firstCells ei.size m (.slice a m c)).run P w' = .ok old.toArray w') (hb1 : m + n ≤ 4294967296) (hb2 : ei.bytes ≤ 4096) {ty : TypeId} :
    (m + n ≤ c → (Builtin.append_ ts ty #[.slice a m c, x]).run P w = ((match a with | some a => storeCells (a.add (m * ei.size)) new | none => pure () : Sem Unit).run P w).andThen fun _ w' => .ok (.slice a (m + n) c) w') ∧
    (¬ m + n ≤ c → ∃ (q : Nat) (w1 : World), m + n ≤ q ∧ (w1.heap = w.heap ∧ envOf w1 = envOf w) ∧
      (Builtin.append_ ts ty #[.slice a m c, x]).run P w = .ok (.slice (some ⟨w.heap.size, 0, none⟩) (m + n) q) (wnew w1 (Obj.cells (old ++ new ++ (Builtin.zeroCells hE.z.cells (q - (m + n))).toList).toArray e (0, 0)))) := by
  have hd := kindOf_slice (hk ▸ hT.kind)
  have hund : (underlying t).run P w = .ok (.slice e) w := by rw [hT.run_und, hd]
  have hz : ts[1]? = none ∨ ∃ (t1 e1 : TypeId), ts[1]? = some t1 ∧ ((underlying t1).run P w = .ok (.slice e1) w ∨ (underlying t1).run P w = .ok .string w) := by
    unfold noInt at hno
    cases h1 : ts[1]? with
    | none => exact .inl rfl
    | some t1 =>
      rw [h1] at hno
      simp only at hno
      split at hno
      · rename_i ti1 ht1
        obtain ⟨hT1⟩ := tinfo_spec ht1
        split at hno
        · rename_i e1 hk1
          exact .inr ⟨t1, e1, rfl, .inl (by rw [hT1.run_und]; exact congrArg (Result.ok · w) (kindOf_slice (hk1 ▸ hT1.kind)))⟩
        · rename_i hk1
          exact .inr ⟨t1, 0, rfl, .inr (by rw [hT1.run_und]; exact congrArg (Result.ok · w) (kindOf_string (hk1 ▸ hT1.kind)))⟩
        · cases hno
      · cases hno
  constructor
  · intro hle
    rcases hz with h1 | ⟨t1, e1, h1, hu1 | hu1⟩
    · cases a <;> simp [Builtin.append_, hts, h1, hund, hE.run_size, hlen, hnew w rfl, hle]
    · cases a <;> simp [Builtin.append_, hts, h1, hu1, hund, hE.run_size, hlen, hnew w rfl, hle]
    · cases a <;> simp [Builtin.append_, hts, h1, hu1, hund, hE.run_size, hlen, hnew w rfl, hle]
  · intro hgt
    have hns := nextslicecap_le (m + n) c hgt
    have hbnd : ¬ (281474976710656 < Builtin.nextslicecap (m + n) c * hE.i.bytes) := by
      rw [← hE.bytes]
      have : Builtin.nextslicecap (m + n) c * ei.bytes ≤ (2 * 4294967296 + 256) * 4096 := Nat.mul_le_mul (by omega) hb2
      omega
    have h63 : ¬ (IntKind.i64.max < ((m : Int) + (n : Int))) := by
      have : IntKind.i64.max = 9223372036854775807 := by decide
      omega
    refine ⟨(m + n) + (w.tape w.drawn (.appendCap (m + n) c e)) % (2 ^ 63 - (m + n)), { w with drawn := w.drawn + 1 }, by omega, ⟨rfl, rfl⟩, ?_⟩
    have hn1 := hnew { w with drawn := w.drawn + 1 } rfl
    have ho1 := hold { w with drawn := w.drawn + 1 } rfl
    rcases hz with h1 | ⟨t1, e1, h1, hu1 | hu1⟩
    · simp [Builtin.append_, hts, h1, hund, hE.run_size, hlen, hn1, ho1, hgt, h63, hE.run_info, hbnd, Question.forced, Question.cut, hE.run_zero, newRow, wnew]
      congr 2
      apply Array.ext'
      simp
    · simp [Builtin.append_, hts, h1, hu1, hund, hE.run_size, hlen, hn1, ho1, hgt, h63, hE.run_info, hbnd, Question.forced, Question.cut, hE.run_zero, newRow, wnew]
      congr 2
      apply Array.ext'
      simp
    · simp [Builtin.append_, hts, h1, hu1, hund, hE.run_size, hlen, hn1, ho1, hgt, h63, hE.run_info, hbnd, Question.forced, Question.cut, hE.run_zero, newRow, wnew]
      congr 2
      apply Array.ext'
      simp

theorem realloc {K' : Nat → Option AObj} (hS : Sim C K' w) {n : Nat} (hn : C.φ n = none) {w1 : World} (hw1 : w1.heap = w.heap ∧ envOf w1 = envOf w) {cs : List AV} {vs rest : List Value} {e : TypeId} {z N q : Nat}
    (hl : LRel C w true cs vs) (hq : N ≤ q) (hsz : q * z ≤ (vs ++ rest).length) :
    VRel (C.with n w.heap.size) (wnew w1 (Obj.cells (vs ++ rest).toArray e (0, 0))) (.rf n z 0 N) (.slice (some ⟨w.heap.size, 0, none⟩) N q) ∧
    Step C w (C.with n w.heap.size) (wnew w1 (Obj.cells (vs ++ rest).toArray e (0, 0))) ∧
    Sim (C.with n w.heap.size) (updK K' n (some (.cells cs))) (wnew w1 (Obj.cells (vs ++ rest).toArray e (0, 0))) := by
  have hS1 := hS.heap hw1.1 hw1.2
  have e0 : w1.heap.size = w.heap.size := by rw [hw1.1]
  have st := (Step.heap hw1.1 hw1.2 : Step C w C w1).trans (step_new hS1 hn (Obj.cells (vs ++ rest).toArray e (0, 0)))
  have hat := wnew_at w1 (Obj.cells (vs ++ rest).toArray e (0, 0))
  rw [e0] at st hat
  refine ⟨?_, st, ?_⟩
  · simp only [VRel]
    exact ⟨_, _, rfl, hq, .inr ⟨w.heap.size, Ctx.with_at C _ _, rfl, _, _, _, hat, by simpa using hsz⟩⟩
  · have := sim_new hS1 hn (ob := Obj.cells (vs ++ rest).toArray e (0, 0)) (o := .cells cs) rfl ?_
    · rwa [e0] at this
    · rw [e0]; exact ⟨vs, rest, e, hat, hl.step st⟩

theorem appendA_rel {t : TypeId} {ts : Array TypeId} {s x : AV} {r : OR} {vs vx : Value} (hS : Sim C K w) (hn : C.φ h.nx = none) (hts : ts[0]? = some t) (hr : appendA P h t ts[1]? s x = some r)
    (hK : ∀ b ∈ r.rd, K b = h.get b) (hvs : VRel C w s vs) (hvx : VRel C w x vx) {ty : TypeId} : Gives P C K w h.nx r (Builtin.append_ ts ty #[vs, vx]) := by
  unfold appendA at hr
  split at hr
  · rename_i ti ht
    split at hr
    · rename_i e hk
      split at hr
      · rename_i ei he
        split at hr
        · cases hr
        · rename_i hno0
          have hno : noInt P ts[1]? = true := by
            cases hx : noInt P ts[1]? with
            | true => rfl
            | false => exact absurd (.inl hx) hno0
          have hzl : ei.zero.length = ei.size := Classical.byContradiction fun hx => hno0 (.inr hx)
          obtain ⟨hT⟩ := tinfo_spec ht
          obtain ⟨hE⟩ := tinfo_spec he
          have hzs : hE.z.cells.size = ei.size := by rw [← hzl, hE.zeros]; simp
          split at hr
          · rename_i n new rd hsl
            split at hr
            · -- onto nothing
              split at hr
              · rename_i hb
                injection hr with hr; subst hr
                obtain ⟨ns, l1, l2, l3, l4⟩ := slCells_rel (P := P) hS hsl hK hvx
                simp only [VRel] at hvs
                obtain ⟨a, rfl⟩ := hvs
                have hnl : ns.length = n * ei.size := by rw [← l1.length, l2]
                have hnew : ∀ w' : World, w'.heap = w.heap → (Builtin.firstCells ei.size n vx).run P w' = .ok ns.toArray w' := by
                  intro w' hw'
                  have := l4 n (Nat.le_refl _) w' hw'
                  rwa [← hnl, List.take_length] at this
                have hold : ∀ w' : World, w'.heap = w.heap → (Builtin.firstCells ei.size 0 (.slice a 0 0)).run P w' = .ok ([] : List Value).toArray w' := by
                  intro w' _
                  cases a <;> simp [Builtin.firstCells, loadCells, loadCellsFrom]
                obtain ⟨h1, h2⟩ := run_append hT hE hk hts hno (a := a) (m := 0) (c := 0) l3 hnew hold (by omega) hb.2.1 (ty := ty)
                by_cases hle : 0 + n ≤ 0
                · have hn0 : n = 0 := by omega
                  subst hn0
                  have hns : ns = [] := by cases ns with | nil => rfl | cons _ _ => simp at hnl
                  have hnw : new = [] := by cases new with | nil => rfl | cons _ _ => simp at l2
                  subst hns hnw
                  refine ⟨.slice a 0 0, C, w, ?_, ?_, Step.refl C w, ?_, fun b hb _ => hb⟩
                  · rw [h1 hle]; cases a <;> simp [storeCells]
                  · simp only [VRel]; exact ⟨a, 0, rfl, Nat.le_refl _, .inl rfl⟩
                  · refine (sim_nowhere hS hn).congr fun b => ?_
                    simp only [List.mem_singleton, updK, AH.get_new]
                    by_cases e : b = h.nx
                    · subst e; simp [live]
                    · simp [e]
                · obtain ⟨q, w1, hq, hw1, hrun⟩ := h2 hle
                  have hzz := zeroCells_size hE.z.cells (q - (0 + n))
                  obtain ⟨g1, g2, g3⟩ := realloc (cs := new) (vs := ns) (rest := (Builtin.zeroCells hE.z.cells (q - (0 + n))).toList) (e := e) (z := ei.size) (N := n) (q := q) hS hn hw1 l1 (by omega) (by
                    simp only [List.length_append, Array.length_toList, hzz, hzs, hnl]
                    rw [← Nat.add_mul]; exact Nat.mul_le_mul_right _ (by omega))
                  refine ⟨_, _, _, hrun, by simpa using g1, by simpa using g2, ?_, fun b hb hne => by simp [Ctx.with, hne.resolve_right (by simp), hb]⟩
                  refine Sim.congr (by simpa using g3) fun b => ?_
                  simp only [List.mem_singleton, updK, AH.get_new]
                  by_cases e : b = h.nx
                  · subst e; simp [live]
                  · simp [e]
              · cases hr
            · -- onto an owned block
              rename_i b z m
              split at hr
              · rename_i old hold0
                split at hr
                · rename_i hb
                  obtain ⟨hz, hol, hb1, hb2, hpos⟩ := hb
                  subst hz
                  injection hr with hr; subst hr
                  obtain ⟨ns, l1, l2, l3, l4⟩ := slCells_rel (P := P) hS hsl (fun b hb => hK b (by simp [hb])) hvx
                  have hnl : ns.length = n * ei.size := by rw [← l1.length, l2]
                  have hnew : ∀ w' : World, w'.heap = w.heap → (Builtin.firstCells ei.size n vx).run P w' = .ok ns.toArray w' := by
                    intro w' hw'
                    have := l4 n (Nat.le_refl _) w' hw'
                    rwa [← hnl, List.take_length] at this
                  have hkb : K b = some (.cells old) := by rw [hK b (by simp)]; exact wcells_spec hold0
                  have hso : slCells h ei.size (.rf b ei.size 0 m) = some (m, old, [b]) := by
                    have : h.cells b = some old := by unfold AH.cells; rw [wcells_spec hold0]
                    simp only [slCells, if_true, this, Nat.zero_add, hol, Nat.le_refl, List.drop_zero]
                    rw [← hol, List.take_length]
                  obtain ⟨os, o1, o2, o3, o4⟩ := slCells_rel (P := P) hS hso (fun b' hb' => hK b' (by simp at hb'; simp [hb'])) hvs
                  have hvs' := hvs
                  simp only [VRel] at hvs'
                  obtain ⟨a, c, rfl, hmc, hcap⟩ := hvs'
                  have hosl : os.length = m * ei.size := by rw [← o1.length, o2]
                  have hold : ∀ w' : World, w'.heap = w.heap → (Builtin.firstCells ei.size m (.slice a m c)).run P w' = .ok os.toArray w' := by
                    intro w' hw'
                    have := o4 m (Nat.le_refl _) w' hw'
                    rwa [← hosl, List.take_length] at this
                  obtain ⟨h1, h2⟩ := run_append hT hE hk hts hno (a := a) (m := m) (c := c) l3 hnew hold hb1 hb2 (ty := ty)
                  have kk : ∀ (o : AObj) (x : Nat), live o = some o → (if x ∈ [b, h.nx] then ((h.kill b).new o).get x else K x) = updK (updK K b none) h.nx (some o) x := by
                    intro o x ho
                    simp only [List.mem_cons, List.not_mem_nil, or_false, updK, AH.get_new, AH.nx_kill, AH.get_kill]
                    by_cases e1 : x = h.nx
                    · subst e1; simp [ho]
                    · by_cases e2 : x = b
                      · subst e2; simp [e1, Ne.symm e1]
                      · simp [e1, e2]
                  by_cases hle : m + n ≤ c
                  · rcases hcap with h0 | ⟨rb, hφ, ha, hR⟩
                    · -- nothing, and no room
                      have hm0 : m = 0 := by omega
                      have hn0 : n = 0 := by omega
                      subst hm0 hn0 h0
                      have hns : ns = [] := by cases ns with | nil => rfl | cons _ _ => simp at hnl
                      have hnw : new = [] := by cases new with | nil => rfl | cons _ _ => simp at l2
                      have hod : old = [] := by cases old with | nil => rfl | cons _ _ => simp at hol
                      subst hns hnw hod
                      refine ⟨.slice a 0 0, C, w, ?_, ?_, Step.refl C w, ?_, fun b hb _ => hb⟩
                      · rw [h1 hle]; cases a <;> simp [storeCells]
                      · simp only [VRel]; exact ⟨a, 0, rfl, Nat.le_refl _, .inl rfl⟩
                      · exact (sim_nowhere (sim_drop hS b) hn).congr fun x => kk (.cells ([] ++ [])) x rfl
                    · subst ha
                      rcases hS.at_ b _ hkb with ⟨g, _⟩ | ⟨rb', g1, g2, _⟩
                      · rw [g] at hφ; cases hφ
                      rw [g1] at hφ; injection hφ with hφ; subst hφ
                      obtain ⟨vs0, rest, T, e1, e2⟩ := g2
                      obtain ⟨c1, T1, f1, e3, hRl⟩ := hR
                      rw [e1] at e3
                      injection e3 with e3
                      injection e3 with e4 e5 e6
                      subst e4
                      have hv0 : vs0.length = m * ei.size := by rw [← e2.length, hol]
                      have hfit : m * ei.size + ns.length ≤ (vs0 ++ rest).toArray.size := by
                        have : (m + n) * ei.size ≤ c * ei.size := Nat.mul_le_mul_right _ hle
                        rw [Nat.add_mul] at this
                        rw [hnl]
                        omega
                      have hst := run_storeCells P rb' ns w (m * ei.size) 0 (vs0 ++ rest).toArray T l1.cells e1 (by simpa using hfit)
                      simp only [Nat.add_zero] at hst
                      have hsz : (List.take (m * ei.size) (vs0 ++ rest).toArray.toList ++ ns ++ List.drop (m * ei.size + ns.length) (vs0 ++ rest).toArray.toList).toArray.size = (vs0 ++ rest).toArray.size := by
                        simp at hfit ⊢; omega
                      have hstep := step_put hS hkb g1 (n := h.nx) (.inr hn) e1 hsz
                      have hadd : (⟨rb', 0, none⟩ : Addr).add (m * ei.size) = ⟨rb', m * ei.size, none⟩ := by
                        unfold Addr.add
                        split
                        · rename_i h0; simp [h0]
                        · simp
                      have hcont : List.take (m * ei.size) (vs0 ++ rest).toArray.toList ++ ns ++ List.drop (m * ei.size + ns.length) (vs0 ++ rest).toArray.toList = (vs0 ++ ns) ++ List.drop (m * ei.size + ns.length) (vs0 ++ rest) := by
                        simp only [List.append_assoc]
                        congr 1
                        rw [← hv0]; simp
                      refine ⟨.slice (some ⟨rb', 0, none⟩) (m + n) c, _, _, ?_, ?_, hstep, ?_, fun x hx hne => by simp [Ctx.with, hne.resolve_right (by simp), hx]⟩
                      · rw [h1 hle]
                        simp only [hadd, hst, Result.andThen_ok]
                      · simp only [VRel]
                        refine ⟨_, _, rfl, hle, .inr ⟨rb', Ctx.with_at C _ _, rfl, _, T, (0, 0), by rw [setBlock_get, if_pos ⟨rfl, lt_of_some w e1⟩], ?_⟩⟩
                        rw [hsz]; exact hRl
                      · refine (sim_put hS hkb g1 (n := h.nx) (.inr hn) e1 hsz (o := .cells (old ++ new)) rfl ?_).congr fun x => kk (.cells (old ++ new)) x rfl
                        refine ⟨vs0 ++ ns, _, T, by rw [setBlock_get, if_pos ⟨rfl, lt_of_some w e1⟩, hcont], (e2.step hstep).append (l1.step hstep)⟩
                  · obtain ⟨q, w1, hq, hw1, hrun⟩ := h2 hle
                    have hzz := zeroCells_size hE.z.cells (q - (m + n))
                    obtain ⟨g1, g2, g3⟩ := realloc (cs := old ++ new) (vs := os ++ ns) (rest := (Builtin.zeroCells hE.z.cells (q - (m + n))).toList) (e := e) (z := ei.size) (N := m + n) (q := q) (sim_drop hS b) hn hw1 (o1.append l1) hq (by
                      simp only [List.length_append, Array.length_toList, hzz, hzs, hnl, hosl]
                      rw [← Nat.add_mul, ← Nat.add_mul]; exact Nat.mul_le_mul_right _ (by omega))
                    refine ⟨_, _, _, hrun, by simpa using g1, by simpa using g2, ?_, fun x hb hne => by simp [Ctx.with, hne.resolve_right (by simp), hb]⟩
                    exact Sim.congr (by simpa using g3) fun x => kk (.cells (old ++ new)) x rfl
                · cases hr
              · cases hr
            · cases hr
          · cases hr
      · cases hr
    · cases hr
  · cases hr
end
end Go.Proofs.Ytadipihpgcelmaa.Ab
