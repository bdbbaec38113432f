/- All operations but calls of functions: one theorem. -/
import Derived.Test.YtadipihpgcelmaaAbsK
namespace Go.Proofs.Ytadipihpgcelmaa.Ab
open Go
set_option linter.unusedVariables false
set_option linter.unusedSimpArgs false

section
variable {P : Program} {C : Ctx} {K : Nat → Option AObj} {w : World} {h : AH}

theorem quiet_op {n : Nat} {x : AV} {v : Value} {r : OR} {s : Sem Next} (hS : Sim C K w) (hr : quiet h x = some r) (hrun : s.run P w = .ok (.value v) w) (hv : VRel C w x v) : GivesOp P C K w n r s := by
  simp only [quiet, Option.some.injEq] at hr; subst hr
  exact ⟨v, C, w, .inl hrun, hv, Step.refl C w, by simpa using hS, fun b hb _ => hb⟩

theorem run_getMap {r : Nat} {es : Array MapEntry} {clock : Nat} (hb : w.heap[r]? = some (Obj.map es clock)) : (getObj r).run P w = .ok (Obj.map es clock) w := by simp [getObj, Sem.run, hb]
theorem run_setMap {r : Nat} {es : Array MapEntry} {clock : Nat} (o : Obj) (hb : w.heap[r]? = some (Obj.map es clock)) : (setObj r o).run P w = .ok () (setBlock w r o) := by simp [setObj, Sem.run, hb, setBlock]
theorem partOf_field {s : TypeId} {ti : TI} (hT : TSpec P s ti) {fs : List (Nat × Nat × Bool)} (hk : ti.k = .struct fs) {f off sz : Nat} {ag : Bool} (hf : fs[f]? = some (off, sz, ag)) {cs : List AV} {vs : List Value} {x : AV}
    (hl : LRel C w true cs vs) (hle : off + sz ≤ cs.length) (hx : partOf ag ((cs.drop off).take sz) = some x) : ∃ v, (Instr.field s (.agg vs.toArray) f).run P w = .ok v w ∧ VRel C w x v := by
  obtain ⟨gs, g, fi, fd, hd, hg, h1, h2, h3, h4, h5⟩ := field_spec hT hk hf
  have hu : (underlying s).run P w = .ok (.struct gs) w := by rw [hT.run_und, hd]
  have hag : (isAgg g.type).run P w = .ok ag w := by
    simp only [isAgg, Sem.run_bind, run_und' h2, Result.andThen_ok, ← h5]
    cases fd <;> rfl
  obtain ⟨v, k1, k2⟩ := part_rel (P := P) hag (by rw [run_size' h1, h4]) hl hle hx
  refine ⟨v, ?_, k2⟩
  simp [Instr.field, hu, hg, asAgg, h3, k1]

theorem aOp_rel {T : Tm} {a : Act} {o : Oper} {r : OR} (hr : aOp P h T o.op = some r) (hS : Sim C K w) (hn : r.h.nx ≠ h.nx → C.φ h.nx = none) (hK : ∀ b ∈ r.rd, K b = h.get b) (hT : ∀ x ∈ o.op.operands, TRel1 C w T a x) :
    GivesOp P C K w h.nx r (execOp a.eval o) := by
  obtain ⟨dst, op, type, pos, after, guard⟩ := o
  simp only at hr hT
  cases op with
  | move x =>
    exact quiet_op hS (x := ev T x) (by simpa only [aOp] using hr) (by simp [execOp]) (ev_rel (hT x (by simp [Op.operands])))
  | assign x =>
    exact quiet_op hS (x := ev T x) (by simpa only [aOp] using hr) (by simp [execOp]) (ev_rel (hT x (by simp [Op.operands])))
  | pick c x y =>
    simp only [aOp] at hr
    have hc := ev_rel (hT c (by simp [Op.operands]))
    split at hr
    · rename_i t hct
      rw [hct] at hc
      have e : a.eval c = .bool t := by simpa only [VRel] using hc
      cases t with
      | true => exact quiet_op hS hr (by simp [execOp, e, asBool]) (ev_rel (hT x (by simp [Op.operands])))
      | false => exact quiet_op hS hr (by simp [execOp, e, asBool]) (ev_rel (hT y (by simp [Op.operands])))
    · cases hr
  | alloc e =>
    simp only [aOp] at hr
    split at hr
    · rename_i ti ht
      obtain ⟨hTy⟩ := tinfo_spec ht
      split at hr
      · injection hr with hr; subst hr
        exact (gives_alloc hS (hn (by simp)) hTy).op
      · cases hr
    · cases hr
  | box e x =>
    simp only [aOp] at hr
    split at hr
    · rename_i cs hcs
      injection hr with hr; subst hr
      exact (gives_box hS (hn (by simp)) hcs (ev_rel (hT x (by simp [Op.operands])))).op
    · cases hr
  | build t parts =>
    exact (build_rel hS hr (fun p hp => hT p.2 (by
      simp only [Op.operands, List.mem_toArray, List.mem_map]; exact ⟨p, hp, rfl⟩))).op
  | buildSlice t len parts =>
    exact (buildSlice_rel hS hn hr (fun p hp => hT p.2 (by
      simp only [Op.operands, List.mem_toArray, List.mem_map]; exact ⟨p, hp, rfl⟩))).op
  | load t x =>
    simp only [aOp] at hr
    split at hr
    · rename_i ti ht
      obtain ⟨hTy⟩ := tinfo_spec ht
      split at hr
      · cases hr
      · rename_i hz
        split at hr
        · rename_i cs rd hcs
          split at hr
          · rename_i v hv
            injection hr with hr; subst hr
            exact (gives_load hS hTy (by omega) hK hcs hv (ev_rel (hT x (by simp [Op.operands])))).op
          · cases hr
        · cases hr
    · cases hr
  | store t x y =>
    simp only [aOp] at hr
    split at hr
    · rename_i h' bs hst
      injection hr with hr; subst hr
      obtain ⟨w', h1, h2, h3⟩ := storeA_rel (P := P) hS hst hK (ev_rel (hT x (by simp [Op.operands]))) (ev_rel (hT y (by simp [Op.operands])))
      exact ⟨undef, C, w', .inr ⟨by simp [execOp, h1], rfl⟩, by simp only [VRel], h2, h3, fun b hb _ => hb⟩
    · cases hr
  | nilCheck x =>
    simp only [aOp] at hr
    have hx := ev_rel (hT x (by simp [Op.operands]))
    split at hr
    · rename_i b o he
      rw [he] at hx
      have hx' := hx
      simp only [VRel] at hx'
      obtain ⟨rb, _, e⟩ := hx'
      exact quiet_op hS hr (by simp [execOp, e]; rfl) (by rw [← e]; exact hx)
    · rename_i cs he
      rw [he] at hx
      have hx' := hx
      simp only [VRel] at hx'
      obtain ⟨ad, vs, e, _⟩ := hx'
      exact quiet_op hS hr (by simp [execOp, e]; rfl) (by rw [← e]; exact hx)
    · rename_i f c he
      rw [he] at hx
      have hx' := hx
      simp only [VRel] at hx'
      obtain ⟨vs, e, _⟩ := hx'
      exact quiet_op hS hr (by simp [execOp, e]; rfl) (by rw [← e]; exact hx)
    · rename_i l he
      rw [he] at hx
      have hx' := hx
      simp only [VRel] at hx'
      obtain ⟨rb, _, e⟩ := hx'
      exact quiet_op hS hr (by simp [execOp, e]; rfl) (by rw [← e]; exact hx)
    · cases hr
  | binOp op t x y ty =>
    simp only [aOp] at hr
    split at hr
    · rename_i v hv
      obtain ⟨z, h1, h2⟩ := bin_rel (P := P) (xo := x) (yo := y) hv (ev_rel (hT x (by simp [Op.operands]))) (ev_rel (hT y (by simp [Op.operands])))
      exact quiet_op hS hr (v := z) (by
        simp only [execOp, Sem.run_bind, Result.andThen_ok]
        rw [Sem.run_bind] at h1
        rw [h1]; rfl) h2
    · cases hr
  | unOp op t x =>
    simp only [aOp] at hr
    split at hr
    · rename_i v hv
      obtain ⟨z, h1, h2⟩ := un_rel (P := P) hv (ev_rel (hT x (by simp [Op.operands])))
      exact quiet_op hS hr (v := z) (by simp [execOp, h1]) h2
    · cases hr
  | convert s d x =>
    simp only [aOp] at hr
    exact (conv_rel hS hr hK (ev_rel (hT x (by simp [Op.operands])))).op
  | sliceToArrayPointer arr x =>
    simp only [aOp] at hr
    have hx := ev_rel (hT x (by simp [Op.operands]))
    split at hr
    · rename_i ti ht
      obtain ⟨hTy⟩ := tinfo_spec ht
      split at hr
      · rename_i n e m cs hk he
        rw [he] at hx
        have hd := kindOf_array (hk ▸ hTy.kind)
        have hu : (underlying arr).run P w = .ok (.array n e) w := by rw [hTy.run_und, hd]
        split at hr
        · rename_i hb
          simp only [VRel] at hx
          obtain ⟨ad, c, e1, hc, h0 | ⟨ad', vs, rfl, h2, h3, h4, h5⟩⟩ := hx
          · omega
          · have hlt : ¬ m < n := by omega
            exact quiet_op hS hr (v := .pointer (some ad')) (by simp [execOp, Instr.arrayAt, hu, e1, hlt]) (by simp only [VRel]; exact ⟨ad', vs, rfl, h2, h3, h4, h5⟩)
        · cases hr
      · rename_i n e b z off m hk he
        rw [he] at hx
        have hd := kindOf_array (hk ▸ hTy.kind)
        have hu : (underlying arr).run P w = .ok (.array n e) w := by rw [hTy.run_und, hd]
        split at hr
        · rename_i hb
          simp only [VRel] at hx
          obtain ⟨ad, c, e1, hc, h0 | ⟨rb, h2, rfl, h3⟩⟩ := hx
          · omega
          · have hlt : ¬ m < n := by omega
            exact quiet_op hS hr (v := .pointer (some ⟨rb, off, none⟩)) (by simp [execOp, Instr.arrayAt, hu, e1, hlt]) (by simp only [VRel]; exact ⟨rb, h2, rfl⟩)
        · cases hr
      · cases hr
    · cases hr
  | makeFunc fn first cap =>
    cases fn with
    | func f =>
      simp only [aOp] at hr
      split at hr
      · rename_i hf
        have hfe : first = #[] := Array.size_eq_zero_iff.1 hf
        have hl := evs_rel (C := C) (w := w) (T := T) (a := a) (xs := cap.toList) (fun x hx => hT x (by simp [Op.operands]; exact .inr (by simpa using hx)))
        refine quiet_op hS hr (v := .func (.func f) #[] (cap.toList.map a.eval).toArray) ?_ (by simp only [VRel]; exact ⟨_, rfl, hl⟩)
        subst hfe
        simp [execOp, Instr.makeFunc]
        apply Array.ext'
        simp
      · cases hr
    | _ => simp [aOp] at hr
  | makeMap t res =>
    cases res with
    | some _ => simp [aOp] at hr
    | none =>
      simp only [aOp, Option.some.injEq] at hr; subst hr
      have g : Gives P C K w h.nx ⟨.mp h.nx, h.new (.map []), [], [h.nx]⟩ (Instr.makeMap t none) := by
        refine gives_new (ob := Obj.map #[] 0) (v := .map (some w.heap.size)) hS (hn (by simp)) rfl rfl ?_ ?_ ?_
        · exact ⟨#[], 0, wnew_at w _, by simp [ERel]⟩
        · simp [Instr.makeMap, wnew]
        · simp only [VRel]; exact ⟨_, Ctx.with_at C _ _, rfl⟩
      exact g.op
  | insert t m k v =>
    simp only [aOp] at hr
    have hm := ev_rel (hT m (by simp [Op.operands]))
    have hk := ev_rel (hT k (by simp [Op.operands]))
    have hv := ev_rel (hT v (by simp [Op.operands]))
    split at hr
    · rename_i ti b n ht hem hek
      obtain ⟨hTy⟩ := tinfo_spec ht
      rw [hem] at hm; rw [hek] at hk
      split at hr
      · rename_i kt et es hkk hget
        have hd := kindOf_map (hkk ▸ hTy.kind)
        have hu : (underlying t).run P w = .ok (.map kt et) w := by rw [hTy.run_und, hd]
        split at hr
        · rename_i ki hki
          obtain ⟨hKy⟩ := tinfo_spec hki
          split at hr
          · rename_i hik
            have hdk := kindOf_int (hik ▸ hKy.kind)
            have huk : P.underlying kt = some (.int .i64) := by rw [hKy.und, hdk]
            split at hr
            · rename_i hab
              injection hr with hr; subst hr
              simp only [VRel] at hm hk
              obtain ⟨rb, hφ, em⟩ := hm
              have hkb : K b = some (.map es) := by rw [hK b (by simp)]; exact hget
              rcases hS.at_ b _ hkb with ⟨_, g'⟩ | ⟨rb', g1, g2, _⟩
              · simp [isNone] at g'
              rw [g1] at hφ; injection hφ with hφ; subst hφ
              obtain ⟨ms, clock, e1, e2⟩ := g2
              have hst := step_setObj hS hkb rfl g1 e1 (fun _ _ _ h => by cases h) (Obj.map (ms.push { key := .int .i64 n, val := a.eval v, born := clock }) (clock + 1))
              refine ⟨undef, C, setBlock w rb' (Obj.map (ms.push { key := .int .i64 n, val := a.eval v, born := clock }) (clock + 1)), .inr ⟨?_, rfl⟩, by simp only [VRel], hst, ?_, fun b hb _ => hb⟩
              · have hfind : (Instr.findKey kt (.int .i64 n) ms.toList).run P w = .ok none w := by
                  simp [Instr.findKey, run_und' huk, absent_rel hab e2]
                simp [execOp, Instr.mapUpdate, hu, em, hk, run_getMap e1, run_checkKey huk, hfind, run_setMap _ e1]
              · refine (sim_setObj hS hkb rfl g1 e1 (fun _ _ _ h => by cases h) (o' := .map (es ++ [(.i n, ev T v)])) rfl ?_).congr fun x => ?_
                · refine ⟨_, _, by rw [setBlock_get, if_pos ⟨rfl, lt_of_some w e1⟩], ?_⟩
                  rw [Array.toList_push]
                  exact (e2.step hst).append ⟨_, [], rfl, by simp only [VRel], hv.step hst, rfl⟩
                · simp only [List.mem_singleton, updK, AH.get_put]
                  by_cases e : x = b
                  · subst e; simp [live]
                  · simp [e]
            · cases hr
          · cases hr
        · cases hr
      · cases hr
    · cases hr
  | lookup t x ix ok =>
    simp only [aOp] at hr
    have hm := ev_rel (hT x (by simp [Op.operands]))
    have hk := ev_rel (hT ix (by simp [Op.operands]))
    split at hr
    · rename_i ti b n ht hem hek
      obtain ⟨hTy⟩ := tinfo_spec ht
      rw [hem] at hm; rw [hek] at hk
      split at hr
      · rename_i kt et es hkk hget
        have hd := kindOf_map (hkk ▸ hTy.kind)
        have hu : (underlying t).run P w = .ok (.map kt et) w := by rw [hTy.run_und, hd]
        split at hr
        · rename_i ki ei q hki hei hlook
          obtain ⟨hKy⟩ := tinfo_spec hki
          obtain ⟨hE⟩ := tinfo_spec hei
          split at hr
          · rename_i hik
            have hdk := kindOf_int (hik ▸ hKy.kind)
            have huk : P.underlying kt = some (.int .i64) := by rw [hKy.und, hdk]
            simp only [VRel] at hm hk
            obtain ⟨rb, hφ, em⟩ := hm
            have hrd : b ∈ r.rd := by
              split at hr <;> first | (injection hr with hr; subst hr; simp) | cases hr
            have hkb : K b = some (.map es) := by rw [hK b hrd]; exact hget
            rcases hS.at_ b _ hkb with ⟨_, g'⟩ | ⟨rb', g1, g2, _⟩
            · simp [isNone] at g'
            rw [g1] at hφ; injection hφ with hφ; subst hφ
            obtain ⟨ms, clock, e1, e2⟩ := g2
            have hlk := lookA_rel (i := 0) hlook e2
            split at hr
            · rename_i v
              injection hr with hr; subst hr
              rcases hlk with ⟨hx, _⟩ | ⟨v', j, u, hx, hf, hu'⟩
              · cases hx
              · injection hx with hx; subst hx
                have hfind : (Instr.findKey kt (.int .i64 n) ms.toList).run P w = .ok (some (j, u)) w := by simp [Instr.findKey, run_und' huk, hf]
                refine ⟨if ok then .tuple #[u, .bool true] else u, C, w, .inl ?_, ?_, Step.refl C w, by simpa using hS, fun b hb _ => hb⟩
                · simp [execOp, Instr.lookup, hu, em, hk, run_getMap e1, run_checkKey huk, hfind]
                · cases ok with
                  | true => simp only [if_true, VRel]; exact ⟨[u, .bool true], rfl, LRel.cons (fun h => by cases h) hu' (LRel.cons (fun h => by cases h) (by simp only [VRel]) LRel.nil)⟩
                  | false => simpa using hu'
            · injection hr with hr; subst hr
              rcases hlk with ⟨_, hf⟩ | ⟨v', j, u, hx, _⟩
              · have hfind : (Instr.findKey kt (.int .i64 n) ms.toList).run P w = .ok none w := by simp [Instr.findKey, run_und' huk, hf]
                have hzr : VRel C w ei.zv hE.z := by rw [hE.zv]; exact ofV_rel C w _
                refine ⟨if ok then .tuple #[hE.z, .bool false] else hE.z, C, w, .inl ?_, ?_, Step.refl C w, by simpa using hS, fun b hb _ => hb⟩
                · simp [execOp, Instr.lookup, hu, em, hk, run_getMap e1, run_checkKey huk, hfind, hE.run_zero]
                · cases ok with
                  | true => simp only [if_true, VRel]; exact ⟨[hE.z, .bool false], rfl, LRel.cons (fun h => by cases h) hzr (LRel.cons (fun h => by cases h) (by simp only [VRel]) LRel.nil)⟩
                  | false => simpa using hzr
              · cases hx
          · cases hr
        · cases hr
      · cases hr
    · cases hr
  | makeSlice t l c =>
    simp only [aOp] at hr
    have hl := ev_rel (hT l (by simp [Op.operands]))
    have hc := ev_rel (hT c (by simp [Op.operands]))
    split at hr
    · rename_i ti n m ht hel hec
      obtain ⟨hTy⟩ := tinfo_spec ht
      rw [hel] at hl; rw [hec] at hc
      have e1 : a.eval l = .int .i64 n := by simpa only [VRel] using hl
      have e2 : a.eval c = .int .i64 m := by simpa only [VRel] using hc
      split at hr
      · rename_i e hk
        split at hr
        · rename_i ei he
          obtain ⟨hE⟩ := tinfo_spec he
          split at hr
          · rename_i hb
            obtain ⟨rfl, h0, h1, h2, h3, h4⟩ := hb
            injection hr with hr; subst hr
            have := (gives_makeSlice hS (hn (by simp)) hTy hk hE h0 h1 h2 h3 h4).op
            simpa only [execOp, e1, e2] using this
          · cases hr
        · cases hr
      · cases hr
    · cases hr
  | slice t x lo hi mx =>
    simp only [aOp] at hr
    exact (sliceA_rel hS hr hK (ev_rel (hT x (by simp [Op.operands]))) (ov_rel fun y hy => hT y (by simp [Op.operands, hy])) (ov_rel fun y hy => hT y (by simp [Op.operands, hy])) (ov_rel fun y hy => hT y (by simp [Op.operands, hy]))).op
  | fieldAddr s x f =>
    simp only [aOp] at hr
    have hx := ev_rel (hT x (by simp [Op.operands]))
    split at hr
    · rename_i ti ht
      obtain ⟨hTy⟩ := tinfo_spec ht
      split at hr
      · rename_i fs hk
        split at hr
        · rename_i off sz ag hf
          split at hr
          · cases hr
          · rename_i hsz
            have hxx : (∃ b o, ev T x = .pt b o) ∨ ∃ cs, ev T x = .ip cs := by
              split at hr
              · exact .inl ⟨_, _, by assumption⟩
              · exact .inr ⟨_, by assumption⟩
              · cases hr
            have hr' : r = ⟨padd (ev T x) off, h, [], []⟩ := by
              rcases hxx with ⟨b, o, e⟩ | ⟨cs, e⟩ <;> (rw [e] at hr ⊢; simp only [quiet, Option.some.injEq] at hr; exact hr.symm)
            rw [hr']
            exact (gives_fieldAddr hTy hk hf hsz hS hx rfl hxx).op
        · cases hr
      · cases hr
    · cases hr
  | field s x f =>
    simp only [aOp] at hr
    have hx := ev_rel (hT x (by simp [Op.operands]))
    split at hr
    · rename_i ti ht
      obtain ⟨hTy⟩ := tinfo_spec ht
      split at hr
      · rename_i fs cs hk he
        rw [he] at hx
        simp only [VRel] at hx
        obtain ⟨vs, e, hl⟩ := hx
        split at hr
        · rename_i off sz ag hf
          split at hr
          · rename_i hle
            split at hr
            · rename_i v hv
              obtain ⟨u, k1, k2⟩ := partOf_field (P := P) hTy hk hf hl hle hv
              exact quiet_op hS hr (v := u) (by simp [execOp, e, k1]) k2
            · cases hr
          · cases hr
        · cases hr
      · cases hr
    · cases hr
  | indexAddr t x ix =>
    simp only [aOp] at hr
    exact (idxAddr_rel hS hr (ev_rel (hT x (by simp [Op.operands]))) (ev_rel (hT ix (by simp [Op.operands])))).op
  | index t x ix =>
    simp only [aOp] at hr
    have hx := ev_rel (hT x (by simp [Op.operands]))
    have hi := ev_rel (hT ix (by simp [Op.operands]))
    split at hr
    · rename_i ti i ht hei
      obtain ⟨hTy⟩ := tinfo_spec ht
      obtain ⟨kk, ei'⟩ := isI_rel hei hi
      split at hr
      · rename_i n e cs hk he
        rw [he] at hx
        simp only [VRel] at hx
        obtain ⟨vs, e1, hl⟩ := hx
        have hd := kindOf_array (hk ▸ hTy.kind)
        have hu : (underlying t).run P w = .ok (.array n e) w := by rw [hTy.run_und, hd]
        split at hr
        · rename_i ei hee
          obtain ⟨hE⟩ := tinfo_spec hee
          split at hr
          · rename_i hb
            split at hr
            · rename_i v hv
              obtain ⟨u, k1, k2⟩ := part_rel (P := P) (hE.run_agg w) (hE.run_size w) hl hb.2.2 hv
              exact quiet_op hS hr (v := u) (by simp [execOp, Instr.index, ei', e1, asIntOf, hu, hb.1, hb.2.1, hE.run_size, k1]) k2
            · cases hr
          · cases hr
        · cases hr
      · cases hr
    · cases hr
  | extract t ix =>
    simp only [aOp] at hr
    have hx := ev_rel (hT t (by simp [Op.operands]))
    split at hr
    · rename_i xs he
      rw [he] at hx
      simp only [VRel] at hx
      obtain ⟨vs, e1, hl⟩ := hx
      split at hr
      · rename_i v hv
        obtain ⟨u, k1, k2, _⟩ := hl.get hv
        exact quiet_op hS hr (v := u) (by simp [execOp, Instr.extract, e1, k1]) k2
      · cases hr
    · cases hr
  | call c =>
    simp only [aOp] at hr
    split at hr
    · rename_i b hc
      exact builtinA_rel (o := ⟨dst, .call c, type, pos, after, guard⟩) hS hn rfl hc hr hK (fun x hx => hT x (by simp [Op.operands, Call.operands, hc]; simpa using hx))
    · cases hr
  | _ => simp [aOp] at hr
end
end Go.Proofs.Ytadipihpgcelmaa.Ab
