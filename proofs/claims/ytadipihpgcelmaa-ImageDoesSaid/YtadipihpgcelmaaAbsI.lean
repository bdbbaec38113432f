/- Each operation of the interpreter is one of the machine's: numbers, comparisons, conversions, copies, maps. -/
import Derived.Test.YtadipihpgcelmaaAbsH
namespace Go.Proofs.Ytadipihpgcelmaa.Ab
open Go
set_option linter.unusedVariables false
set_option linter.unusedSimpArgs false

section
variable {P : Program} {C : Ctx} {K : Nat → Option AObj} {w : World} {h : AH}

/-! ### Numbers -/
theorem binI_rel {k : IntKind} {op : BinOp} {a b : Int} {x : AV} (hx : binI k op a b = some x) (t : TypeId) : ∃ v, (binOp op t (.int k a) (.int k b)).run P w = .ok v w ∧ VRel C w x v := by
  cases op <;> simp only [binI] at hx
  case add => injection hx with hx; subst hx; exact ⟨_, by simp [binOp, Op.intArith] <;> rfl, ofInt_rel C w k _⟩
  case sub => injection hx with hx; subst hx; exact ⟨_, by simp [binOp, Op.intArith] <;> rfl, ofInt_rel C w k _⟩
  case mul => injection hx with hx; subst hx; exact ⟨_, by simp [binOp, Op.intArith] <;> rfl, ofInt_rel C w k _⟩
  case quo =>
    split at hx
    · cases hx
    · rename_i h0; injection hx with hx; subst hx; exact ⟨_, by simp [binOp, Op.intDiv, h0] <;> rfl, ofInt_rel C w k _⟩
  case rem =>
    split at hx
    · cases hx
    · rename_i h0; injection hx with hx; subst hx; exact ⟨_, by simp [binOp, Op.intDiv, h0] <;> rfl, ofInt_rel C w k _⟩
  case and => injection hx with hx; subst hx; exact ⟨_, by simp [binOp, Op.intBits] <;> rfl, ofInt_rel C w k _⟩
  case or => injection hx with hx; subst hx; exact ⟨_, by simp [binOp, Op.intBits] <;> rfl, ofInt_rel C w k _⟩
  case xor => injection hx with hx; subst hx; exact ⟨_, by simp [binOp, Op.intBits] <;> rfl, ofInt_rel C w k _⟩
  case eql => injection hx with hx; subst hx; exact ⟨_, by simp [binOp, Op.intCmp] <;> rfl, by simp only [VRel]⟩
  case neq => injection hx with hx; subst hx; exact ⟨_, by simp [binOp, Op.intCmp] <;> rfl, by simp only [VRel]⟩
  case lss => injection hx with hx; subst hx; exact ⟨_, by simp [binOp, Op.intCmp] <;> rfl, by simp only [VRel]⟩
  case leq => injection hx with hx; subst hx; exact ⟨_, by simp [binOp, Op.intCmp] <;> rfl, by simp only [VRel]⟩
  case gtr => injection hx with hx; subst hx; exact ⟨_, by simp [binOp, Op.intCmp] <;> rfl, by simp only [VRel]⟩
  case geq => injection hx with hx; subst hx; exact ⟨_, by simp [binOp, Op.intCmp] <;> rfl, by simp only [VRel]⟩
  all_goals cases hx

theorem un_rel {op : UnOp} {x y : AV} {v : Value} (hx : un op x = some y) (hv : VRel C w x v) : ∃ u, (Op.unary op v).run P w = .ok u w ∧ VRel C w y u := by
  unfold un at hx
  split at hx
  · rename_i a
    injection hx with hx; subst hx
    have e : v = .bool a := by simpa only [VRel] using hv
    subst e
    exact ⟨.bool !a, by simp [Op.unary], by simp only [VRel]⟩
  · rename_i a
    injection hx with hx; subst hx
    have e : v = .int .i64 a := by simpa only [VRel] using hv
    subst e
    exact ⟨.int .i64 (IntKind.i64.wrap (0 - a)), by simp [Op.unary, Op.intArith], by simp only [VRel]⟩
  · cases hx

/-! ### Cells told alike -/
theorem eqCell_rel {x y : AV} {u v : Value} {r : Bool} (he : eqCell x y = some r) (hx : VRel C w x u) (hy : VRel C w y v) :
    ∃ k a b, u = .int k a ∧ v = .int k b ∧ r = (a == b) := by
  unfold eqCell at he
  split at he
  · rename_i a b
    injection he with he; subst he
    have e1 : u = .int .i64 a := by simpa only [VRel] using hx
    have e2 : v = .int .i64 b := by simpa only [VRel] using hy
    exact ⟨_, _, _, e1, e2, rfl⟩
  · rename_i a b
    injection he with he; subst he
    have e1 : u = .int .u8 a.toNat := by simpa only [VRel] using hx
    have e2 : v = .int .u8 b.toNat := by simpa only [VRel] using hy
    refine ⟨_, _, _, e1, e2, ?_⟩
    rw [Bool.eq_iff_iff]
    simp only [beq_iff_eq]
    constructor
    · rintro rfl; rfl
    · intro h; exact UInt8.toNat.inj (by omega)
  · cases he

/-! ### Conversions -/
theorem bytesOf_rel : ∀ {cs : List AV} {l : List UInt8} {vs : List Value}, bytesOf cs = some l → LRel C w true cs vs → vs = l.map fun b => .int .u8 b.toNat
  | [], l, vs, hb, hl => by simp only [bytesOf, Option.some.injEq] at hb; subst hb; simp only [LRel] at hl; subst hl; rfl
  | x :: cs, l, vs, hb, hl => by
    simp only [LRel] at hl
    obtain ⟨v, r, rfl, _, hv, hl⟩ := hl
    cases x with
    | y b =>
      simp only [bytesOf] at hb
      cases hq : bytesOf cs with
      | none => rw [hq] at hb; cases hb
      | some q =>
        rw [hq] at hb
        simp only [Option.map_some, Option.some.injEq] at hb; subst hb
        have e : v = .int .u8 b.toNat := by simpa only [VRel] using hv
        rw [e, bytesOf_rel hq hl]; rfl
    | _ => simp [bytesOf] at hb
theorem foldl_push (l : List UInt8) : ∀ s : ByteArray, (l.map fun b => ((b.toNat : Nat) : Int)).foldl (fun r n => r.push (UInt8.ofNat n.toNat)) s = ⟨(s.data.toList ++ l).toArray⟩ := by
  induction l with
  | nil => intro s; cases s; simp
  | cons b l ih =>
    intro s
    simp only [List.map_cons, List.foldl_cons]
    rw [ih]
    cases s
    simp [ByteArray.push]

theorem conv_rel {src dst : TypeId} {x : AV} {v : Value} {r : OR} (hS : Sim C K w) (hr : conv P h src dst x = some r) (hK : ∀ b ∈ r.rd, K b = h.get b) (hv : VRel C w x v) {n : Nat} : Gives P C K w n r (convert src dst v) := by
  unfold conv at hr
  split at hr
  · rename_i s d hs hd
    obtain ⟨hsT⟩ := tinfo_spec hs
    obtain ⟨hdT⟩ := tinfo_spec hd
    split at hr
    · rename_i k k' hk hk'
      split at hr
      · rename_i m hm
        simp only [quiet, Option.some.injEq] at hr; subst hr
        obtain ⟨kk, rfl⟩ := isI_rel hm hv
        have e1 := kindOf_int (hk ▸ hdT.kind)
        refine gives_quiet hS ?_ (ofInt_rel C w k _)
        have hu1 : (underlying dst).run P w = .ok (.int k) w := by rw [hdT.run_und, e1]
        simp [convert, hsT.run_und, hu1, Conv.intToInt]
      · cases hr
    · rename_i e hk hk'
      split at hr
      · rename_i ei he
        obtain ⟨hE⟩ := tinfo_spec he
        split at hr
        · rename_i hek
          split at hr
          · rename_i m cs rd hsl
            have hbk := kindOf_int (hek ▸ hE.kind)
            have e1 := kindOf_string (hk ▸ hdT.kind)
            have e2 := kindOf_slice (hk' ▸ hsT.kind)
            have u1 : P.underlying dst = some .string := by rw [hdT.und, e1]
            have u2 : P.underlying src = some (.slice e) := by rw [hsT.und, e2]
            have u3 : P.underlying e = some (.int .u8) := by rw [hE.und, hbk]
            have hnst : ∀ l, x ≠ .st l := by
              intro l e; subst e; simp [slCells] at hsl
            obtain ⟨l, hb, hr⟩ : ∃ l, bytesOf cs = some l ∧ r = ⟨.st l, h, rd, []⟩ := by
              split at hr
              · rename_i l hb; injection hr with hr; exact ⟨l, hb, hr.symm⟩
              · cases hr
            subst hr
            obtain ⟨vs, l1, l2, l3, l4⟩ := slCells_rel (P := P) hS hsl hK hv
            have hvs := bytesOf_rel hb l1
            obtain ⟨a, c, rfl⟩ : ∃ a c, v = .slice a m c := by
              cases x with
              | nl => simp only [slCells, Option.some.injEq, Prod.mk.injEq] at hsl; obtain ⟨rfl, _⟩ := hsl; simp only [VRel] at hv; obtain ⟨a, rfl⟩ := hv; exact ⟨a, 0, rfl⟩
              | sl n' ds => simp only [slCells] at hsl; split at hsl
                            · simp only [Option.some.injEq, Prod.mk.injEq] at hsl; obtain ⟨rfl, _⟩ := hsl; simp only [VRel] at hv; obtain ⟨a, c, rfl, _⟩ := hv; exact ⟨a, c, rfl⟩
                            · cases hsl
              | rf b z o n' =>
                simp only [slCells] at hsl
                split at hsl
                · split at hsl
                  · split at hsl
                    · simp only [Option.some.injEq, Prod.mk.injEq] at hsl; obtain ⟨rfl, _⟩ := hsl; simp only [VRel] at hv; obtain ⟨a, c, rfl, _⟩ := hv; exact ⟨a, c, rfl⟩
                    · cases hsl
                  · cases hsl
                · cases hsl
              | _ => simp [slCells] at hsl
            have h4 := l4 m (Nat.le_refl _) w rfl
            have hml : vs.length = m * 1 := by rw [← l1.length, l2]
            rw [← hml, List.take_length] at h4
            refine gives_quiet (v := .string ⟨l.toArray⟩) hS ?_ (by simp only [VRel])
            rw [run_convert_bytes_string w src dst e a m c u2 u3 u1]
            cases a with
            | none =>
              have : vs = [] := by
                simp only [Builtin.firstCells, Sem.run_pure, Result.ok.injEq] at h4
                have := h4.1
                simpa using this.symm
              subst this
              have : l = [] := by cases l with | nil => rfl | cons _ _ => simp at hvs
              subst this
              simp [Conv.bytesToString]; rfl
            | some a =>
              simp only [Builtin.firstCells, Nat.mul_one] at h4
              have h5 : (loadCells a m).run P w = .ok ((l.map fun b => ((b.toNat : Nat) : Int)).map (Value.int .u8)).toArray w := by
                rw [h4, hvs]; simp [Function.comp_def]
              rw [run_bytesToString w a m c _ h5, foldl_push]
              rfl
          · cases hr
        · cases hr
      · cases hr
    · cases hr
  · cases hr

/-! ### Lengths, least and greatest -/
theorem lenA_rel {x : AV} {v : Value} {n : Nat} (hl : lenA x = some n) (hv : VRel C w x v) : (∃ a c, v = .slice a n c) ∨ ∃ l, x = .st l := by
  cases x with
  | nl => simp only [lenA, Option.some.injEq] at hl; subst hl; simp only [VRel] at hv; obtain ⟨a, rfl⟩ := hv; exact .inl ⟨a, 0, rfl⟩
  | sl m cs => simp only [lenA, Option.some.injEq] at hl; subst hl; simp only [VRel] at hv; obtain ⟨a, c, rfl, _⟩ := hv; exact .inl ⟨a, c, rfl⟩
  | rf b z o m => simp only [lenA, Option.some.injEq] at hl; subst hl; simp only [VRel] at hv; obtain ⟨a, c, rfl, _⟩ := hv; exact .inl ⟨a, c, rfl⟩
  | st l => exact .inr ⟨l, rfl⟩
  | _ => simp [lenA] at hl

theorem minA_rel : ∀ {xs : List AV} {vs : List Value} {a m : Int}, minA a xs = some m → LRel C w false xs vs → (vs.foldlM Builtin.min2 (.int .i64 a)).run P w = .ok (.int .i64 m) w
  | [], vs, a, m, hm, hl => by simp only [LRel] at hl; subst hl; simp only [minA, Option.some.injEq] at hm; subst hm; simp
  | x :: xs, vs, a, m, hm, hl => by
    simp only [LRel] at hl
    obtain ⟨v, r, rfl, _, hv, hl⟩ := hl
    cases x with
    | i b =>
      simp only [minA] at hm
      have e : v = .int .i64 b := by simpa only [VRel] using hv
      subst e
      simp only [List.foldlM_cons, Sem.run_bind, Builtin.min2, Sem.run_pure, Result.andThen_ok]
      exact minA_rel hm hl
    | _ => simp [minA] at hm
theorem maxA_rel : ∀ {xs : List AV} {vs : List Value} {a m : Int}, maxA a xs = some m → LRel C w false xs vs → (vs.foldlM Builtin.max2 (.int .i64 a)).run P w = .ok (.int .i64 m) w
  | [], vs, a, m, hm, hl => by simp only [LRel] at hl; subst hl; simp only [maxA, Option.some.injEq] at hm; subst hm; simp
  | x :: xs, vs, a, m, hm, hl => by
    simp only [LRel] at hl
    obtain ⟨v, r, rfl, _, hv, hl⟩ := hl
    cases x with
    | i b =>
      simp only [maxA] at hm
      have e : v = .int .i64 b := by simpa only [VRel] using hv
      subst e
      simp only [List.foldlM_cons, Sem.run_bind, Builtin.max2, Sem.run_pure, Result.andThen_ok]
      exact maxA_rel hm hl
    | _ => simp [maxA] at hm

/-! ### copy -/
theorem copyA_rel {t : TypeId} {ts : Array TypeId} {d x : AV} {r : OR} {vd vx : Value} (hS : Sim C K w) (hts : ts[0]? = some t) (hr : copyA P h t d x = some r) (hK : ∀ b ∈ r.rd, K b = h.get b) (hvd : VRel C w d vd) (hvx : VRel C w x vx) {ty : TypeId} {n0 : Nat} :
    Gives P C K w n0 r (Builtin.copy_ ts ty #[vd, vx]) := by
  unfold copyA at hr
  split at hr
  · rename_i ti ht
    split at hr
    · rename_i e hk
      split at hr
      · rename_i ei he
        obtain ⟨hT⟩ := tinfo_spec ht
        obtain ⟨hE⟩ := tinfo_spec he
        have hd := kindOf_slice (hk ▸ hT.kind)
        have hund : (underlying t).run P w = .ok (.slice e) w := by rw [hT.run_und, hd]
        split at hr
        · rename_i n new rd b z off m hsl
          split at hr
          · rename_i cs hcs
            split at hr
            · rename_i hb
              obtain ⟨rfl, hle⟩ := hb
              injection hr with hr; subst hr
              obtain ⟨ns, l1, l2, l3, l4⟩ := slCells_rel (P := P) hS hsl (fun b' hb' => hK b' (by simp [hb'])) hvx
              have hkb : K b = some (.cells cs) := by rw [hK b (by simp)]; exact wcells_spec hcs
              have hnl : ns.length = n * ei.size := by rw [← l1.length, l2]
              have hcells := l4 (min n m) (Nat.min_le_left _ _) w rfl
              have hmm : Nat.min n m = min n m := rfl
              simp only [VRel] at hvd
              obtain ⟨a, c, rfl, hmc, hcap⟩ := hvd
              have hupd : ∀ x, (if x ∈ [b] then (h.put b (.cells (over cs off (new.take (min n m * ei.size))))).get x else K x) = updK K b (some (.cells (over cs off (new.take (min n m * ei.size))))) x := by
                intro x
                simp only [List.mem_singleton, updK, AH.get_put]
                by_cases e : x = b
                · subst e; simp [live]
                · simp [e]
              rcases hcap with h0 | ⟨rb, hφ, rfl, hR⟩
              · have hm0 : m = 0 := by omega
                subst hm0
                refine ⟨.int .i64 ((min n 0 : Nat) : Int), C, w, ?_, by simp only [VRel], Step.refl C w, ?_, fun b hb _ => hb⟩
                · have hz : (Builtin.firstCells ei.size 0 vx).run P w = .ok #[] w := by simpa using l4 0 (Nat.zero_le _) w rfl
                  cases a <;> simp [Builtin.copy_, hts, hund, l3, hE.run_size, hz, goInt, storeCells]
                · refine hS.congr fun x => ?_
                  rw [hupd]
                  unfold updK
                  split
                  · rename_i e; subst e
                    rw [hkb]
                    simp [Ab.over]
                  · rfl
              · have hl2 := (l1.take (min n m * ei.size))
                have hfit : off + (new.take (min n m * ei.size)).length ≤ cs.length := by
                  rw [List.length_take]
                  have : min n m * ei.size ≤ m * ei.size := Nat.mul_le_mul_right _ (Nat.min_le_right _ _)
                  omega
                obtain ⟨w', k1, k2, k3⟩ := put_over (P := P) hS hkb hφ hl2 hfit
                refine ⟨.int .i64 ((min n m : Nat) : Int), C, w', ?_, by simp only [VRel], k2, k3.congr hupd, fun b hb _ => hb⟩
                simp only [Builtin.copy_, hts, List.getElem?_toArray, List.getElem?_cons_zero, List.getElem?_cons_succ, Sem.run_bind, hund, l3, Result.andThen_ok, hE.run_size, hmm, hcells]
                simp [k1, goInt]
            · cases hr
          · cases hr
        · cases hr
      · cases hr
    · cases hr
  · cases hr
end
end Go.Proofs.Ytadipihpgcelmaa.Ab
