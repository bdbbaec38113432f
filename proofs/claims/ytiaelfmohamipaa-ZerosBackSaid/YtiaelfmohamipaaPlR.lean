/- Runs of blocks, in plain words. -/
import Derived.Test.YtiaelfmohamipaaPlG
namespace Go.Proofs.Ytiaelfmohamipaa
open Go Go.Proofs.Ytiaelfmohamipaa.Ab
set_option linter.unusedVariables false
set_option linter.unusedSimpArgs false
namespace Ab
/-- Is a block zeros? -/
def zb (b : List UInt8) : Bool := b == List.replicate 32 0
/-- Of so many blocks: which are zeros. -/
def fl : Nat → List UInt8 → List Bool
  | 0, _ => []
  | n + 1, b => zb (b.take 32) :: fl n (b.drop 32)
def flags (b : List UInt8) : List Bool := fl (b.length / 32) b
theorem fl_length : ∀ (n : Nat) (b : List UInt8), (fl n b).length = n
  | 0, _ => rfl
  | n + 1, b => by simp [fl, fl_length n]
theorem flags_nil {b : List UInt8} (h : b.length < 32) : flags b = [] := by
  unfold flags; rw [Nat.div_eq_of_lt h]; rfl
theorem flags_cons {b : List UInt8} (h : 32 ≤ b.length) : flags b = zb (b.take 32) :: flags (b.drop 32) := by
  unfold flags
  rw [show b.length / 32 = (b.drop 32).length / 32 + 1 by rw [List.length_drop]; omega]
  rfl
theorem flags_append {a : List UInt8} (b : List UInt8) (h : a.length % 32 = 0) : flags (a ++ b) = flags a ++ flags b := by
  have key : ∀ (n : Nat) (a : List UInt8), a.length = 32 * n → flags (a ++ b) = flags a ++ flags b := by
    intro n
    induction n with
    | zero =>
      intro a ha
      have : a = [] := List.length_eq_zero_iff.1 (by omega)
      subst this; rw [flags_nil (b := []) (by simp)]; rfl
    | succ n ih =>
      intro a ha
      rw [flags_cons (b := a) (by omega), flags_cons (b := a ++ b) (by rw [List.length_append]; omega)]
      rw [List.take_append_of_le_length (by omega), List.drop_append_of_le_length (by omega), ih _ (by rw [List.length_drop]; omega)]
      rfl
  exact key (a.length / 32) a (by omega)
/-- How many blocks, one behind the other, are alike. -/
def rn : Bool → Int → List Bool → List Int
  | _, n, [] => [n]
  | c, n, z :: zs => if z = c then rn c (n + 1) zs else n :: rn z 1 zs
def runs (zs : List Bool) : List Int := if zs = [] then [] else rn false 0 zs
/-- Every second number, added: those at even places, and at odd ones. -/
def sm : List Int → Int × Int
  | [] => (0, 0)
  | x :: l => (x + (sm l).2, (sm l).1)
def cnt (c : Bool) (zs : List Bool) : Int := (zs.count c : Nat)
theorem cnt_nil (c : Bool) : cnt c [] = 0 := rfl
theorem cnt_cons (c z : Bool) (zs : List Bool) : cnt c (z :: zs) = cnt c zs + if z = c then 1 else 0 := by
  unfold cnt; rw [List.count_cons]; simp only [beq_iff_eq]; split <;> simp
theorem sm_rn : ∀ (zs : List Bool) (c : Bool) (n : Int), sm (rn c n zs) = (n + cnt c zs, cnt (!c) zs)
  | [], c, n => by simp [rn, sm, cnt_nil]
  | z :: zs, c, n => by
    unfold rn
    by_cases h : z = c
    · rw [if_pos h, sm_rn zs c (n + 1), cnt_cons, cnt_cons, if_pos h]
      have : ¬ z = !c := by subst h; cases z <;> simp
      rw [if_neg this]
      congr 1 <;> omega
    · have hz : z = !c := by cases z <;> cases c <;> simp_all
      subst hz
      rw [if_neg h]
      simp only [sm, sm_rn zs, cnt_cons]
      have e : (!!c) = c := by cases c <;> rfl
      rw [e, if_neg h, if_pos trivial]
      congr 1 <;> omega
theorem sm_runs (zs : List Bool) : sm (runs zs) = (cnt false zs, cnt true zs) := by
  unfold runs
  split
  · rename_i h; subst h; rfl
  · rw [sm_rn]; simp
theorem rn_len : ∀ (zs : List Bool) (c : Bool) (n m : Int), (rn c n zs).length = (rn c m zs).length
  | [], _, _, _ => rfl
  | z :: zs, c, n, m => by
    unfold rn
    split
    · exact rn_len zs c _ _
    · simp
theorem rn_len_le (zs : List Bool) (c : Bool) (n m : Int) : (rn c n zs).length ≤ (rn false m zs).length + 1 := by
  cases c with
  | false => rw [rn_len zs false n m]; omega
  | true =>
    cases zs with
    | nil => simp [rn]
    | cons z zs =>
      cases z with
      | true => simp only [rn, if_true]; rw [if_neg (by simp)]; simp only [List.length_cons]; rw [rn_len zs true (n + 1) 1]; omega
      | false => simp only [rn, if_true]; rw [if_neg (by simp)]; simp only [List.length_cons]; rw [rn_len zs false 1 (m + 1)]; omega
theorem rn_append_len : ∀ (xs ys : List Bool) (c : Bool) (n m : Int), (rn c n (xs ++ ys)).length ≤ (rn c n xs).length + (rn false m ys).length
  | [], ys, c, n, m => by simp only [List.nil_append, rn, List.length_singleton]; have := rn_len_le ys c n m; omega
  | x :: xs, ys, c, n, m => by
    simp only [List.cons_append, rn]
    split
    · exact rn_append_len xs ys c _ m
    · have := rn_append_len xs ys x 1 m; simp only [List.length_cons]; omega
theorem runs_append_len (xs ys : List Bool) : (runs (xs ++ ys)).length ≤ (runs xs).length + (runs ys).length := by
  unfold runs
  by_cases hx : xs = []
  · subst hx; simp
  · by_cases hy : ys = []
    · subst hy; simp [hx]
    · rw [if_neg (by simp [hx]), if_neg hx, if_neg hy]
      exact rn_append_len xs ys false 0 0
theorem rn_pos : ∀ (zs : List Bool) (c : Bool) (n : Int), 0 ≤ n → ∀ x ∈ rn c n zs, 0 ≤ x
  | [], _, n, h, x, hx => by simp only [rn, List.mem_singleton] at hx; omega
  | z :: zs, c, n, h, x, hx => by
    unfold rn at hx
    split at hx
    · exact rn_pos zs c _ (by omega) x hx
    · rcases List.mem_cons.1 hx with hx | hx
      · omega
      · exact rn_pos zs z 1 (by omega) x hx
theorem sm_pos : ∀ (l : List Int), (∀ x ∈ l, 0 ≤ x) → 0 ≤ (sm l).1 ∧ 0 ≤ (sm l).2
  | [], _ => by simp [sm]
  | x :: l, h => by
    have := sm_pos l fun y hy => h y (by simp [hy])
    have := h x (by simp)
    simp only [sm]; omega
theorem sm_mem : ∀ (l : List Int), (∀ x ∈ l, 0 ≤ x) → ∀ x ∈ l, x ≤ (sm l).1 + (sm l).2
  | [], _, x, hx => by cases hx
  | y :: l, h, x, hx => by
    have h1 := sm_mem l fun z hz => h z (by simp [hz])
    have h2 := sm_pos l fun z hz => h z (by simp [hz])
    have h3 := h y (by simp)
    simp only [sm]
    rcases List.mem_cons.1 hx with hx | hx
    · omega
    · have := h1 x hx; omega
theorem cnt_le (c : Bool) (zs : List Bool) : 0 ≤ cnt c zs ∧ cnt c zs ≤ zs.length := by
  unfold cnt; have := List.count_le_length (a := c) (l := zs); omega
theorem cnt_both (zs : List Bool) : cnt false zs + cnt true zs = zs.length := by
  induction zs with
  | nil => rfl
  | cons z zs ih => rw [cnt_cons, cnt_cons, List.length_cons]; cases z <;> simp <;> omega
theorem rn_lenb (zs : List Bool) : ∀ (c : Bool) (n : Int), (rn c n zs).length ≤ zs.length + 1 := by
  induction zs with
  | nil => intro c n; simp [rn]
  | cons z zs ih => intro c n; unfold rn; split <;> (have := ih c (n + 1); have := ih z 1; simp; omega)
end Ab
end Go.Proofs.Ytiaelfmohamipaa
