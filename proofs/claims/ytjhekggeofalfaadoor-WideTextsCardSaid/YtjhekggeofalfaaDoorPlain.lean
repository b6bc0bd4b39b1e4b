/- Plain integer facts: which numbers fit 64 bits, what bit operations do to signs, and what rows of limbs of 16 bits are worth. No program in sight. -/
import Derived.WalkKit
namespace Go.Proofs.YtjhekggeofalfaaDoor
open Go.RowKit

/-- Kept from the walk. -/
theorem hid {p : Prop} (h : p) : Hid p := h

theorem ret1 {k : IntKind} {a b : Int} (h : a = b) : Ending.returned (.int k a) = .returned (.int k b) := by rw [h]
theorem retib {k : IntKind} {a b : Int} {p q : Bool} (h : a = b) (h' : p = q) : Ending.returned (.tuple #[.int k a, .bool p]) = .returned (.tuple #[.int k b, .bool q]) := by rw [h, h']
theorem retb {p q : Bool} (h : p = q) : Ending.returned (.bool p) = .returned (.bool q) := by rw [h]
theorem ret2 {k l : IntKind} {a b c d : Int} (h : a = b) (h' : c = d) : Ending.returned (.tuple #[.int k a, .int l c]) = .returned (.tuple #[.int k b, .int l d]) := by rw [h, h']

/-! ### What fits an int64 -/
def Fits (z : Int) : Prop := -9223372036854775808 ≤ z ∧ z ≤ 9223372036854775807
instance (z : Int) : Decidable (Fits z) := inferInstanceAs (Decidable (_ ∧ _))
def sat (z : Int) : Int := if Fits z then z else 0
def err (z : Int) : Int := if Fits z then 0 else 12

theorem sat_yes {z : Int} (h : Fits z) : sat z = z := if_pos h
theorem sat_no {z : Int} (h : ¬ Fits z) : sat z = 0 := if_neg h
theorem err_yes {z : Int} (h : Fits z) : err z = 0 := if_pos h
theorem err_no {z : Int} (h : ¬ Fits z) : err z = 12 := if_neg h
theorem fits_of {z : Int} (h1 : -9223372036854775808 ≤ z) (h2 : z ≤ 9223372036854775807) : Fits z := ⟨h1, h2⟩
theorem Fits.lo {z : Int} (h : Fits z) : -9223372036854775808 ≤ z := h.1
theorem Fits.hi {z : Int} (h : Fits z) : z ≤ 9223372036854775807 := h.2
theorem fits_sat (z : Int) : Fits (sat z) := by
  unfold sat; split
  · assumption
  · exact ⟨by decide, by decide⟩

/-! ### uint64 -/
def U64 (x : Int) : Prop := 0 ≤ x ∧ x ≤ 18446744073709551615
theorem u64_wrap (n : Int) : IntKind.u64.wrap n = n % 18446744073709551616 := IntKind.wrap_u64 n
theorem u64_mask32 (x : Int) (h : U64 x) : bits .and .u64 x 4294967295 = x % 4294967296 := by
  obtain ⟨h1, h2⟩ := h
  rw [u64_and x 4294967295 h1 (by omega) (by omega) (by omega)]
  have : x.toNat &&& (4294967295 : Int).toNat = x.toNat % 4294967296 := nat_mask32 _
  rw [this]
  omega

/-! ### Bits and signs -/
theorem wrap_toInt (v : BitVec 64) : IntKind.i64.wrap (v.toNat : Int) = v.toInt := by
  rw [IntKind.wrap_i64, BitVec.toInt_eq_toNat_cond]
  have := v.isLt
  split <;> omega
theorem bits_xor_toInt (x y : Int) : bits .xor .i64 x y = (BitVec.ofInt 64 x ^^^ BitVec.ofInt 64 y).toInt := by
  rw [← wrap_toInt]; rfl
theorem bits_and_toInt (x y : Int) : bits .and .i64 x y = (BitVec.ofInt 64 x &&& BitVec.ofInt 64 y).toInt := by
  rw [← wrap_toInt]; rfl
theorem neg_msb (v : BitVec 64) : v.toInt < 0 ↔ v.msb = true := by
  rw [BitVec.msb_eq_toInt]; simp
theorem ofInt_toInt {x : Int} (h : Fits x) : (BitVec.ofInt 64 x).toInt = x := by
  obtain ⟨h1, h2⟩ := h
  rw [BitVec.toInt_ofInt]
  exact Int.bmod_eq_of_le (by omega) (by omega)
theorem ofInt_msb {x : Int} (h : Fits x) : (BitVec.ofInt 64 x).msb = decide (x < 0) := by
  rw [BitVec.msb_eq_toInt, ofInt_toInt h]
theorem fits_toInt (v : BitVec 64) : Fits v.toInt := by
  have h1 := v.le_toInt; have h2 := v.toInt_lt
  exact ⟨by simpa using h1, by simp at h2; omega⟩
theorem fits_xor (x y : Int) : Fits (bits .xor .i64 x y) := by rw [bits_xor_toInt]; exact fits_toInt _
theorem fits_and (x y : Int) : Fits (bits .and .i64 x y) := by rw [bits_and_toInt]; exact fits_toInt _
theorem xor_neg {x y : Int} (hx : Fits x) (hy : Fits y) : bits .xor .i64 x y < 0 ↔ ¬ (x < 0 ↔ y < 0) := by
  rw [bits_xor_toInt, neg_msb, BitVec.msb_xor, ofInt_msb hx, ofInt_msb hy]
  by_cases h1 : x < 0 <;> by_cases h2 : y < 0 <;> simp [h1, h2]
theorem and_neg {x y : Int} (hx : Fits x) (hy : Fits y) : bits .and .i64 x y < 0 ↔ (x < 0 ∧ y < 0) := by
  rw [bits_and_toInt, neg_msb, BitVec.msb_and, ofInt_msb hx, ofInt_msb hy]
  by_cases h1 : x < 0 <;> by_cases h2 : y < 0 <;> simp [h1, h2]
theorem fits_wrap (z : Int) : Fits (wrap64 z) := by unfold wrap64; exact ⟨by omega, by omega⟩

theorem add_over {a b : Int} (ha : Fits a) (hb : Fits b) :
    bits .and .i64 (bits .xor .i64 a (wrap64 (a + b))) (bits .xor .i64 b (wrap64 (a + b))) < 0 ↔ ¬ Fits (a + b) := by
  rw [and_neg (fits_xor _ _) (fits_xor _ _), xor_neg ha (fits_wrap _), xor_neg hb (fits_wrap _)]
  obtain ⟨a1, a2⟩ := ha; obtain ⟨b1, b2⟩ := hb
  unfold wrap64 Fits
  omega
theorem sub_over {a b : Int} (ha : Fits a) (hb : Fits b) :
    bits .and .i64 (bits .xor .i64 a b) (bits .xor .i64 a (wrap64 (a - b))) < 0 ↔ ¬ Fits (a - b) := by
  rw [and_neg (fits_xor _ _) (fits_xor _ _), xor_neg ha hb, xor_neg ha (fits_wrap _)]
  obtain ⟨a1, a2⟩ := ha; obtain ⟨b1, b2⟩ := hb
  unfold wrap64 Fits
  omega
theorem wrap64_fits {z : Int} (h : Fits z) : wrap64 z = z := by
  obtain ⟨h1, h2⟩ := h; unfold wrap64; omega

/-! ### The middle -/
theorem nat_and_xor (n : Nat) : ∀ a b : Nat, a < 2 ^ n → 2 * (a &&& b) + (a ^^^ b) = a + b := by
  induction n with
  | zero => intro a b h; have : a = 0 := by omega
            subst this; simp
  | succ n ih =>
    intro a b h
    have i := ih (a / 2) (b / 2) (by omega)
    have h1 : (a &&& b) / 2 = a / 2 &&& b / 2 := by
      have := @Nat.shiftRight_and_distrib 1 a b; simpa [Nat.shiftRight_eq_div_pow] using this
    have h2 : (a ^^^ b) / 2 = a / 2 ^^^ b / 2 := by
      have := @Nat.shiftRight_xor_distrib 1 a b; simpa [Nat.shiftRight_eq_div_pow] using this
    have m1 : (a &&& b) % 2 = if a % 2 = 1 ∧ b % 2 = 1 then 1 else 0 := by
      have := Nat.and_mod_two_pow (a := a) (b := b) (n := 1)
      simp at this
      rw [this]
      rcases Nat.mod_two_eq_zero_or_one a with x | x <;> rcases Nat.mod_two_eq_zero_or_one b with y | y <;> simp [x, y]
    have m2 : (a ^^^ b) % 2 = if a % 2 = b % 2 then 0 else 1 := by
      have := Nat.xor_mod_two_pow (a := a) (b := b) (n := 1)
      simp at this
      rw [this]
      rcases Nat.mod_two_eq_zero_or_one a with x | x <;> rcases Nat.mod_two_eq_zero_or_one b with y | y <;> simp [x, y]
    split at m1 <;> split at m2 <;> omega
theorem bv_and_xor (x y : BitVec 64) : 2 * (x &&& y).toInt + (x ^^^ y).toInt = x.toInt + y.toInt := by
  have e := nat_and_xor 64 x.toNat y.toNat x.isLt
  rw [BitVec.toInt_eq_msb_cond, BitVec.toInt_eq_msb_cond, BitVec.toInt_eq_msb_cond, BitVec.toInt_eq_msb_cond]
  rw [BitVec.msb_and, BitVec.msb_xor, BitVec.toNat_and, BitVec.toNat_xor]
  generalize x.toNat &&& y.toNat = m at *
  generalize x.toNat ^^^ y.toNat = n at *
  generalize x.toNat = p at *
  generalize y.toNat = q at *
  cases x.msb <;> cases y.msb <;> simp <;> omega
theorem int_and_xor {a b : Int} (ha : Fits a) (hb : Fits b) : 2 * bits .and .i64 a b + bits .xor .i64 a b = a + b := by
  rw [bits_and_toInt, bits_xor_toInt, bv_and_xor, ofInt_toInt ha, ofInt_toInt hb]
theorem mid_eq {a b : Int} (ha : Fits a) (hb : Fits b) : wrap64 (bits .and .i64 a b + bits .xor .i64 a b / 2) = (a + b) / 2 := by
  have e := int_and_xor ha hb
  have h : bits .and .i64 a b + bits .xor .i64 a b / 2 = (a + b) / 2 := by omega
  rw [h]
  obtain ⟨a1, a2⟩ := ha; obtain ⟨b1, b2⟩ := hb
  exact wrap64_fits ⟨by omega, by omega⟩

/-! ### Rows of limbs -/
/-- The limb at a place, 0 above the highest. (A name of its own: the walk does not look into it.) -/
def lim (xs : List Int) (i : Nat) : Int := xs.getD i 0
def val : List Int → Int
  | [] => 0
  | x :: xs => x + 65536 * val xs
def Limbs (ds : List Int) : Prop := ∀ d ∈ ds, 0 ≤ d ∧ d < 65536
def Canon (ds : List Int) : Prop := Limbs ds ∧ ds.getLast? ≠ some 0
/-- The power of the base. -/
def pw (n : Nat) : Int := 65536 ^ n
theorem pw_zero : pw 0 = 1 := rfl
theorem pw_succ (n : Nat) : pw (n + 1) = 65536 * pw n := by unfold pw; rw [Int.pow_succ]; omega
theorem pw_pos (n : Nat) : 0 < pw n := by unfold pw; exact Int.pow_pos (by decide)
theorem pw_add (m n : Nat) : pw (m + n) = pw m * pw n := by unfold pw; rw [Int.pow_add]
theorem pw_le {m n : Nat} (h : m ≤ n) : pw m ≤ pw n := by
  obtain ⟨k, rfl⟩ := Nat.le.dest h
  rw [pw_add]
  have := pw_pos m; have hk := pw_pos k
  have : pw m * 1 ≤ pw m * pw k := Int.mul_le_mul_of_nonneg_left (by omega) (by omega)
  omega

theorem val_nil : val [] = 0 := rfl
theorem val_cons (x : Int) (xs : List Int) : val (x :: xs) = x + 65536 * val xs := rfl
theorem Limbs.nil : Limbs [] := fun _ h => by cases h
theorem Limbs.cons {x : Int} {xs : List Int} : Limbs (x :: xs) ↔ (0 ≤ x ∧ x < 65536) ∧ Limbs xs := by simp [Limbs]
theorem Limbs.append {xs ys : List Int} (h : Limbs xs) (k : Limbs ys) : Limbs (xs ++ ys) := fun d hd => by
  rcases List.mem_append.1 hd with e | e
  · exact h d e
  · exact k d e
theorem Limbs.one {x : Int} (h : 0 ≤ x) (k : x < 65536) : Limbs [x] := fun d hd => by simp at hd; subst hd; exact ⟨h, k⟩
theorem Limbs.take {xs : List Int} (h : Limbs xs) (n : Nat) : Limbs (xs.take n) := fun d hd => h d (List.mem_of_mem_take hd)
theorem Limbs.drop {xs : List Int} (h : Limbs xs) (n : Nat) : Limbs (xs.drop n) := fun d hd => h d (List.mem_of_mem_drop hd)
theorem Limbs.getD {xs : List Int} (h : Limbs xs) (i : Nat) : 0 ≤ lim xs i ∧ lim xs i < 65536 := by
  unfold lim
  rw [List.getD_eq_getElem?_getD]
  cases e : xs[i]? with
  | none => simp
  | some d => simpa using h d (List.mem_of_getElem? e)
theorem val_nonneg {xs : List Int} (h : Limbs xs) : 0 ≤ val xs := by
  induction xs with
  | nil => simp [val]
  | cons x xs ih => rw [Limbs.cons] at h; have := ih h.2; rw [val_cons]; omega
theorem val_lt {xs : List Int} (h : Limbs xs) : val xs < pw xs.length := by
  induction xs with
  | nil => simp [val, pw]
  | cons x xs ih => rw [Limbs.cons] at h; have := ih h.2; rw [val_cons, List.length_cons, pw_succ]; omega
theorem val_append (xs ys : List Int) : val (xs ++ ys) = val xs + pw xs.length * val ys := by
  induction xs with
  | nil => simp [val, pw]
  | cons x xs ih => rw [List.cons_append, val_cons, val_cons, ih, List.length_cons, pw_succ, Int.mul_assoc, Int.mul_add]; omega
theorem val_one (x : Int) : val [x] = x := by simp [val]
theorem val_snoc (xs : List Int) (y : Int) : val (xs ++ [y]) = val xs + pw xs.length * y := by rw [val_append, val_one]
theorem val_split (xs : List Int) (i : Nat) (h : i ≤ xs.length) : val xs = val (xs.take i) + pw i * val (xs.drop i) := by
  conv => lhs; rw [← List.take_append_drop i xs]
  rw [val_append, List.length_take, Nat.min_eq_left h]
theorem take_all (xs : List Int) {i : Nat} (h : xs.length ≤ i) : xs.take i = xs := List.take_of_length_le h
theorem getD_out (xs : List Int) {i : Nat} (h : xs.length ≤ i) : lim xs i = 0 := by
  unfold lim
  rw [List.getD_eq_getElem?_getD, List.getElem?_eq_none h]; rfl
theorem getD_in (xs : List Int) {i : Nat} (h : i < xs.length) : lim xs i = xs[i] := by
  unfold lim
  rw [List.getD_eq_getElem?_getD, List.getElem?_eq_getElem h]; rfl
theorem val_take_succ (xs : List Int) (i : Nat) : val (xs.take (i + 1)) = val (xs.take i) + pw i * lim xs i := by
  rcases Nat.lt_or_ge i xs.length with h | h
  · rw [List.take_succ_eq_append_getElem h, val_snoc, List.length_take, Nat.min_eq_left (by omega), getD_in _ h]
  · rw [take_all _ h, take_all _ (by omega), getD_out _ h]; omega
theorem val_drop (xs : List Int) (i : Nat) : val (xs.drop i) = lim xs i + 65536 * val (xs.drop (i + 1)) := by
  rcases Nat.lt_or_ge i xs.length with h | h
  · rw [List.drop_eq_getElem_cons h, val_cons, getD_in _ h]
  · rw [List.drop_of_length_le h, List.drop_of_length_le (by omega), getD_out _ h]; rfl
theorem val_take_lt {xs : List Int} (h : Limbs xs) (i : Nat) : val (xs.take i) < pw i := by
  have := val_lt (h.take i)
  have := pw_le (show (xs.take i).length ≤ i from List.length_take_le _ _)
  omega
theorem val_take_nonneg {xs : List Int} (h : Limbs xs) (i : Nat) : 0 ≤ val (xs.take i) := val_nonneg (h.take i)

theorem Canon.limbs {ds : List Int} (h : Canon ds) : Limbs ds := h.1
theorem Canon.nil : Canon [] := ⟨Limbs.nil, by simp⟩
theorem Canon.pos {ds : List Int} (h : Canon ds) (hn : ds ≠ []) : pw (ds.length - 1) ≤ val ds := by
  obtain ⟨xs, y, rfl⟩ : ∃ xs y, ds = xs ++ [y] := ⟨ds.dropLast, ds.getLast hn, (List.dropLast_concat_getLast hn).symm⟩
  have hy : y ≠ 0 := fun e => h.2 (by simp [e])
  have hb := h.1 y (by simp)
  rw [val_snoc]
  have h0 := val_nonneg (show Limbs xs from fun d hd => h.1 d (by simp [hd]))
  have hp := pw_pos xs.length
  have : pw xs.length * 1 ≤ pw xs.length * y := Int.mul_le_mul_of_nonneg_left (by omega) (by omega)
  simp
  omega
theorem Canon.length_le {ds : List Int} (h : Canon ds) {n : Nat} (hv : val ds < pw n) : ds.length ≤ n := by
  rcases Nat.lt_or_ge n ds.length with hlt | hge
  · have hp := h.pos (by rintro rfl; simp at hlt)
    have := pw_le (show n ≤ ds.length - 1 by omega)
    omega
  · exact hge
theorem Canon.zero {ds : List Int} (h : Canon ds) (hv : val ds = 0) : ds = [] := by
  have := h.length_le (n := 0) (by rw [hv, pw_zero]; omega)
  exact List.eq_nil_of_length_eq_zero (by omega)
theorem Canon.length_mono {a b : List Int} (ha : Canon a) (hb : Limbs b) (h : val a ≤ val b) : a.length ≤ b.length :=
  ha.length_le (by have := val_lt hb; omega)
theorem Canon.of_take {xs : List Int} (h : Limbs xs) {n : Nat} (hn : n ≤ xs.length) (hl : 0 < n → lim xs (n - 1) ≠ 0) : Canon (xs.take n) := by
  refine ⟨h.take n, fun e => ?_⟩
  rcases Nat.eq_zero_or_pos n with rfl | hp
  · simp at e
  · apply hl hp
    rw [List.getLast?_eq_getElem?, List.length_take, Nat.min_eq_left hn, List.getElem?_take, if_pos (by omega)] at e
    unfold lim; rw [List.getD_eq_getElem?_getD, e]; rfl
/-- Two canonical rows of one value are one. -/
theorem canon_unique {a b : List Int} (ha : Canon a) (hb : Canon b) (h : val a = val b) : a = b := by
  induction a generalizing b with
  | nil => rw [val_nil] at h; exact (hb.zero h.symm).symm
  | cons x xs ih =>
    cases b with
    | nil => rw [val_nil] at h; exact ha.zero h
    | cons y ys =>
      rw [val_cons, val_cons] at h
      have hx := (Limbs.cons.1 ha.1); have hy := (Limbs.cons.1 hb.1)
      have e : x = y := by omega
      subst e
      have tail : ∀ {zs : List Int}, Canon (x :: zs) → Canon zs := fun {zs} hz => ⟨(Limbs.cons.1 hz.1).2, fun e => hz.2 (by
        cases zs with
        | nil => simp at e
        | cons z zs => rw [List.getLast?_cons_cons]; exact e)⟩
      rw [ih (tail ha) (tail hb) (by omega)]
theorem pw_one : pw 1 = 65536 := by decide
theorem pw4 : pw 4 = 18446744073709551616 := by decide
theorem pw_two (m : Nat) : (2 : Int) ^ (16 * m) = pw m := by
  unfold pw
  rw [Int.pow_mul]
  rfl
theorem pw40 : (1606938044258990275541962092341162602522202993782792835301376 : Int) ≤ pw 40 := by decide +kernel
attribute [irreducible] pw
#print axioms canon_unique
end Go.Proofs.YtjhekggeofalfaaDoor
