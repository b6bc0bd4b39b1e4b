/- Plain laws of decimal texts. -/
import Derived.Lib.ItoaMem
namespace Go.Proofs.YtjhekggeofalfaaDoor
open Go.Lib

theorem rev_ind {motive : List UInt8 → Prop} (h0 : motive []) (h1 : ∀ t b, motive t → motive (t ++ [b])) : ∀ l, motive l := by
  have : ∀ n (l : List UInt8), l.length = n → motive l := by
    intro n
    induction n with
    | zero => intro l hl; rw [List.eq_nil_of_length_eq_zero hl]; exact h0
    | succ n ih =>
      intro l hl
      have hne : l ≠ [] := by intro h; rw [h] at hl; simp at hl
      rw [← List.dropLast_concat_getLast hne]
      exact h1 _ _ (ih _ (by rw [List.length_dropLast, hl]; rfl))
  exact fun l => this _ l rfl
theorem dec_small {u : Nat} (h : u < 10) : decDigits u = [UInt8.ofNat (48 + u)] := by rw [decDigits, dif_pos h]
theorem dec_step {u : Nat} (h : ¬ u < 10) : decDigits u = decDigits (u / 10) ++ [UInt8.ofNat (48 + u % 10)] := by rw [decDigits, dif_neg h]
theorem dec_app {q r : Nat} (hq : 0 < q) (hr : r < 10) : decDigits (q * 10 + r) = decDigits q ++ [UInt8.ofNat (48 + r)] := by
  rw [dec_step (by omega), show (q * 10 + r) / 10 = q by omega, show (q * 10 + r) % 10 = r by omega]
theorem dec_ne (u : Nat) : decDigits u ≠ [] := by
  rw [decDigits]; split <;> simp
theorem dec_split (k : Nat) : ∀ q r : Nat, 0 < q → r < 10 ^ (k + 1) → (decDigits r).length ≤ k + 1 ∧ decDigits (q * 10 ^ (k + 1) + r) = decDigits q ++ (List.replicate (k + 1 - (decDigits r).length) 48 ++ decDigits r) := by
  induction k with
  | zero =>
    intro q r hq hr
    have hr' : r < 10 := by simpa using hr
    rw [show q * 10 ^ (0 + 1) + r = q * 10 + r by simp, dec_app hq hr', dec_small hr']
    simp
  | succ k ih =>
    intro q r hq hr
    have e : 10 ^ (k + 1 + 1) = 10 ^ (k + 1) * 10 := by rw [Nat.pow_succ]
    have hr2 : r / 10 < 10 ^ (k + 1) := by rw [e] at hr; exact Nat.div_lt_of_lt_mul (by rw [Nat.mul_comm]; exact hr)
    obtain ⟨i1, i2⟩ := ih q (r / 10) hq hr2
    have hpos : 0 < q * 10 ^ (k + 1) + r / 10 := Nat.lt_of_lt_of_le (Nat.mul_pos hq (Nat.pow_pos (by decide))) (Nat.le_add_right _ _)
    have h1 : q * 10 ^ (k + 1 + 1) + r = (q * 10 ^ (k + 1) + r / 10) * 10 + r % 10 := by
      rw [e, Nat.add_mul, Nat.mul_assoc]; omega
    rw [h1, dec_app hpos (by omega), i2]
    by_cases hr3 : r < 10
    · have h0 : r / 10 = 0 := by omega
      rw [h0, dec_small (u := 0) (by decide), dec_small hr3, show r % 10 = r by omega]
      refine ⟨by simp, ?_⟩
      have : List.replicate (k + 1 + 1 - [UInt8.ofNat (48 + r)].length) (48 : UInt8) = List.replicate (k + 1 - [UInt8.ofNat (48 + 0)].length) 48 ++ [UInt8.ofNat (48 + 0)] := by
        simp only [List.length_singleton, Nat.add_sub_cancel]
        rw [List.replicate_succ']; rfl
      rw [this]
      simp
    · rw [dec_step hr3, List.length_append, List.length_singleton]
      refine ⟨by omega, ?_⟩
      rw [show k + 1 + 1 - ((decDigits (r / 10)).length + 1) = k + 1 - (decDigits (r / 10)).length by omega]
      simp

def isDig (b : UInt8) : Prop := 48 ≤ b.toNat ∧ b.toNat ≤ 57
theorem ofNat_dig {d : Nat} (h : d < 10) : (UInt8.ofNat (48 + d)).toNat = 48 + d := by
  rw [UInt8.toNat_ofNat']; omega
/-- The number of decimal digits. -/
def dv (l : List UInt8) : Nat := l.foldl (fun a b => a * 10 + (b.toNat - 48)) 0
theorem dv_app (l : List UInt8) (b : UInt8) : dv (l ++ [b]) = dv l * 10 + (b.toNat - 48) := by unfold dv; rw [List.foldl_append]; rfl
theorem dec_dig (u : Nat) : (∀ b ∈ decDigits u, isDig b) ∧ dv (decDigits u) = u := by
  induction u using Nat.strongRecOn with
  | ind u ih =>
    by_cases h : u < 10
    · rw [dec_small h]
      refine ⟨?_, ?_⟩
      · intro b hb
        rw [List.mem_singleton] at hb
        subst hb
        unfold isDig; rw [ofNat_dig h]; omega
      · show 0 * 10 + ((UInt8.ofNat (48 + u)).toNat - 48) = u
        rw [ofNat_dig h]; omega
    · obtain ⟨i1, i2⟩ := ih (u / 10) (by omega)
      rw [dec_step h]
      refine ⟨?_, ?_⟩
      · intro b hb
        rcases List.mem_append.1 hb with hb | hb
        · exact i1 b hb
        · rw [List.mem_singleton] at hb
          subst hb
          unfold isDig; rw [ofNat_dig (by omega)]; omega
      · rw [dv_app, i2, ofNat_dig (by omega)]; omega
theorem byte_back {b : UInt8} (h : isDig b) : UInt8.ofNat (48 + (b.toNat - 48)) = b := by
  obtain ⟨h1, h2⟩ := h
  rw [show 48 + (b.toNat - 48) = b.toNat by omega]
  exact UInt8.ofNat_toNat
/-- No nought ahead. -/
def Plain10 (l : List UInt8) : Prop := l ≠ [] ∧ (∀ b ∈ l, isDig b) ∧ (l.head? = some 48 → l.length = 1)
theorem dec_dv (n : Nat) : ∀ l : List UInt8, l.length = n → Plain10 l → decDigits (dv l) = l ∧ (l.head? ≠ some 48 → 0 < dv l) := by
  induction n with
  | zero => intro l hl h; exact absurd (List.eq_nil_of_length_eq_zero hl) h.1
  | succ n ih =>
    intro l hl ⟨h1, h2, h3⟩
    have e := List.dropLast_concat_getLast h1
    generalize hb : l.getLast h1 = b at e
    have db : isDig b := h2 b (by rw [← e]; simp)
    have db' := db
    obtain ⟨d1, d2⟩ := db'
    by_cases hn : n = 0
    · subst hn
      have : l.dropLast = [] := List.eq_nil_of_length_eq_zero (by rw [List.length_dropLast, hl])
      rw [this] at e
      rw [← e]
      have hv : dv ([] ++ [b]) = b.toNat - 48 := by rw [dv_app]; simp [dv]
      rw [hv]
      refine ⟨?_, ?_⟩
      · rw [dec_small (by omega), byte_back db]; rfl
      · intro hh
        have : b.toNat ≠ 48 := by
          intro hb48
          apply hh
          have : b = 48 := by rw [← UInt8.toNat_inj, hb48]; rfl
          rw [this]; rfl
        omega
    · have hne : l.dropLast ≠ [] := by
        intro h0
        have : l.dropLast.length = 0 := by rw [h0]; rfl
        rw [List.length_dropLast, hl] at this
        omega
      have hh : l.head? ≠ some 48 := fun h => by have := h3 h; omega
      have hd : l.dropLast.head? = l.head? := by
        conv => rhs; rw [← e]
        rw [List.head?_append]
        cases hx : l.dropLast with
        | nil => exact absurd hx hne
        | cons => rfl
      obtain ⟨i1, i2⟩ := ih l.dropLast (by rw [List.length_dropLast, hl]; rfl) ⟨hne, fun c hc => h2 c (by rw [← e]; exact List.mem_append_left _ hc), fun h => absurd (hd ▸ h) hh⟩
      have hp := i2 (by rw [hd]; exact hh)
      have hv : dv l = dv l.dropLast * 10 + (b.toNat - 48) := by
        conv => lhs; rw [← e]
        exact dv_app _ _
      rw [hv]
      refine ⟨?_, fun _ => by omega⟩
      rw [dec_app hp (by omega), i1, byte_back db]
      exact e
theorem dec_plain (u : Nat) : Plain10 (decDigits u) ∧ (0 < u → (decDigits u).head? ≠ some 48) := by
  induction u using Nat.strongRecOn with
  | ind u ih =>
    by_cases h : u < 10
    · have hd : isDig (UInt8.ofNat (48 + u)) := by unfold isDig; rw [ofNat_dig h]; omega
      rw [dec_small h]
      refine ⟨⟨by simp, ?_, fun _ => rfl⟩, ?_⟩
      · intro b hb; rw [List.mem_singleton] at hb; subst hb; exact hd
      · intro h0 hh
        have : UInt8.ofNat (48 + u) = 48 := by simpa using hh
        have h2 := ofNat_dig h
        rw [this] at h2
        have : (48 : UInt8).toNat = 48 := rfl
        omega
    · obtain ⟨⟨i1, i2, i3⟩, i4⟩ := ih (u / 10) (by omega)
      have hd := (dec_dig u).1
      rw [dec_step h] at hd ⊢
      have hh : (decDigits (u / 10) ++ [UInt8.ofNat (48 + u % 10)]).head? = (decDigits (u / 10)).head? := by
        rw [List.head?_append]
        cases hx : decDigits (u / 10) with
        | nil => exact absurd hx i1
        | cons => rfl
      refine ⟨⟨by simp, hd, fun hx => ?_⟩, fun _ => ?_⟩
      · rw [hh] at hx
        exact absurd hx (i4 (by omega))
      · rw [hh]
        exact i4 (by omega)
/-- The number that a text tells. -/
noncomputable def pval (s : List UInt8) : Option Int := open Classical in
  if s.head? = some 45 then (if Plain10 s.tail ∧ s.tail.head? ≠ some 48 then some (-(dv s.tail : Int)) else none)
  else (if Plain10 s then some (dv s : Int) else none)
theorem dec_head_ne (u : Nat) : (decDigits u).head? ≠ some 45 := by
  intro h
  have h1 := (dec_plain u).1
  cases hx : decDigits u with
  | nil => exact absurd hx h1.1
  | cons a t =>
    rw [hx] at h
    have h2 := h1.2.1 a (by rw [hx]; simp)
    have : a = 45 := by simpa using h
    subst this
    have := h2.1
    exact absurd this (by decide)
theorem pval_itoa (z : Int) : pval (itoa z) = some z := by
  unfold pval
  by_cases hz : z < 0
  · have e : itoa z = 45 :: decDigits z.natAbs := by unfold itoa; rw [if_pos hz]
    have h := dec_plain z.natAbs
    rw [e, if_pos (List.head?_cons ..), List.tail_cons, if_pos ⟨h.1, h.2 (by omega)⟩, (dec_dig _).2]
    congr 1; omega
  · have e : itoa z = decDigits z.toNat := by unfold itoa; rw [if_neg hz]
    have h := dec_plain z.toNat
    rw [e, if_neg (dec_head_ne _), if_pos h.1, (dec_dig _).2]
    congr 1; omega
theorem pval_some {s : List UInt8} {z : Int} (h : pval s = some z) : s = itoa z := by
  unfold pval at h
  split at h
  · rename_i hs
    split at h
    · rename_i hp
      injection h with h
      have hd := dec_dv _ _ rfl hp.1
      have := hd.2 hp.2
      unfold itoa
      rw [if_pos (by omega), show z.natAbs = dv s.tail by omega, hd.1]
      cases s with
      | nil => simp at hs
      | cons a t => have : a = 45 := by simpa using hs
                    subst this; rfl
    · simp at h
  · split at h
    · rename_i hp
      injection h with h
      have hd := dec_dv _ _ rfl hp
      unfold itoa
      rw [if_neg (by omega), show z.toNat = dv s by omega, hd.1]
    · simp at h
theorem dv_mono (l : List UInt8) (b : UInt8) : dv l ≤ dv (l ++ [b]) := by rw [dv_app]; omega
theorem dv_take (i : Nat) : ∀ l : List UInt8, dv (l.take i) ≤ dv l := by
  refine rev_ind (by simp) fun t b ih => ?_
  by_cases h : i ≤ t.length
  · rw [List.take_append_of_le_length h]
    exact Nat.le_trans ih (dv_mono t b)
  · rw [List.take_of_length_le (by simp; omega)]
    exact Nat.le_refl _
theorem dv_small : ∀ l : List UInt8, (∀ b ∈ l, isDig b) → dv l < 10 ^ l.length := by
  refine rev_ind (fun _ => by decide) fun t b ih h1 => ?_
  have i := ih (fun b hb => h1 b (by simp [hb]))
  obtain ⟨d1, d2⟩ := h1 b (by simp)
  rw [dv_app, List.length_append, List.length_singleton, Nat.pow_succ]
  omega
/-- A number of more than 40 digits is no wide one. -/
theorem dv_great {l : List UInt8} (h : Plain10 l) (hl : 40 < l.length) : 10 ^ 40 ≤ dv l := by
  have h1 := (dec_dv _ l rfl h).1
  have h0 : 0 < dv l := (dec_dv _ l rfl h).2 (fun hh => by have := h.2.2 hh; omega)
  refine Nat.le_of_not_lt fun hc => ?_
  have h3 := (dec_split 39 1 (dv l) (by decide) hc).1
  rw [h1] at h3
  omega
end Go.Proofs.YtjhekggeofalfaaDoor
