/- Contract of wide.Back. -/
import Derived.Test.YtjhekggeofalfaaDoorWide9
import Derived.Test.YtjhekggeofalfaaDoorNorm
namespace Go.Proofs.YtjhekggeofalfaaDoor
open Go.RowKit

/-- The number of bytes, the highest first. -/
def bval (l : List Int) : Int := l.foldl (fun a b => a * 256 + b) 0
def Bytes8 (l : List Int) : Prop := ∀ b ∈ l, 0 ≤ b ∧ b < 256
theorem bval_snoc (l : List Int) (b : Int) : bval (l ++ [b]) = bval l * 256 + b := by unfold bval; rw [List.foldl_append]; rfl
theorem bval_take (l : List Int) {k : Nat} (h : k < l.length) : bval (l.take (k + 1)) = bval (l.take k) * 256 + lim l k := by
  rw [List.take_succ_eq_append_getElem h, bval_snoc, getD_in _ h]
theorem bval_lt {l : List Int} (hb : Bytes8 l) : ∀ k, k ≤ l.length → 0 ≤ bval (l.take k) ∧ bval (l.take k) < 256 ^ k := by
  intro k
  induction k with
  | zero => intro _; simp [bval]
  | succ k ih =>
    intro hk
    obtain ⟨i1, i2⟩ := ih (by omega)
    obtain ⟨b1, b2⟩ := hb (lim l k) (by rw [getD_in _ (by omega : k < l.length)]; exact List.getElem_mem _)
    rw [bval_take l (by omega), Int.pow_succ]
    omega
theorem bval_fit {l : List Int} (hb : Bytes8 l) {k : Nat} (hk : k ≤ l.length) (h : k < 8) : 0 ≤ bval (l.take k) ∧ bval (l.take k) < 72057594037927936 := by
  obtain ⟨h1, h2⟩ := bval_lt hb k hk
  have h3 : (256 : Int) ^ k ≤ 256 ^ 7 := eight (p := fun k => (256 : Int) ^ k ≤ 256 ^ 7) (by decide) (by decide) (by decide) (by decide) (by decide) (by decide) (by decide) (by decide) h
  refine ⟨h1, Int.lt_of_lt_of_le h2 ?_⟩
  exact h3
/-- The wide number of 16 bytes. -/
def backOf (l : List Int) : Int := wrap64 (bval (l.take 8)) * 18446744073709551616 + bval ((l.drop 8).take 8)
theorem or8 {a b : Int} (h0 : 0 ≤ a) (h1 : a < 72057594037927936) (b0 : 0 ≤ b) (b1 : b < 256) : bits .or .u64 (a * 256) b = a * 256 + b :=
  or_parts (s := 8) h0 b0 b1 (by omega)
def WBackAt (xs : List Int) (h l i : Value) : Prop :=
  ∃ k : Nat, k ≤ 8 ∧ i = .int .i64 k ∧ h = .int .u64 (bval (xs.take k)) ∧ l = .int .u64 (bval ((xs.drop 8).take k))

set_option maxRecDepth 20000 in
set_option maxHeartbeats 1000000 in
theorem wideBack_yes (v : Value) (xs : List Int) (w : World) (h : IsBys w v xs) (hb : Bytes8 xs) (h16 : xs.length = 16) :
    Calls Tryd.prog 32 #[v] w fun e w' => e = .returned (.tuple #[wideV (backOf xs), .bool true]) ∧ Below w.heap.size w w' := by
  have H := hid h
  have HB := hid hb
  obtain ⟨A, c, rfl, hlc, hm, hx⟩ := h
  rw [h16] at H hlc ⊢
  have H16 := hid h16
  unfold maxLen at hm
  obtain ⟨b, o, hA, hlt, hcell⟩ : ∃ b o, A = some ⟨b, o, none⟩ ∧ b < w.heap.size ∧ ∀ i, i < 16 → w.cell? ⟨b, o + i, none⟩ = some (.int .u8 (lim xs i)) := by
    rcases hx with hx | ⟨b, o, hA, hlt, hc⟩
    · rw [hx] at h16; simp at h16
    · exact ⟨b, o, hA, hlt, fun i hi => hc i (by omega)⟩
  subst hA
  have HC := hid hcell
  clear hcell hx hb h16
  have HB0 := hid ((Blks.nil w).add (.cells #[.int .i64 0, .int .u64 0] 24))
  go_enter Tryd.func32, Tryd.ntmps32
  go_wp2_with fail
  go_loop [4, 5, 11] (fun h l i => WBackAt xs h l i) (fun _ _ i => 8 - (intOf i).toNat)
  case atStart => exact ⟨0, by omega, rfl, rfl, rfl⟩
  case round =>
    obtain ⟨k, hk, rfl, rfl, rfl⟩ := hrel
    by_cases hlt8 : k < 8
    · have d0 := (HB0.out.bel.cell (p := ⟨b, o + k, none⟩) hlt).trans (HC.out k (by omega))
      have d1 := (HB0.out.bel.cell (p := ⟨b, o + (8 + k), none⟩) hlt).trans (HC.out (8 + k) (by omega))
      have T1 := hid (bval_take xs (k := k) (by have := H16.out; omega))
      have T2 := hid (show bval ((xs.drop 8).take (k + 1)) = bval ((xs.drop 8).take k) * 256 + lim xs (8 + k) from by
        rw [bval_take (xs.drop 8) (by rw [List.length_drop]; have := H16.out; omega)]
        congr 1
        unfold lim
        rw [List.getD_eq_getElem?_getD, List.getD_eq_getElem?_getD, List.getElem?_drop])
      have hb2 : Bytes8 (xs.drop 8) := fun b hb => HB.out b (List.mem_of_mem_drop hb)
      obtain ⟨p1, p2⟩ := bval_fit HB.out (k := k) (by have := H16.out; omega) hlt8
      obtain ⟨q1, q2⟩ := bval_fit hb2 (k := k) (by rw [List.length_drop]; have := H16.out; omega) hlt8
      obtain ⟨x1, x2⟩ := HB.out (lim xs k) (by rw [getD_in _ (by have := H16.out; omega : k < xs.length)]; exact List.getElem_mem _)
      obtain ⟨y1, y2⟩ := HB.out (lim xs (8 + k)) (by rw [getD_in _ (by have := H16.out; omega : 8 + k < xs.length)]; exact List.getElem_mem _)
      clear hb2
      generalize bval (xs.take k) = P at *
      generalize bval ((xs.drop 8).take k) = Q at *
      generalize lim xs k = X at *
      generalize lim xs (8 + k) = Y at *
      have OX := or8 p1 p2 x1 x2
      have OY := or8 q1 q2 y1 y2
      go_wp2
      exact ⟨⟨k + 1, by omega, by go_num, by rw [T1.out], by rw [T2.out]⟩, by simp [intOf]; omega⟩
    · have hkn : k = 8 := by omega
      subst hkn
      have hb2 : Bytes8 (xs.drop 8) := fun b hb => HB.out b (List.mem_of_mem_drop hb)
      obtain ⟨p1, p2⟩ := bval_lt HB.out 8 (by have := H16.out; omega)
      obtain ⟨q1, q2⟩ := bval_lt hb2 8 (by rw [List.length_drop]; have := H16.out; omega)
      simp only [Int.reducePow] at p2 q2
      have E := hid (show backOf xs = wrap64 (bval (xs.take 8)) * 18446744073709551616 + bval ((xs.drop 8).take 8) from rfl)
      clear hb2
      generalize bval (xs.take 8) = P at *
      generalize bval ((xs.drop 8).take 8) = Q at *
      go_wp2
      have EV := hid (wideV_of (z := backOf xs) (hi := wrap64 P) (lo := Q) (by rw [E.out]; omega) (by rw [E.out]; omega))
      exact bodyPost_ret (v := .tuple #[.agg #[.int .i64 (wrap64 P), .int .u64 Q], .bool true]) (by simp [results, Tryd.results32, go_sem]) rfl ⟨by rw [EV.out], (Below.refl _ _).alloc (Nat.le_refl _) _⟩
set_option maxRecDepth 20000 in
theorem wideBack_no (A : Option Addr) (n c : Nat) (w : World) (hn : n ≠ 16) :
    Calls Tryd.prog 32 #[.slice A n c] w fun e w' => e = .returned (.tuple #[wideV 0, .bool false]) ∧ Below w.heap.size w w' := by
  have q : ((n : Int) != 16) = true := by rw [bne_iff_ne]; omega
  go_enter Tryd.func32, Tryd.ntmps32
  go_wp2
  exact bodyPost_ret (v := .tuple #[.agg #[.int .i64 0, .int .u64 0], .bool false]) (by simp [results, Tryd.results32, go_sem]) rfl ⟨rfl, (Below.refl _ _).alloc (Nat.le_refl _) _⟩
end Go.Proofs.YtjhekggeofalfaaDoor
