/- Contract of noonmarklaw02.alive. -/
import Derived.Test.YtjhekggeofalfaaDoorBackP
import Derived.Test.YtjhekggeofalfaaDoorSame
namespace Go.Proofs.YtjhekggeofalfaaDoor
open Go.RowKit

theorem wv {z hi lo : Int} (h1 : z / 18446744073709551616 = hi) (h2 : z % 18446744073709551616 = lo) : wideV z = .agg #[.int .i64 hi, .int .u64 lo] := by rw [wideV, h1, h2]
theorem sat2_yes {z : Int} (h : Fits2 z) : sat2 z = z := if_pos h
theorem err2_yes {z : Int} (h : Fits2 z) : err2 z = 0 := if_pos h
theorem sat2_no {z : Int} (h : ¬ Fits2 z) : sat2 z = 0 := if_neg h
theorem err2_no {z : Int} (h : ¬ Fits2 z) : err2 z = 12 := if_neg h
def digA : List UInt8 := [49, 56, 52, 52, 54, 55, 52, 52, 48, 55, 51, 55, 48, 57, 53, 53, 49, 54, 49, 55]
def digB : List UInt8 := [49, 56, 52, 52, 54, 55, 52, 52, 48, 55, 51, 55, 48, 57, 53, 53, 49, 54, 49, 54]
theorem dig_of {l : List UInt8} (h1 : l ≠ []) (h2 : l.all (fun b => decide (48 ≤ b.toNat ∧ b.toNat ≤ 57)) = true) (h3 : l.head? = some 48 → l.length = 1) : Plain10 l :=
  ⟨h1, fun b hb => by have := List.all_eq_true.1 h2 b hb; show 48 ≤ b.toNat ∧ b.toNat ≤ 57; exact of_decide_eq_true this, h3⟩
theorem digA_plain : Plain10 digA := dig_of (by decide) (by decide) (by decide)
theorem digB_plain : Plain10 digB := dig_of (by decide) (by decide) (by decide)
theorem presA : pres (45 :: digA) = (-18446744073709551617, true) := by
  have e1 : pdig (45 :: digA) = digA := rfl
  have e2 : pneg (45 :: digA) = true := rfl
  have e3 : dv digA = 18446744073709551617 := by decide
  rw [pres_yes (45 :: digA) (by rw [e1]; exact digA_plain) (by rw [e1]; decide) (by rw [e1, e2, e3]; exact ⟨by decide, by decide⟩), e1, e2, e3]
  rfl
theorem presZ : pres [45, 48] = (0, false) := by
  refine pres_no _ fun _ h => ?_
  exact absurd rfl (h rfl)
theorem textB : Lib.itoa 18446744073709551616 = digB := itoa_of digB_plain (by decide)

/-- A wide number's two words. -/
theorem wideOf_k {v hi lo : Int} (h : Fits v) (h1 : v / 18446744073709551616 = hi) (h2 : v % 18446744073709551616 = lo) (w : World) :
    Calls Tryd.prog 21 #[.int .i64 v] w fun e w' => e = .returned (.agg #[.int .i64 hi, .int .u64 lo]) ∧ Below w.heap.size w w' := by
  have := wideOf_any v w h; rwa [wv h1 h2] at this
theorem wideAdd_k (a b : Int) {ah al bh bl rh rl : Int} (fa : Fits2 a) (fb : Fits2 b) (fr : Fits2 (a + b)) (a1 : a / 18446744073709551616 = ah) (a2 : a % 18446744073709551616 = al) (b1 : b / 18446744073709551616 = bh) (b2 : b % 18446744073709551616 = bl)
    (r1 : (a + b) / 18446744073709551616 = rh) (r2 : (a + b) % 18446744073709551616 = rl) (w : World) :
    Calls Tryd.prog 9 #[.agg #[.int .i64 ah, .int .u64 al], .agg #[.int .i64 bh, .int .u64 bl]] w fun e w' => e = .returned (.tuple #[.agg #[.int .i64 rh, .int .u64 rl], .int .i64 0]) ∧ Below w.heap.size w w' := by
  have := wideAdd_any a b w fa fb
  rwa [sat2_yes fr, err2_yes fr, wv a1 a2, wv b1 b2, wv r1 r2] at this
theorem wideSub_k (a b : Int) {ah al bh bl rh rl : Int} (fa : Fits2 a) (fb : Fits2 b) (fr : Fits2 (a - b)) (a1 : a / 18446744073709551616 = ah) (a2 : a % 18446744073709551616 = al) (b1 : b / 18446744073709551616 = bh) (b2 : b % 18446744073709551616 = bl)
    (r1 : (a - b) / 18446744073709551616 = rh) (r2 : (a - b) % 18446744073709551616 = rl) (w : World) :
    Calls Tryd.prog 10 #[.agg #[.int .i64 ah, .int .u64 al], .agg #[.int .i64 bh, .int .u64 bl]] w fun e w' => e = .returned (.tuple #[.agg #[.int .i64 rh, .int .u64 rl], .int .i64 0]) ∧ Below w.heap.size w w' := by
  have := wideSub_any a b w fa fb
  rwa [sat2_yes fr, err2_yes fr, wv a1 a2, wv b1 b2, wv r1 r2] at this
theorem wideBytes_is {z : Int} (h : Fits2 z) (w : World) : Calls Tryd.prog 31 #[wideV z] w fun e w' => ∃ v, e = .returned v ∧ IsBys w' v (wlist z 8) ∧ Below w.heap.size w w' := by
  refine (wideBytes_any z w h).mono ?_
  rintro e w' ⟨rfl, hb, hh⟩
  have B : Blks w w' [(w.heap.size + 1, Obj.cells (bowOf (wlist z 8)) 5 (0, 0))] := ⟨hb, fun x hx => by rw [List.mem_singleton] at hx; subst hx; exact hh⟩
  exact ⟨_, rfl, B.isBys mem0 (wlist_length z 8) (by decide), hb⟩
theorem wideBytes_k (z : Int) {hi lo : Int} (h : Fits2 z) (h1 : z / 18446744073709551616 = hi) (h2 : z % 18446744073709551616 = lo) (w : World) :
    Calls Tryd.prog 31 #[.agg #[.int .i64 hi, .int .u64 lo]] w fun e w' => ∃ v, e = .returned v ∧ IsBys w' v (wlist z 8) ∧ Below w.heap.size w w' := by
  have := wideBytes_is h w; rwa [wv h1 h2] at this
theorem wideBack_k (z : Int) {hi lo : Int} (h : Fits2 z) (h1 : z / 18446744073709551616 = hi) (h2 : z % 18446744073709551616 = lo) (v : Value) (w : World) (hv : IsBys w v (wlist z 8)) :
    Calls Tryd.prog 32 #[v] w fun e w' => e = .returned (.tuple #[.agg #[.int .i64 hi, .int .u64 lo], .bool true]) ∧ Below w.heap.size w w' := by
  have := wideBack_yes v (wlist z 8) w hv (wlist_bytes z) (wlist_length z 8)
  rwa [back_bytes h, wv h1 h2] at this
theorem wideLong_k (z : Int) {hi lo : Int} (h : Fits2 z) (f : Fits z) (h1 : z / 18446744073709551616 = hi) (h2 : z % 18446744073709551616 = lo) (w : World) :
    Calls Tryd.prog 11 #[.agg #[.int .i64 hi, .int .u64 lo]] w fun e w' => e = .returned (.tuple #[.int .i64 z, .bool true]) ∧ Below w.heap.size w w' := by
  have := wideLong_any z w h
  rwa [wv h1 h2, sat_yes f, decide_eq_true f] at this
theorem wideCmp_k (a b : Int) {ah al bh bl : Int} (fa : Fits2 a) (fb : Fits2 b) (h : b < a) (a1 : a / 18446744073709551616 = ah) (a2 : a % 18446744073709551616 = al) (b1 : b / 18446744073709551616 = bh) (b2 : b % 18446744073709551616 = bl) (w : World) :
    Calls Tryd.prog 17 #[.agg #[.int .i64 ah, .int .u64 al], .agg #[.int .i64 bh, .int .u64 bl]] w fun e w' => e = .returned (.int .i64 1) ∧ Below w.heap.size w w' := by
  have := wideCmp_any a b w fa fb
  rwa [wv a1 a2, wv b1 b2, cmpOf_gt h] at this
theorem wideText_k (z : Int) {hi lo : Int} (h : Fits2 z) (h1 : z / 18446744073709551616 = hi) (h2 : z % 18446744073709551616 = lo) (w : World) (ht : PowTab w) :
    Calls Tryd.prog 26 #[.agg #[.int .i64 hi, .int .u64 lo]] w fun e w' => e = .returned (.string ⟨(Lib.itoa z).toArray⟩) ∧ Below w.heap.size w w' := by
  have := wideText_any z w h ht
  rwa [wv h1 h2] at this
theorem wideTimes_k (a b : Int) {rh rl : Int} (ha : Fits a) (hb : Fits b) (r1 : (a * b) / 18446744073709551616 = rh) (r2 : (a * b) % 18446744073709551616 = rl) (w : World) :
    Calls Tryd.prog 22 #[.int .i64 a, .int .i64 b] w fun e w' => e = .returned (.agg #[.int .i64 rh, .int .u64 rl]) ∧ Below w.heap.size w w' := by
  have := wideTimes_any a b w ha hb
  rwa [wv r1 r2] at this
theorem wideSum_k (v : Value) (xs : List Int) {rh rl : Int} (w : World) (h : IsLongs w v xs) (hf : ∀ x ∈ xs, Fits x) (r1 : sumI xs / 18446744073709551616 = rh) (r2 : sumI xs % 18446744073709551616 = rl) :
    Calls Tryd.prog 23 #[v] w fun e w' => e = .returned (.agg #[.int .i64 rh, .int .u64 rl]) ∧ Below w.heap.size w w' := by
  have := wideSum_any v xs w h hf
  rwa [wv r1 r2] at this
theorem sum_new (w : World) (a b c : Int) : IsLongs (w.alloc (.cells #[.int .i64 a, .int .i64 b, .int .i64 c] 2)) (.slice (some ⟨w.heap.size, 0, none⟩) 3 3) [a, b, c] := by
  have h := heap_alloc_new w (.cells #[.int .i64 a, .int .i64 b, .int .i64 c] 2)
  refine ⟨_, 3, rfl, Nat.le_refl _, by decide, .inr ⟨w.heap.size, 0, rfl, by simp, fun i hi => ?_⟩⟩
  rw [Nat.zero_add, cell_of_row _ _ i _ _ _ h]
  match i, hi with
  | 0, _ => rfl
  | 1, _ => rfl
  | 2, _ => rfl
set_option maxRecDepth 100000 in
set_option maxHeartbeats 2000000 in
theorem alive_any (w : World) (htab : PowTab w) :
    Calls Tryd.prog 8 #[] w fun e w' => e = .returned (.bool true) ∧ Below w.heap.size w w' := by
  have T := hid (fun W (hW : Below w.heap.size w W) => PowTab.below htab hW)
  have B := hid (Blks.nil w)
  clear htab
  go_enter Tryd.func8, Tryd.ntmps8
  go_wp2_with fail
  refine (wideOf_k (v := 1) (hi := 0) (lo := 1) ⟨by decide, by decide⟩ (by decide) (by decide) _).mono ?_
  rintro e w1 ⟨rfl, b⟩
  replace B := hid (B.out.below b)
  clear b
  go_wp2_with fail
  refine (wideAdd_k (18446744073709551615) (1) (ah := 0) (al := 18446744073709551615) (bh := 0) (bl := 1) (rh := 1) (rl := 0) ⟨by decide, by decide⟩ ⟨by decide, by decide⟩ ⟨by decide, by decide⟩ (by decide) (by decide) (by decide) (by decide) (by decide) (by decide) _).mono ?_
  rintro e w2 ⟨rfl, b⟩
  replace B := hid ((B.out.below b).add (.cells #[.int .i64 (1), .int .u64 0] 24))
  clear b
  go_wp2_with fail
  refine (wideOf_k (v := -1) (hi := -1) (lo := 18446744073709551615) ⟨by decide, by decide⟩ (by decide) (by decide) _).mono ?_
  rintro e w3 ⟨rfl, b⟩
  replace B := hid (B.out.below b)
  clear b
  go_wp2_with fail
  refine (wideOf_k (v := 1) (hi := 0) (lo := 1) ⟨by decide, by decide⟩ (by decide) (by decide) _).mono ?_
  rintro e w4 ⟨rfl, b⟩
  replace B := hid (B.out.below b)
  clear b
  go_wp2_with fail
  refine (wideSub_k (-1) (1) (ah := -1) (al := 18446744073709551615) (bh := 0) (bl := 1) (rh := -1) (rl := 18446744073709551614) ⟨by decide, by decide⟩ ⟨by decide, by decide⟩ ⟨by decide, by decide⟩ (by decide) (by decide) (by decide) (by decide) (by decide) (by decide) _).mono ?_
  rintro e w5 ⟨rfl, b⟩
  replace B := hid ((B.out.below b).add (.cells #[.int .i64 (-1), .int .u64 18446744073709551614] 24))
  clear b
  go_wp2_with fail
  rw [show (#[45, 49, 56, 52, 52, 54, 55, 52, 52, 48, 55, 51, 55, 48, 57, 53, 53, 49, 54, 49, 55] : Array UInt8) = (45 :: digA).toArray from rfl]
  refine (wideParse_any (45 :: digA) _ (by decide)).mono ?_
  rw [presA, wv (z := (-18446744073709551617, true).1) (hi := -2) (lo := 18446744073709551615) (by decide) (by decide)]
  rintro e w6 ⟨rfl, b⟩
  replace B := hid ((B.out.below b).add (.cells #[.int .i64 (-2), .int .u64 18446744073709551615] 24))
  clear b
  go_wp2_with fail
  refine (wideBytes_k (-18446744073709551617) (hi := -2) (lo := 18446744073709551615) ⟨by decide, by decide⟩ (by decide) (by decide) _).mono ?_
  rintro e w7 ⟨v7, rfl, i7, b⟩
  replace B := hid (B.out.below b)
  clear b
  go_wp2_with fail
  refine (wideBack_k (-18446744073709551617) (hi := -2) (lo := 18446744073709551615) ⟨by decide, by decide⟩ (by decide) (by decide) v7 _ i7).mono ?_
  rintro e w8 ⟨rfl, b⟩
  replace B := hid ((B.out.below b).add (.cells #[.int .i64 (-2), .int .u64 18446744073709551615] 24))
  clear b
  clear i7
  go_wp2_with fail
  refine (wideOf_k (v := -7) (hi := -1) (lo := 18446744073709551609) ⟨by decide, by decide⟩ (by decide) (by decide) _).mono ?_
  rintro e w9 ⟨rfl, b⟩
  replace B := hid (B.out.below b)
  clear b
  go_wp2_with fail
  refine (wideLong_k (-7) (hi := -1) (lo := 18446744073709551609) ⟨by decide, by decide⟩ ⟨by decide, by decide⟩ (by decide) (by decide) _).mono ?_
  rintro e w10 ⟨rfl, b⟩
  replace B := hid (B.out.below b)
  clear b
  go_wp2_with fail
  rw [show (#[45, 48] : Array UInt8) = [45, 48].toArray from rfl]
  refine (wideParse_any [45, 48] _ (by decide)).mono ?_
  rw [presZ, wv (z := (0, false).1) (hi := 0) (lo := 0) (by decide) (by decide)]
  rintro e w11 ⟨rfl, b⟩
  replace B := hid ((B.out.below b).add (.cells #[.int .i64 (0), .int .u64 0] 24))
  clear b
  obtain ⟨z0, z1⟩ := B.out.c2 mem0
  obtain ⟨d0, d1⟩ := B.out.c2 mem1
  obtain ⟨c0, c1⟩ := B.out.c2 mem2
  obtain ⟨b0, b1⟩ := B.out.c2 mem3
  obtain ⟨a0, a1⟩ := B.out.c2 mem4
  go_wp2_with fail
  clear a0 a1 b0 b1 c0 c1 d0 d1 z0 z1
  refine (wideCmp_k 18446744073709551616 (-2) (ah := 1) (al := 0) (bh := -1) (bl := 18446744073709551614) ⟨by decide, by decide⟩ ⟨by decide, by decide⟩ (by decide) (by decide) (by decide) (by decide) (by decide) _).mono ?_
  rintro e w12 ⟨rfl, b⟩
  replace B := hid (B.out.below b)
  clear b
  obtain ⟨z0, z1⟩ := B.out.c2 mem0
  obtain ⟨d0, d1⟩ := B.out.c2 mem1
  obtain ⟨c0, c1⟩ := B.out.c2 mem2
  obtain ⟨b0, b1⟩ := B.out.c2 mem3
  obtain ⟨a0, a1⟩ := B.out.c2 mem4
  go_wp2_with fail
  clear a0 a1 b0 b1 c0 c1 d0 d1 z0 z1
  refine (wideText_k 18446744073709551616 (hi := 1) (lo := 0) ⟨by decide, by decide⟩ (by decide) (by decide) _ (T.out _ B.out.bel)).mono ?_
  rw [textB, show digB.toArray = #[49, 56, 52, 52, 54, 55, 52, 52, 48, 55, 51, 55, 48, 57, 53, 53, 49, 54, 49, 54] from rfl]
  rintro e w13 ⟨rfl, b⟩
  replace B := hid (B.out.below b)
  clear b T
  go_wp2_with fail
  refine (wideTimes_k 4611686018427387904 (-4) (rh := -1) (rl := 0) ⟨by decide, by decide⟩ ⟨by decide, by decide⟩ (by decide) (by decide) _).mono ?_
  rintro e w14 ⟨rfl, b⟩
  replace B := hid (B.out.below b)
  clear b
  go_wp2_with fail
  replace B := hid (B.out.keep (.cells #[.int .i64 1, .int .i64 2, .int .i64 (-5)] 2))
  refine (wideSum_k _ [1, 2, -5] (rh := -1) (rl := 18446744073709551614) _ (sum_new _ 1 2 (-5)) (by decide) (by decide) (by decide)).mono ?_
  rintro e w15 ⟨rfl, b⟩
  replace B := hid (B.out.below b)
  clear b
  go_wp2_with fail
  refine (wideOf_k (v := -2) (hi := -1) (lo := 18446744073709551614) ⟨by decide, by decide⟩ (by decide) (by decide) _).mono ?_
  rintro e w16 ⟨rfl, b⟩
  replace B := hid (B.out.below b)
  clear b
  go_wp2_with fail
  go_ret
  exact ⟨rfl, B.out.bel⟩
end Go.Proofs.YtjhekggeofalfaaDoor
