/- noonmarkref00.SameBytes; noonmarklaw02.WideBytes returns true at every input and writes nothing that was there. -/
import Derived.Test.YtjhekggeofalfaaDoorAliveW
import Derived.Test.YtjhekggeofalfaaDoorBytesP
import Derived.Deep.DeepCutAuto
import Derived.BigQuiet
namespace Go.Proofs.YtjhekggeofalfaaDoor
open Go.RowKit

theorem IsBys.drew {w : World} {v : Value} {xs : List Int} (h : IsBys w v xs) : IsBys w.drew v xs := h
set_option maxRecDepth 100000 in
set_option maxHeartbeats 1000000 in
theorem sameBytes_any (A B : Option Addr) (n c d : Nat) (xs : List Int) (w : World) (hn : xs.length = n) (h : IsBys w (.slice A n c) xs) (h' : IsBys w (.slice B n d) xs) :
    Calls Tryd.prog 34 #[.slice A n c, .slice B n d] w fun e w' => e = .returned (.bool true) ∧ Below w.heap.size w w' := by
  have hm : n ≤ 9223372036854775807 := by
    obtain ⟨A', c', hv, hl, hm, -⟩ := h
    injection hv with _ hv1 hv2
    unfold maxLen at hm
    omega
  have H := hid h
  have H2 := hid h'
  have HN := hid hn
  clear h h' hn
  have B0 := hid (Blks.nil w)
  go_enter Tryd.func34, Tryd.ntmps34
  go_wp2_with fail
  go_loopw [5] (fun i wr => ∃ k : Nat, k ≤ n ∧ i = .int .i64 k ∧ Blks w wr []) (fun i _ => n - (intOf i).toNat)
  case atStart => exact ⟨0, Nat.zero_le _, rfl, B0.out⟩
  case round =>
    obtain ⟨k, hk, rfl, hB⟩ := hrel
    have B := hid hB
    clear hB
    by_cases hlt : k < n
    · have hkx : k < xs.length := by have := HN.out; omega
      obtain ⟨b, o, hA, d0⟩ := H.out.at_ hkx
      obtain ⟨b', o', hA', e0⟩ := H2.out.at_ hkx
      generalize lim xs k = x at *
      subst hA hA'
      have i0 : (0 : Int) ≤ (k : Int) := by omega
      have i1 : (k : Int) < (n : Int) := by omega
      clear hkx
      go_wp2_with fail
      have ne := Wd.some_ B.out
      have x0 := Wd.arg (l := []) d0
      have x1 := Wd.arg (l := []) e0
      clear d0 e0
      refine wp_region_tame w [] B.out (by kernel_rfl) (by kernel_rfl) ?_
      repeat (go_big_quiet_step (fail))
      refine wpQuiet_nil (wd_all ?_)
      intro W7 B7
      replace B := hid B7
      clear x0 x1 ne B7
      go_wp2_with fail
      go_roundw
      case rel => exact ⟨k + 1, by omega, by go_num, B.out⟩
      case measure => simp [intOf]; omega
    · have hkn : k = n := by omega
      subst hkn
      go_wp2_with fail
      go_ret
      exact ⟨rfl, B.out.bel⟩

theorem list16 {xs : List Int} (h : xs.length = 16) : xs = [lim xs 0, lim xs 1, lim xs 2, lim xs 3, lim xs 4, lim xs 5, lim xs 6, lim xs 7, lim xs 8, lim xs 9, lim xs 10, lim xs 11, lim xs 12, lim xs 13, lim xs 14, lim xs 15] := by
  match xs, h with
  | [x0, x1, x2, x3, x4, x5, x6, x7, x8, x9, x10, x11, x12, x13, x14, x15], _ => rfl
theorem lim_byte {xs : List Int} (h : Bytes8 xs) (k : Nat) : 0 ≤ lim xs k ∧ lim xs k < 256 := by
  by_cases hk : k < xs.length
  · exact h _ (by rw [getD_in _ hk]; exact List.getElem_mem hk)
  · rw [getD_out xs (by omega)]; omega
theorem back_is {xs : List Int} (hb : Bytes8 xs) (h : xs.length = 16) : Fits2 (backOf xs) ∧ wlist (backOf xs) 8 = xs := by
  have e := list16 h
  have b := lim_byte hb
  have T : bval (xs.take 8) = (((((((lim xs 0 * 256 + lim xs 1) * 256 + lim xs 2) * 256 + lim xs 3) * 256 + lim xs 4) * 256 + lim xs 5) * 256 + lim xs 6) * 256 + lim xs 7) := by
    conv => lhs; rw [e]
    show (((((((0 * 256 + lim xs 0) * 256 + lim xs 1) * 256 + lim xs 2) * 256 + lim xs 3) * 256 + lim xs 4) * 256 + lim xs 5) * 256 + lim xs 6) * 256 + lim xs 7 = _
    rw [Int.zero_mul, Int.zero_add]
  have D : bval ((xs.drop 8).take 8) = (((((((lim xs 8 * 256 + lim xs 9) * 256 + lim xs 10) * 256 + lim xs 11) * 256 + lim xs 12) * 256 + lim xs 13) * 256 + lim xs 14) * 256 + lim xs 15) := by
    conv => lhs; rw [e]
    show (((((((0 * 256 + lim xs 8) * 256 + lim xs 9) * 256 + lim xs 10) * 256 + lim xs 11) * 256 + lim xs 12) * 256 + lim xs 13) * 256 + lim xs 14) * 256 + lim xs 15 = _
    rw [Int.zero_mul, Int.zero_add]
  obtain ⟨t0, t1, t2, t3, t4, t5, t6, t7, t8, t9⟩ := eight_back (b 0) (b 1) (b 2) (b 3) (b 4) (b 5) (b 6) (b 7) T
  obtain ⟨d0, d1, d2, d3, d4, d5, d6, d7, d8, d9⟩ := eight_back (b 8) (b 9) (b 10) (b 11) (b 12) (b 13) (b 14) (b 15) D
  unfold backOf
  clear T D b hb
  generalize bval (xs.take 8) = U at *
  generalize bval ((xs.drop 8).take 8) = V at *
  have q : (wrap64 U * 18446744073709551616 + V) / 18446744073709551616 = wrap64 U := by omega
  have r : (wrap64 U * 18446744073709551616 + V) % 18446744073709551616 = V := by omega
  refine ⟨by unfold Fits2 wrap64; omega, ?_⟩
  have hi : ∀ c : Int, 0 < c → (wrap64 U * 18446744073709551616 + V) / (18446744073709551616 * c) = wrap64 U / c := fun c hc => by
    rw [← Int.ediv_ediv_of_nonneg (by decide), q]
  rw [wlist_eq, e]
  unfold wbyte
  simp only [Nat.reduceSub, Int.reducePow]
  have w0 : wrap64 U / 72057594037927936 % 256 = lim xs 0 := by rw [← t0]; unfold wrap64; omega
  have w1 : wrap64 U / 281474976710656 % 256 = lim xs 1 := by rw [← t1]; unfold wrap64; omega
  have w2 : wrap64 U / 1099511627776 % 256 = lim xs 2 := by rw [← t2]; unfold wrap64; omega
  have w3 : wrap64 U / 4294967296 % 256 = lim xs 3 := by rw [← t3]; unfold wrap64; omega
  have w4 : wrap64 U / 16777216 % 256 = lim xs 4 := by rw [← t4]; unfold wrap64; omega
  have w5 : wrap64 U / 65536 % 256 = lim xs 5 := by rw [← t5]; unfold wrap64; omega
  have w6 : wrap64 U / 256 % 256 = lim xs 6 := by rw [← t6]; unfold wrap64; omega
  have w7 : wrap64 U % 256 = lim xs 7 := by rw [← t7]; unfold wrap64; omega
  generalize wrap64 U * 18446744073709551616 + V = Z at *
  have h0 : Z / 1329227995784915872903807060280344576 = wrap64 U / 72057594037927936 := hi 72057594037927936 (by decide)
  have h1 : Z / 5192296858534827628530496329220096 = wrap64 U / 281474976710656 := hi 281474976710656 (by decide)
  have h2 : Z / 20282409603651670423947251286016 = wrap64 U / 1099511627776 := hi 1099511627776 (by decide)
  have h3 : Z / 79228162514264337593543950336 = wrap64 U / 4294967296 := hi 4294967296 (by decide)
  have h4 : Z / 309485009821345068724781056 = wrap64 U / 16777216 := hi 16777216 (by decide)
  have h5 : Z / 1208925819614629174706176 = wrap64 U / 65536 := hi 65536 (by decide)
  have h6 : Z / 4722366482869645213696 = wrap64 U / 256 := hi 256 (by decide)
  have v0 : Z / 72057594037927936 % 256 = lim xs 8 := by rw [← d0]; omega
  have v1 : Z / 281474976710656 % 256 = lim xs 9 := by rw [← d1]; omega
  have v2 : Z / 1099511627776 % 256 = lim xs 10 := by rw [← d2]; omega
  have v3 : Z / 4294967296 % 256 = lim xs 11 := by rw [← d3]; omega
  have v4 : Z / 16777216 % 256 = lim xs 12 := by rw [← d4]; omega
  have v5 : Z / 65536 % 256 = lim xs 13 := by rw [← d5]; omega
  have v6 : Z / 256 % 256 = lim xs 14 := by rw [← d6]; omega
  have v7 : Z % 256 = lim xs 15 := by rw [← d7]; omega
  rw [h0, h1, h2, h3, h4, h5, h6, q, w0, w1, w2, w3, w4, w5, w6, w7, v0, v1, v2, v3, v4, v5, v6, Int.ediv_one, v7]
theorem Blks.below' {w W W' : World} {l : List (Nat × Obj)} (_ : Blks w w l) (h : Below w.heap.size w W) (hb : Below W.heap.size W W') : Blks w W' [] := ⟨h.trans (hb.mono h.size), fun _ h => by cases h⟩
def ByAt (w : World) (L : List (Nat × Obj)) (xs ys : List Int) (f i : Value) (wr : World) : Prop := ∃ k : Nat, k ≤ 16 ∧ i = .int .i64 k ∧ f = .int .i64 (lexTo xs ys k) ∧ Blks w wr L
theorem Blks.cons {w W : World} {l : List (Nat × Obj)} {g : Nat} {o : Obj} (h : Blks w W l) (hg : W.heap[g]? = some o) : Blks w W ((g, o) :: l) :=
  ⟨h.1, fun x hx => by
    rcases List.mem_cons.1 hx with rfl | hx
    · exact hg
    · exact h.2 x hx⟩

set_option maxRecDepth 100000 in
set_option maxHeartbeats 4000000 in
theorem wideBytesLaw_any (a b : Int) (A : Option Addr) (n c : Nat) (xs : List Int) (w : World) (htab : PowTab w) (ha : Fits2 a) (hb : Fits2 b) (_ : A = none → n = 0 ∧ c = 0) (h : IsBys w (.slice A n c) xs) (hn : xs.length = n) (hf : Bytes8 xs) :
    Calls Tryd.prog 6 #[wideV a, wideV b, .slice A n c] w fun e w' => e = .returned (.bool true) ∧ Below w.heap.size w w' := by
  have T := hid (fun W (hW : Below w.heap.size w W) => PowTab.below htab hW)
  have HA := hid ha
  have HB := hid hb
  have C1 := hid (fun W => wideBytes_any a W ha)
  have C2 := hid (fun W => wideBytes_any b W hb)
  have C3 := hid (fun W => wideCmp_any a b W ha hb)
  have SG := hid (wbyte_sign ha)
  have OR := hid (bytes_order ha hb)
  have HX := hid h
  have HN := hid hn
  have HF := hid hf
  have hnm : n ≤ 9223372036854775807 := by
    obtain ⟨A', c', hv, hl, hm, -⟩ := h
    injection hv with _ hv1 hv2
    unfold maxLen at hm
    omega
  clear htab ha hb h hn hf
  unfold wideV at C1 C2 C3 ⊢
  have B := hid (Blks.two w (.cells #[.int .i64 (a / 18446744073709551616), .int .u64 (a % 18446744073709551616)] 24) (.cells #[.int .i64 (b / 18446744073709551616), .int .u64 (b % 18446744073709551616)] 24))
  go_enter Tryd.func6, Tryd.ntmps6
  go_wp2_with fail
  refine (alive_any _ (T.out _ B.out.bel)).mono ?_
  rintro e w1 ⟨rfl, b1⟩
  replace B := hid (B.out.below b1)
  clear b1 T
  obtain ⟨a0, a1⟩ := B.out.c2 mem1
  go_wp2_with fail
  clear a0 a1
  refine (C1.out _).mono ?_
  rintro e w2 ⟨rfl, b1, hh⟩
  replace B := hid (show Blks w w2 ((w1.heap.size + 1, Obj.cells (bowOf (wlist a 8)) 5 (0, 0)) :: [(w.heap.size + 1, Obj.cells #[.int .i64 (b / 18446744073709551616), .int .u64 (b % 18446744073709551616)] 24 (0, 0)), (w.heap.size, Obj.cells #[.int .i64 (a / 18446744073709551616), .int .u64 (a % 18446744073709551616)] 24 (0, 0))]) from Blks.cons (B.out.below b1) hh)
  clear b1 hh
  obtain ⟨b0, b1⟩ := B.out.c2 mem1
  go_wp2_with fail
  clear b0 b1
  refine (C2.out _).mono ?_
  rintro e w3 ⟨rfl, b1, hh⟩
  replace B := hid (show Blks w w3 ((w2.heap.size + 1, Obj.cells (bowOf (wlist b 8)) 5 (0, 0)) :: (w1.heap.size + 1, Obj.cells (bowOf (wlist a 8)) 5 (0, 0)) :: [(w.heap.size + 1, Obj.cells #[.int .i64 (b / 18446744073709551616), .int .u64 (b % 18446744073709551616)] 24 (0, 0)), (w.heap.size, Obj.cells #[.int .i64 (a / 18446744073709551616), .int .u64 (a % 18446744073709551616)] 24 (0, 0))]) from Blks.cons (B.out.below b1) hh)
  clear b1 hh C1 C2
  go_wp2_with fail
  refine (copyBytes_any _ 16 16 (wlist a 8) _ (by intro q; cases q) (wlist_length a 8) (by decide) (B.out.isBys mem1 (wlist_length a 8) (by decide))).mono ?_
  rintro e w4 ⟨v4, rfl, l4, b1⟩
  replace B := hid (B.out.below b1)
  have I4 := hid (IsBys.of_own (wlist_length a 8) l4)
  clear b1 l4
  go_wp2_with fail
  refine (wideBack_yes v4 (wlist a 8) _ I4.out (wlist_bytes a) (wlist_length a 8)).mono ?_
  rw [back_bytes HA.out]
  unfold wideV
  rintro e w5 ⟨rfl, b1⟩
  replace B := hid ((B.out.below b1).add (.cells #[.int .i64 (a / 18446744073709551616), .int .u64 (a % 18446744073709551616)] 24))
  clear b1 I4
  go_upto_region 6 with fail
  go_cut [53] (fun v wr => v = .bool false ∧ Hid (Blks w wr [(w2.heap.size + 1, Obj.cells (bowOf (wlist b 8)) 5 (0, 0)), (w1.heap.size + 1, Obj.cells (bowOf (wlist a 8)) 5 (0, 0)), (w.heap.size + 1, Obj.cells #[.int .i64 (b / 18446744073709551616), .int .u64 (b % 18446744073709551616)] 24 (0, 0)), (w.heap.size, Obj.cells #[.int .i64 (a / 18446744073709551616), .int .u64 (a % 18446744073709551616)] 24 (0, 0))]))
  case first =>
    have B2 := hid (B.out.sub (m := [(w2.heap.size + 1, Obj.cells (bowOf (wlist b 8)) 5 (0, 0)), (w1.heap.size + 1, Obj.cells (bowOf (wlist a 8)) 5 (0, 0)), (w.heap.size + 1, Obj.cells #[.int .i64 (b / 18446744073709551616), .int .u64 (b % 18446744073709551616)] 24 (0, 0)), (w.heap.size, Obj.cells #[.int .i64 (a / 18446744073709551616), .int .u64 (a % 18446744073709551616)] 24 (0, 0))]) fun x hx => List.mem_cons_of_mem _ hx)
    have x0 := B.out.bow mem2 (j := 0) (by rw [wlist_length]; decide)
    rw [show lim (wlist a 8) 0 = wbyte a 0 from rfl] at x0
    obtain ⟨d0, d1⟩ := B.out.c2 mem0
    obtain ⟨a0, a1⟩ := B.out.c2 mem4
    have sg := SG.out
    clear C3 OR HX HF SG B
    generalize wbyte a 0 = x at *
    generalize a / 18446744073709551616 = ah at *
    generalize a % 18446744073709551616 = al at *
    by_cases hs : ah < 0
    · have hx := sg.2 hs
      clear sg
      go_quiet (fail)
      go_wp2_with fail
      go_meet
      exact ⟨rfl, B2.out.below ⟨rfl, rfl, rfl, Nat.le_refl _, fun _ _ => rfl⟩⟩
    · have hx : ¬ 127 < x := fun t => hs (sg.1 t)
      clear sg
      go_quiet (fail)
      go_wp2_with fail
      go_meet
      exact ⟨rfl, B2.out.below ⟨rfl, rfl, rfl, Nat.le_refl _, fun _ _ => rfl⟩⟩
  case rest =>
    obtain ⟨rfl, B⟩ := hcut
    clear SG
    go_wp2_with fail
    obtain ⟨L, hL, B⟩ := B.out.letter
    go_loopw [11, 12] (fun f i wr => ByAt w L (wlist a 8) (wlist b 8) f i wr) (fun _ i _ => 16 - (intOf i).toNat)
    case atStart => exact ⟨0, by omega, rfl, rfl, B.out⟩
    case round =>
      obtain ⟨k, hk, rfl, rfl, hB⟩ := hrel
      replace B := hid hB
      clear hB
      by_cases hlt : k < 16 ∧ lexTo (wlist a 8) (wlist b 8) k = 0
      · obtain ⟨hlt, hz⟩ := hlt
        have x0 := (show Blks w wr _ by have := B.out; rw [hL.out] at this; exact this).bow mem1 (j := k) (by rw [wlist_length]; exact hlt)
        have y0 := (show Blks w wr _ by have := B.out; rw [hL.out] at this; exact this).bow mem0 (j := k) (by rw [wlist_length]; exact hlt)
        have LX := hid (show lexTo (wlist a 8) (wlist b 8) (k + 1) = if lim (wlist b 8) k < lim (wlist a 8) k then 1 else if lim (wlist a 8) k < lim (wlist b 8) k then -1 else 0 from if_neg (by rw [hz]; decide))
        rw [hz]
        clear hz C3 OR HX HF
        generalize lim (wlist a 8) k = X at *
        generalize lim (wlist b 8) k = Y at *
        rcases Int.lt_trichotomy X Y with g | g | g
        · have LX1 := hid (show lexTo (wlist a 8) (wlist b 8) (k + 1) = -1 by rw [LX.out, if_neg (by omega), if_pos g])
          clear LX
          have g2 : ¬ Y < X := by omega
          go_wp2_with fail
          go_quiet (fail)
          go_wp2_with fail
          go_quiet (fail)
          go_wp2_with fail
          go_roundw
          case rel => exact ⟨k + 1, by omega, by go_num, by rw [LX1.out], B.out.below ⟨rfl, rfl, rfl, Nat.le_refl _, fun _ _ => rfl⟩⟩
          case measure => simp [intOf]; omega
        · have LX1 := hid (show lexTo (wlist a 8) (wlist b 8) (k + 1) = 0 by rw [LX.out, if_neg (by omega), if_neg (by omega)])
          subst g
          clear LX
          go_wp2_with fail
          go_quiet (fail)
          go_wp2_with fail
          go_quiet (fail)
          go_wp2_with fail
          go_roundw
          case rel => exact ⟨k + 1, by omega, by go_num, by rw [LX1.out], B.out.below ⟨rfl, rfl, rfl, Nat.le_refl _, fun _ _ => rfl⟩⟩
          case measure => simp [intOf]; omega
        · have LX1 := hid (show lexTo (wlist a 8) (wlist b 8) (k + 1) = 1 by rw [LX.out, if_pos g])
          clear LX
          have g2 : ¬ X < Y := by omega
          go_wp2_with fail
          go_quiet (fail)
          go_wp2_with fail
          go_quiet (fail)
          go_wp2_with fail
          go_roundw
          case rel => exact ⟨k + 1, by omega, by go_num, by rw [LX1.out], B.out.below ⟨rfl, rfl, rfl, Nat.le_refl _, fun _ _ => rfl⟩⟩
          case measure => simp [intOf]; omega
      · have FIN := hid (show lexTo (wlist a 8) (wlist b 8) k = lexTo (wlist a 8) (wlist b 8) 16 by
          by_cases h16 : k < 16
          · have := lexTo_stay (xs := wlist a 8) (ys := wlist b 8) (k := k) (fun e => hlt ⟨h16, e⟩) (16 - k)
            rw [show k + (16 - k) = 16 by omega] at this
            exact this.symm
          · rw [show k = 16 by omega])
        have FO := hid (show (a / 18446744073709551616 < 0 ↔ b / 18446744073709551616 < 0) → lexTo (wlist a 8) (wlist b 8) k = cmpOf a b from fun q => by rw [FIN.out]; exact OR.out q)
        have B5 := hid (show Blks w wr [(w2.heap.size + 1, Obj.cells (bowOf (wlist b 8)) 5 (0, 0)), (w1.heap.size + 1, Obj.cells (bowOf (wlist a 8)) 5 (0, 0)), (w.heap.size + 1, Obj.cells #[.int .i64 (b / 18446744073709551616), .int .u64 (b % 18446744073709551616)] 24 (0, 0)), (w.heap.size, Obj.cells #[.int .i64 (a / 18446744073709551616), .int .u64 (a % 18446744073709551616)] 24 (0, 0))] from by have := B.out; rw [hL.out] at this; exact this)
        clear FIN OR hL B
        generalize lexTo (wlist a 8) (wlist b 8) k = f at *
        generalize cmpOf a b = cm at *
        generalize a / 18446744073709551616 = ah at *
        generalize a % 18446744073709551616 = al at *
        generalize b / 18446744073709551616 = bh at *
        generalize b % 18446744073709551616 = bl at *
        have hcase : ¬ (k : Int) < 16 ∨ ((k : Int) < 16 ∧ (f == 0) = false) := by
          by_cases h16 : k < 16
          · exact .inr ⟨by omega, beq_eq_false_iff_ne.2 fun e => hlt ⟨h16, e⟩⟩
          · exact .inl (by omega)
        clear hlt
        obtain ⟨a0, a1⟩ := B5.out.c2 mem3
        obtain ⟨b0, b1⟩ := B5.out.c2 mem2
        rcases hcase with hc | ⟨hc, hc2⟩
        all_goals
          go_upto_region 16 with fail
          clear a0 a1 b0 b1
          obtain ⟨wx, rfl⟩ : ∃ wx : World, wx = wr := ⟨_, rfl⟩
          go_cut [93] (fun v wr => v = .bool false ∧ Hid (Below w.heap.size w wr))
          case first =>
            obtain ⟨a0, a1⟩ := B5.out.c2 mem3
            obtain ⟨b0, b1⟩ := B5.out.c2 mem2
            have C3' := C3.out
            have FO' := FO.out
            clear C3 FO HX HF HN hc
            by_cases sa : ah < 0 <;> by_cases sb : bh < 0
            · obtain rfl : f = cm := FO' ⟨fun _ => sb, fun _ => sa⟩
              clear FO'
              go_wp2_with fail
              refine (C3' _).mono ?_
              rintro e w7 ⟨rfl, b7⟩
              go_wp2_with fail
              go_meet
              exact ⟨rfl, B5.out.bel.trans (b7.mono B5.out.bel.size)⟩
            · clear FO' C3'
              go_wp2_with fail
              go_meet
              exact ⟨rfl, B5.out.bel⟩
            · clear FO' C3'
              go_wp2_with fail
              go_meet
              exact ⟨rfl, B5.out.bel⟩
            · obtain rfl : f = cm := FO' ⟨fun h => absurd h sa, fun h => absurd h sb⟩
              clear FO'
              go_wp2_with fail
              refine (C3' _).mono ?_
              rintro e w7 ⟨rfl, b7⟩
              go_wp2_with fail
              go_meet
              exact ⟨rfl, B5.out.bel.trans (b7.mono B5.out.bel.size)⟩
          case rest =>
            obtain ⟨rfl, BZ⟩ := hcut
            clear B5 FO C3 hc
            by_cases h16 : n = 16
            · subst h16
              have BK := back_is HF.out HN.out
              have BI := hid BK
              clear BK
              have WB := hid (wideBack_yes _ xs wc (HX.out.below BZ.out) HF.out HN.out)
              have WY := hid (fun W => wideBytes_any (backOf xs) W BI.out.1)
              unfold wideV at WB WY
              rw [BI.out.2] at WY
              generalize backOf xs / 18446744073709551616 = ch at *
              generalize backOf xs % 18446744073709551616 = cl at *
              go_wp2_with fail
              refine WB.out.mono ?_
              rintro e w8 ⟨rfl, b8⟩
              have B8 := hid (((Blks.nil w).below' BZ.out b8).add (.cells #[.int .i64 ch, .int .u64 cl] 24))
              clear b8 WB
              obtain ⟨d0, d1⟩ := B8.out.c2 mem0
              go_wp2_with fail
              clear d0 d1
              refine (WY.out _).mono ?_
              rintro e w9 ⟨rfl, b9, hh⟩
              replace B8 := hid (show Blks w w9 ((w8.heap.size + 1 + 1, Obj.cells (bowOf xs) 5 (0, 0)) :: [(w8.heap.size, Obj.cells #[.int .i64 ch, .int .u64 cl] 24 (0, 0))]) from Blks.cons (B8.out.below b9) (by simpa using hh))
              clear b9 hh WY
              rw [show (w8.alloc (Obj.cells #[Value.int IntKind.i64 ch, Value.int IntKind.u64 cl] 24)).heap.size + 1 = w8.heap.size + 1 + 1 by simp]
              go_wp2_with fail
              refine (sameBytes_any _ A 16 16 c xs _ HN.out (B8.out.isBys mem0 HN.out (by decide)) (HX.out.below B8.out.bel)).mono ?_
              rintro e w10 ⟨rfl, b10⟩
              replace B8 := hid (B8.out.below b10)
              clear b10
              go_wp2_with fail
              go_ret
              exact ⟨rfl, B8.out.bel⟩
            · have WN := hid (wideBack_no A n c wc h16)
              rw [show wideV 0 = .agg #[.int .i64 0, .int .u64 0] from rfl] at WN
              have q16 : ((n : Int) != 16) = true := by rw [bne_iff_ne]; omega
              go_wp2_with fail
              refine WN.out.mono ?_
              rintro e w8 ⟨rfl, b8⟩
              have B8 := hid (((Blks.nil w).below' BZ.out b8).add (.cells #[.int .i64 0, .int .u64 0] 24))
              clear b8 WN
              obtain ⟨d0, d1⟩ := B8.out.c2 mem0
              go_wp2_with fail
              go_ret
              exact ⟨rfl, B8.out.bel⟩
end Go.Proofs.YtjhekggeofalfaaDoor
