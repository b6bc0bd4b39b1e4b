/- Contract of noonmarkref01.Mul. -/
import Derived.Test.YtjhekggeofalfaaDoorMulP
import Derived.Test.YtjhekggeofalfaaDoorTame
import Derived.OwnWalk
import Derived.Deep.LoopGhost
namespace Go.Proofs.YtjhekggeofalfaaDoor
open Go.RowKit

theorem mul_fin {x y : Int} {a b xs : List Int} (hva : val a = x.natAbs) (hvb : val b = y.natAbs) {i : Nat} (hi : a.length ≤ i) (hV : val xs = val (a.take i) * val b) : val xs = (x.natAbs : Int) * (y.natAbs : Int) := by
  rw [take_all a hi, hva, hvb] at hV; exact hV
/-- The blocks that stand while the product is made. -/
def mulL (w : World) (p q : Bool) (A B : Option Addr) (n ca m cb : Nat) (xs : List Int) : List (Nat × Obj) :=
  [(w.heap.size + 1 + 1 + 1, .cells (rowOf xs) 3 (0, 0)), (w.heap.size + 1 + 1, .cells #[.bool false, .slice none 0 0] 34 (0, 0)), (w.heap.size + 1, .cells #[.bool q, .slice B m cb] 34 (0, 0)), (w.heap.size, .cells #[.bool p, .slice A n ca] 34 (0, 0))]
theorem size3 (w : World) (o1 o2 o3 : Obj) : (((w.alloc o1).alloc o2).alloc o3).heap.size = w.heap.size + 1 + 1 + 1 := by simp
theorem mulL_tail (w : World) (p q : Bool) (A B : Option Addr) (n ca m cb : Nat) (xs : List Int) : ∀ r ∈ (mulL w p q A B n ca m cb xs).tail, r.1 ≠ w.heap.size + 1 + 1 + 1 := by
  intro r hr
  unfold mulL at hr
  simp only [List.tail_cons, List.mem_cons, List.not_mem_nil, or_false] at hr
  rcases hr with rfl | rfl | rfl <;> simp only <;> omega
/-- At the head of the outer loop. -/
def MulO (w : World) (p q : Bool) (A B : Option Addr) (n ca m cb : Nat) (a b : List Int) (i : Value) (wr : World) : Prop :=
  ∃ (k : Nat) (xs : List Int), k ≤ n ∧ i = .int .i64 k ∧ xs.length = n + m + 1 ∧ Limbs xs ∧ val xs = val (a.take k) * val b ∧ Blks w wr (mulL w p q A B n ca m cb xs)
/-- At the head of the inner loop. -/
def MulI (w : World) (p q : Bool) (A B : Option Addr) (n ca m cb : Nat) (a b xs : List Int) (k : Nat) (c i : Value) (wr : World) : Prop :=
  ∃ (j : Nat) (cc : Int) (ys : List Int), j ≤ m + 1 ∧ i = .int .i64 j ∧ c = .int .i64 cc ∧ 0 ≤ cc ∧ cc < 65536 ∧ (m < j → cc = 0) ∧ ys.length = n + m + 1 ∧ Limbs ys ∧
    val ys + pw (k + j) * cc = val xs + pw k * (lim a k * val (b.take j)) ∧ (∀ r, k + j ≤ r → lim ys r = lim xs r) ∧ Blks w wr (mulL w p q A B n ca m cb ys)

set_option maxRecDepth 100000 in
set_option maxHeartbeats 8000000 in
theorem mul_any (v u : Value) (x y : Int) (w : World) (hv : NumIs w v x) (hu : NumIs w u y) (sx : Small x) (sy : Small y) :
    Calls Tryd.prog 19 #[v, u] w (NumPost w (x * y)) := by
  obtain ⟨i0, hi0, hz0, hz1, hz2⟩ := info_parts infoInt
  obtain ⟨s, a, rfl, hr, hc, hva⟩ := hv
  obtain ⟨t, b, rfl, hr', hc', hvb⟩ := hu
  have HR := hid hr
  have HR' := hid hr'
  have la := small_len sx hc hva
  have lb := small_len sy hc' hvb
  have LA := hid hc.limbs
  have LB := hid hc'.limbs
  have SG := hid (fun p q => sign_num p q x y)
  have VA := hid hva
  have VB := hid hvb
  generalize hp : decide (x < 0) = p at *
  generalize hq : decide (y < 0) = q at *
  have HP := hid hp
  have HQ := hid hq
  obtain ⟨A, ca, rfl, ha1, ha2, -⟩ := hr
  obtain ⟨B, cb, rfl, hb1, hb2, -⟩ := hr'
  clear hc hc' hva hvb hp hq sx sy ha1 ha2 hb1 hb2
  generalize hna : a.length = n at *
  generalize hnb : b.length = m at *
  have NA := hid hna
  have NB := hid hnb
  clear hna hnb
  go_enter Tryd.func19, Tryd.ntmps19
  go_wp2_with (at_make; go_must (refine wpList_make_full _ rfl _ _ 32 rfl w.heap.size 3 i0 (.int .i64 0) 1 Tryd.underlying32 hi0 hz0 hz1 .i64 .i64 _ _ (n + m + 1) rfl rfl (by omega) (by omega) (by rw [hz2]; omega) (by simp only [maxLen]; omega) (by simp; omega) ?_); intro w2 own2 grow2)
  have B0 := (Blks.three w _ _ _).made grow2 rfl own2
  rw [size3] at B0
  have HB0 := hid B0
  clear own2 grow2 B0
  go_loopw [6] (fun i wr => MulO w p q A B n ca m cb a b i wr) (fun i _ => n - (intOf i).toNat)
  case atStart => exact ⟨0, List.replicate (n + m + 1) 0, Nat.zero_le _, rfl, by simp, limbs_replicate _, by rw [val_replicate]; simp [val], HB0.out⟩
  case round =>
    obtain ⟨k, xs, hk, rfl, hlen, hl, hval, hB⟩ := hrel
    have HLEN := hid hlen
    have HL := hid hl
    have HVAL := hid hval
    have HB := hid hB
    clear hlen hl hval hB HB0
    obtain ⟨c0, c1⟩ := HB.out.c2 mem3
    by_cases hlt : k < n
    · have AB := hid (LA.out.getD k)
      go_wp2_with fail
      obtain ⟨wo, rfl⟩ : ∃ wo : World, wo = wr := ⟨_, rfl⟩
      clear c0 c1
      go_loopw [7, 8] (fun c i wr => MulI w p q A B n ca m cb a b xs k c i wr) (fun _ i _ => m + 2 - (intOf i).toNat)
      case atStart => exact ⟨0, 0, xs, by omega, rfl, rfl, by omega, by omega, fun _ => rfl, HLEN.out, HL.out, by simp [val], fun _ _ => rfl, HB.out⟩
      case round =>
        obtain ⟨j, cc, ys, hj, rfl, rfl, h0, h1, hz, hlen, hl, hval, hsuf, hB⟩ := hrel
        have HZ := hid hz
        have ILEN := hid hlen
        have IL := hid hl
        have IVAL := hid hval
        have ISUF := hid hsuf
        have IB := hid hB
        clear hz hlen hl hval hsuf hB
        obtain ⟨d0, d1⟩ := IB.out.c2 mem2
        have hz1 : 0 < cc → ¬ m < j := fun q r => by have := HZ.out r; omega
        by_cases hb : j < m ∨ 0 < cc
        · have hjm : j ≤ m := by rcases hb with hb | hb; omega; have := hz1 hb; omega
          obtain ⟨s0, s1, s2, s3, s4, s5⟩ := mul_step (b := b) IL.out (show k + j < ys.length by have := ILEN.out; omega) h0 h1 AB.out.1 AB.out.2 LB.out IVAL.out
          have S4 := hid s4
          have S5 := hid s5
          clear s4 s5
          have LIM := hid (IL.out.getD (k + j))
          have BB := hid (LB.out.getD j)
          have PB := hid (prod_bound AB.out.1 AB.out.2 BB.out.1 BB.out.2)
          have ZERO := hid (show m < j + 1 → lim ys (k + j) = 0 ∧ lim b j = 0 from fun r => by
            have e : j = m := by omega
            rw [e]
            exact ⟨(ISUF.out (k + m) (by omega)).trans (lim_zero HL.out (by have := mul_less LA.out LB.out HVAL.out; rw [NB.out] at this; exact this)), getD_out b (by have := NB.out; omega)⟩)
          have OC := hid (show ∀ W l, Blks w W ((w.heap.size + 1 + 1 + 1, .cells (rowOf ys) 3 (0, 0)) :: l) → W.cell? ⟨w.heap.size + 1 + 1 + 1, k + j, none⟩ = some (.int .i64 (lim ys (k + j))) from fun W l h => h.row mem0 (by have := ILEN.out; omega))
          obtain ⟨bA, oA, hA, hbA, hcA⟩ : ∃ b' o', A = some ⟨b', o', none⟩ ∧ b' < w.heap.size ∧ w.cell? ⟨b', o' + k, none⟩ = some (.int .i64 (lim a k)) := by
            obtain ⟨A', c', hv', -, -, hx'⟩ := HR.out
            injection hv' with e1 e2 e3
            subst e1
            obtain ⟨b', o', h1', h2', h3'⟩ := row_cells hx' (by have := NA.out; omega)
            exact ⟨b', o', h1', h2', h3' k (by have := NA.out; omega)⟩
          subst hA
          generalize hai : lim a k = ai at *
          have AI := hid hai
          clear hai
          generalize lim ys (k + j) = yk at *
          generalize hbj : lim b j = bj at *
          have BJ := hid hbj
          clear hbj
          obtain ⟨p0, p1⟩ := PB.out
          obtain ⟨l0, l1⟩ := LIM.out
          have HA := hid (⟨hbA, hcA⟩ : bA < w.heap.size ∧ w.cell? ⟨bA, oA + k, none⟩ = some (.int .i64 ai))
          clear hbA hcA
          by_cases hlt2 : j < m
          all_goals
            have hcc : j < m ∨ (0 < cc ∧ ¬ j < m) := by omega
            first | (have hc0 : 0 < cc := by omega) | skip
            go_wp2_with fail
            clear d0 d1
            obtain ⟨L, hL, IB⟩ := IB.out.letter
            have ne := Wd.some_ IB.out
            obtain ⟨c0, c1⟩ := Wd.k2 (w := w) hL mem3
            obtain ⟨d0, d1⟩ := Wd.k2 (w := w) hL mem2
            have oc : ∀ s : Wd w L, s.now.cell? ⟨w.heap.size + 1 + 1 + 1, k + j, none⟩ = some (.int .i64 yk) := fun s => OC.out _ _ (by rw [← mulL, ← hL.out]; exact s.blks)
            have ac := Wd.arg (l := L) HA.out.2
            refine wp_region_tame w L IB.out (by kernel_rfl) (by kernel_rfl) ?_
            repeat (go_big_quiet_step ((go_at_call 42; exact Calls.tame ((limb_any _ b _ _ (HR'.out.below (Wd.blks _).bel) (by omega) (by have := NB.out; omega)).mono (by rw [Int.toNat_natCast, BJ.out]; rintro e w' ⟨rfl, rfl⟩; exact ⟨rfl, Below.refl _ _⟩)))))
            refine wpQuiet_nil (wd_all ?_)
            intro W1 B1
            rw [hL.out] at B1
            have B1 := hid B1
            clear c0 c1 d0 d1 oc ac ne IB
            have oc := OC.out _ _ B1.out
            have fc := B1.out.fz mem0 (k + j)
            go_wp2_with fail
            go_roundw
            case rel =>
              exact ⟨j + 1, (cc + (yk + ai * bj)) / 65536, ys.set (k + j) ((cc + (yk + ai * bj)) % 65536), by omega, by go_num, rfl, s2, s3,
                fun r => by obtain ⟨z1, z2⟩ := ZERO.out r; rw [z1, z2, Int.mul_zero]; omega, by rw [List.length_set]; exact ILEN.out, S4.out, by rw [AI.out]; exact S5.out,
                fun r hr => (lim_set_ne ys _ (by omega)).trans (ISUF.out r (by omega)), B1.out.store (by omega) (mulL_tail w p q (some ⟨bA, oA, none⟩) B n ca m cb ys) _ _⟩
            case measure => simp [intOf]; omega
        · have hc0 : cc = 0 := by omega
          have hjm : m ≤ j := by omega
          have HC0 := hid hc0
          clear hc0
          go_wp2_with fail
          go_roundw
          case rel => exact ⟨k + 1, ys, by omega, by go_num, ILEN.out, IL.out, (mul_last (b := b) (by have := NB.out; omega) HC0.out IVAL.out).trans (mul_row HVAL.out), IB.out⟩
          case measure => simp [intOf]; omega
    · have hkn : k = n := by omega
      subst hkn
      obtain ⟨d0, d1⟩ := HB.out.c2 mem2
      go_wp2_with fail
      refine (made_any (p != q) _ xs _ (HB.out.isRow mem0 HLEN.out (by simp only [maxLen]; omega)) HL.out).mono ?_
      rintro e w4 ⟨v4, rfl, hn4, hb4⟩
      have F := mul_fin VA.out VB.out (by have := NA.out; omega) HVAL.out
      rw [F, SG.out p q rfl rfl] at hn4
      have N4 := hid hn4
      obtain ⟨s4, d4, rfl, hq4, -⟩ := hn4
      obtain ⟨A4, k4, rfl, -⟩ := hq4
      have B4 := hid (HB.out.below hb4)
      obtain ⟨r0, r1⟩ := B4.out.c2 mem1
      have z0 := B4.out.fz mem1 0
      have z1 := B4.out.fz mem1 1
      have D := hid (res_done (w := w) (g := w.heap.size + 1 + 1) B4.out.bel (by omega) (B4.out.at_ mem1) N4.out)
      clear hb4 F c0 c1 d0 d1
      go_wp2_with fail
      exact bodyPost_ret (v := .agg #[.bool (decide (x * y < 0)), .slice A4 d4.length k4]) (by simp [results, Tryd.results19, go_sem, r0, r1]) rfl ⟨_, rfl, D.out.1, D.out.2⟩
end Go.Proofs.YtjhekggeofalfaaDoor
