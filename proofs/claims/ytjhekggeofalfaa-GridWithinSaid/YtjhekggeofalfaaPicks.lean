/- noonmarklaw19.GridPicks returns true at every input and writes nothing that was there. -/
import Derived.Test.YtjhekggeofalfaaAlive19
import Derived.Deep.DeepCutAuto
namespace Go.Proofs.Ytjhekggeofalfaa
open Go.RowKit

theorem win_mono {wd p mo s t : Int} (g : gOk wd p mo = true) (h : s ≤ t) : winOf wd p mo s ≤ winOf wd p mo t := by
  rw [winOf, winOf, if_pos g, if_pos g]
  obtain ⟨g1, -⟩ := gOk_iff.1 g
  exact Int.ediv_le_ediv (by omega) h
theorem mid_in {lo hi : Int} (h : lo ≤ hi) : lo ≤ midOf lo hi ∧ midOf lo hi ≤ hi := by rw [midOf, if_pos h]; omega
theorem pk_yes {wd p mo lo hi : Int} (e : pkE wd p mo lo hi = 0) :
    msE wd p mo lo hi = 0 ∧ msA wd p mo lo hi ≤ pkV wd p mo lo hi ∧ pkV wd p mo lo hi ≤ msB wd p mo lo hi ∧ widthOf lo hi ≤ mo ∧ (p = 3 → msA wd p mo lo hi = msB wd p mo lo hi) := by
  by_cases m : msE wd p mo lo hi = 0
  · obtain ⟨g, hle⟩ := msE_zero m
    have a : msA wd p mo lo hi = winOf wd p mo lo := by rw [msA, if_pos m]
    have b : msB wd p mo lo hi = winOf wd p mo hi := by rw [msB, if_pos m]
    have ab := win_mono (p := p) g hle
    obtain ⟨i1, i2⟩ := mid_in hle
    have am := win_mono (p := p) g i1
    have mb := win_mono (p := p) g i2
    by_cases hw : mo < widthOf lo hi
    · have := (pk_wide m hw).1; omega
    · by_cases p0 : p = 0
      · subst p0; have := (pk_0 m hw).2; exact ⟨m, by omega, by omega, by omega, by omega⟩
      · by_cases p1 : p = 1
        · subst p1; have := (pk_1 m hw).2; exact ⟨m, by omega, by omega, by omega, by omega⟩
        · by_cases p2 : p = 2
          · subst p2; have := (pk_2 m hw).2; exact ⟨m, by omega, by omega, by omega, by omega⟩
          · rcases pk_3 m hw p0 p1 p2 with ⟨q1, -, q3⟩ | ⟨-, q2, -⟩
            · exact ⟨m, by omega, by omega, by omega, fun _ => q1⟩
            · omega
  · have := (pk_no m).1; omega
theorem pk_zero {wd p mo lo hi : Int} (e : pkE wd p mo lo hi ≠ 0) : pkV wd p mo lo hi = 0 := by rw [pkV, if_neg e]
theorem pk_same {wd p q mo lo hi : Int} (g : gOk wd q mo = true) (e : pkE wd p mo lo hi = 0) (c : ceOf wd p mo lo hi = true) : pkE wd q mo lo hi = 0 ∧ pkV wd q mo lo hi = pkV wd p mo lo hi := by
  obtain ⟨m, k1, k2, k3, -⟩ := pk_yes e
  obtain ⟨g', hle⟩ := msE_zero m
  have ws : ∀ t, winOf wd q mo t = winOf wd p mo t := fun t => by rw [winOf, winOf, if_pos g, if_pos g']
  have m' : msE wd q mo lo hi = 0 := by rw [msE, if_pos g, if_pos hle]
  have a : msA wd q mo lo hi = msA wd p mo lo hi := by rw [msA, msA, if_pos m, if_pos m', ws]
  have b : msB wd q mo lo hi = msB wd p mo lo hi := by rw [msB, msB, if_pos m, if_pos m', ws]
  have ab : msA wd p mo lo hi = msB wd p mo lo hi := by
    unfold ceOf at c
    rw [Bool.and_eq_true, decide_eq_true_eq, decide_eq_true_eq] at c
    exact c.2
  have e' : pkE wd q mo lo hi = 0 := by
    by_cases p0 : q = 0
    · subst p0; exact (pk_0 m' (by omega)).1
    · by_cases p1 : q = 1
      · subst p1; exact (pk_1 m' (by omega)).1
      · by_cases p2 : q = 2
        · subst p2; exact (pk_2 m' (by omega)).1
        · rcases pk_3 m' (by omega) p0 p1 p2 with ⟨-, q2, -⟩ | ⟨q1, -, -⟩
          · exact q2
          · omega
  obtain ⟨-, k1', k2', -, -⟩ := pk_yes e'
  exact ⟨e', by omega⟩
theorem new_yes {wd q mo : Int} (e : neOf wd q mo = 0) : gOk wd q mo = true ∧ ∀ x, nwOf wd q mo x = x := by
  by_cases g : gOk wd q mo = true
  · exact ⟨g, fun x => by rw [nwOf, if_pos g]⟩
  · rw [neOf, if_neg g] at e; omega

set_option maxRecDepth 100000 in
set_option maxHeartbeats 60000000 in
theorem gridPicks_any (wd p mo lo hi ot : Int) (w : World) (_ : Fits wd) (_ : Fits p) (_ : Fits mo) (h4 : Fits lo) (h5 : Fits hi) (_ : Fits ot) :
    Calls Try.prog 8 #[gridV wd p mo, gapV lo hi, .int .i64 ot] w fun e w' => e = .returned (.bool true) ∧ Below w.heap.size w w' := by
  have H1 := hid h4
  have H2 := hid h5
  clear h4 h5
  have B0 := hid (Blks.two w (.cells #[.int .i64 wd, .int .i64 p, .int .i64 mo] 53) (.cells #[.int .i64 lo, .int .i64 hi] 23))
  have PY := hid (fun e => pk_yes (wd := wd) (p := p) (mo := mo) (lo := lo) (hi := hi) e)
  have PZ := hid (fun e => pk_zero (wd := wd) (p := p) (mo := mo) (lo := lo) (hi := hi) e)
  have PS := hid (fun g e c => pk_same (wd := wd) (p := p) (q := ot) (mo := mo) (lo := lo) (hi := hi) g e c)
  have NY := hid (fun e => new_yes (wd := wd) (q := ot) (mo := mo) e)
  go_enter Try.func8, Try.ntmps8
  go_wp2_with fail
  refine (alive19_any _).mono ?_
  rintro r w1 ⟨rfl, x⟩
  have B := hid (B0.out.below x)
  clear x B0
  obtain ⟨c0, c1, c2⟩ := B.out.c3 mem1
  obtain ⟨d0, d1⟩ := B.out.c2 mem0
  go_wp2_with fail
  refine (gridPick_any wd p mo lo hi _ H1.out H2.out).mono ?_
  by_cases e0 : pkE wd p mo lo hi = 0
  · obtain ⟨k1, k2, k3, k4, k5⟩ := PY.out e0
    obtain ⟨gg, -⟩ := msE_zero k1
    obtain ⟨-, -, -, -, m1, m2⟩ := gOk_iff.1 gg
    have E0 := hid e0
    rw [e0]
    generalize pkV wd p mo lo hi = v at *
    have K1 := hid k1
    have K5 := hid k5
    have KK := hid (⟨k2, k3, k4⟩ : _ ∧ _ ∧ _)
    have UM := hid (show IntKind.u64.wrap mo = mo by rw [u64_wrap]; omega)
    clear e0 k1 k2 k3 k4 k5 gg m1 m2 PY PZ
    rintro r w2 ⟨rfl, x⟩
    replace B := hid (B.out.below x)
    clear x c0 c1 c2 d0 d1
    obtain ⟨c0, c1, c2⟩ := B.out.c3 mem1
    obtain ⟨d0, d1⟩ := B.out.c2 mem0
    go_wp2_with fail
    refine (gridMeets_any wd p mo lo hi _ H1.out H2.out).mono ?_
    rw [K1.out]
    generalize msA wd p mo lo hi = a at *
    generalize msB wd p mo lo hi = b at *
    rintro r w3 ⟨rfl, x⟩
    replace B := hid (B.out.below x)
    clear x c0 c1 c2 d0 d1
    go_upto_region 7 with fail
    go_cut [64] (fun v wr => v = .bool false ∧ Blks w wr [(w.heap.size + 1, .cells #[.int .i64 lo, .int .i64 hi] 23), (w.heap.size, .cells #[.int .i64 wd, .int .i64 p, .int .i64 mo] 53)])
    case first =>
      obtain ⟨L, hL, B⟩ := B.out.letter
      have ne := Wd.some_ B.out
      obtain ⟨a0, a1⟩ := Wd.k2 (w := w) hL mem0
      obtain ⟨b0, b1, b2⟩ := Wd.k3 (w := w) hL mem1
      obtain ⟨k2, k3, k4⟩ := KK.out
      have um := UM.out
      generalize hwd : widthOf lo hi = d at *
      have WD := hid hwd
      have dv1 : decide (v < a) = false := decide_eq_false (by omega)
      have dv2 : decide (b < v) = false := decide_eq_false (by omega)
      have dv3 : decide (mo < d) = false := decide_eq_false (by omega)
      clear hwd PS NY
      by_cases hp : p = 3
      · have q1 : (p == 3) = true := beq_iff_eq.2 hp
        have q2 : (a != b) = false := by rw [K5.out hp]; simp
        have HP := hid hp
        clear hp
        refine wp_region_tame w L B.out (by kernel_rfl) (by kernel_rfl) ?_
        repeat (go_big_quiet_step ((go_at_call 26; exact Calls.tame ((gapWidth_any lo hi _ H1.out H2.out).mono (by rw [WD.out]; exact fun _ _ h => h)))))
        refine wpQuiet_nil (wd_all ?_)
        intro W1 B1
        rw [hL.out] at B1
        go_wp2_with fail
        go_meet
        exact ⟨rfl, B1⟩
      · have q1 : (p == 3) = false := beq_eq_false_iff_ne.2 hp
        have HP := hid hp
        clear hp
        refine wp_region_tame w L B.out (by kernel_rfl) (by kernel_rfl) ?_
        repeat (go_big_quiet_step ((go_at_call 26; exact Calls.tame ((gapWidth_any lo hi _ H1.out H2.out).mono (by rw [WD.out]; exact fun _ _ h => h)))))
        refine wpQuiet_nil (wd_all ?_)
        intro W1 B1
        rw [hL.out] at B1
        go_wp2_with fail
        go_meet
        exact ⟨rfl, B1⟩
    case rest =>
      obtain ⟨rfl, B1⟩ := hcut
      replace B := hid B1
      clear B1 KK K5 UM
      obtain ⟨c0, c1, c2⟩ := B.out.c3 mem1
      go_wp2_with fail
      refine (gridNew_any wd ot mo _).mono ?_
      by_cases n0 : neOf wd ot mo = 0
      · obtain ⟨g, nw⟩ := NY.out n0
        rw [n0, nw, nw, nw]
        have PS2 := hid (PS.out g E0.out)
        clear n0 g nw NY PS
        rintro r w4 ⟨rfl, x⟩
        replace B := hid (B.out.below x)
        replace B := hid (B.out.add (.cells #[.int .i64 wd, .int .i64 ot, .int .i64 mo] 53))
        clear x c0 c1 c2
        obtain ⟨c0, c1, c2⟩ := B.out.c3 mem2
        obtain ⟨d0, d1⟩ := B.out.c2 mem1
        go_wp2_with fail
        refine (gridCertain_any wd p mo lo hi _ H1.out H2.out).mono ?_
        by_cases hc : ceOf wd p mo lo hi = true
        · obtain ⟨j0, jv⟩ := PS2.out hc
          rw [hc]
          have JV := hid jv
          have J0 := hid j0
          clear hc j0 jv PS2
          rintro r w5 ⟨rfl, x⟩
          replace B := hid (B.out.below x)
          clear x c0 c1 c2 d0 d1
          obtain ⟨c0, c1, c2⟩ := B.out.c3 mem0
          obtain ⟨d0, d1⟩ := B.out.c2 mem1
          go_wp2_with fail
          refine (gridPick_any wd ot mo lo hi _ H1.out H2.out).mono ?_
          rw [J0.out, JV.out]
          rintro r w6 ⟨rfl, x⟩
          replace B := hid (B.out.below x)
          clear x c0 c1 c2 d0 d1
          go_wp2_with fail
          go_ret
          exact ⟨rfl, B.out.bel⟩
        · rw [Bool.not_eq_true] at hc
          rw [hc]
          clear hc
          rintro r w5 ⟨rfl, x⟩
          replace B := hid (B.out.below x)
          clear x c0 c1 c2 d0 d1
          go_wp2_with fail
          go_ret
          exact ⟨rfl, B.out.bel⟩
      · generalize neOf wd ot mo = ne at *
        generalize nwOf wd ot mo wd = n1 at *
        generalize nwOf wd ot mo ot = n2 at *
        generalize nwOf wd ot mo mo = n3 at *
        have k0 : (ne == 0) = false := beq_eq_false_iff_ne.2 n0
        have k1 : (ne != 0) = true := bne_iff_ne.2 n0
        clear n0
        rintro r w4 ⟨rfl, x⟩
        replace B := hid (B.out.below x)
        clear x c0 c1 c2
        go_wp2_with fail
        go_ret
        exact ⟨rfl, (B.out.keep _).bel⟩
  · rw [PZ.out e0]
    generalize pkE wd p mo lo hi = pe at *
    have k0 : (pe == 0) = false := beq_eq_false_iff_ne.2 e0
    rintro r w2 ⟨rfl, x⟩
    replace B := hid (B.out.below x)
    clear x c0 c1 c2 d0 d1 e0
    go_wp2_with fail
    go_ret
    exact ⟨rfl, B.out.bel⟩
end Go.Proofs.Ytjhekggeofalfaa
