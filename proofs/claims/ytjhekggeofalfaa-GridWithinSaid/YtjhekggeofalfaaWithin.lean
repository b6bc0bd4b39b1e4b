/- noonmarklaw19.GridWithin returns true at every input and writes nothing that was there. -/
import Derived.Test.YtjhekggeofalfaaPicks
import Derived.Test.YtjhekggeofalfaaPts
import Derived.Test.YtjhekggeofalfaaBack
namespace Go.Proofs.Ytjhekggeofalfaa
open Go.RowKit

theorem mt_within {a b c d : Int} (h1 : Fits a) (h2 : Fits b) (e : mtErr [(a, b), (c, d)] = 0) :
    a ≤ b ∧ a ≤ mtLo [(a, b), (c, d)] ∧ mtLo [(a, b), (c, d)] ≤ mtHi [(a, b), (c, d)] ∧ mtHi [(a, b), (c, d)] ≤ b ∧ Fits (mtLo [(a, b), (c, d)]) ∧ Fits (mtHi [(a, b), (c, d)]) := by
  have l : mtLo [(a, b), (c, d)] = ([(a, b), (c, d)].foldl meet2 meetS).1 := by rw [← mtLo_eq, foldLo, mtErr_eq, if_pos e]
  have u : mtHi [(a, b), (c, d)] = ([(a, b), (c, d)].foldl meet2 meetS).2 := by rw [← mtHi_eq, foldHi, mtErr_eq, if_pos e]
  rw [l, u]
  rw [← mtErr_eq] at e
  unfold foldErr at e
  split at e
  · rename_i hr
    split at e
    · rename_i hle
      have hm := (meet_mem [(a, b), (c, d)] meetS).2 (a, b) (by simp)
      have hab := rightG_mem hr (g := (a, b)) (by simp)
      simp only at hm hab
      obtain ⟨a1, a2⟩ := h1
      obtain ⟨b1, b2⟩ := h2
      exact ⟨hab, hm.1, hle, hm.2, ⟨by omega, by omega⟩, ⟨by omega, by omega⟩⟩
    · omega
  · omega
/-- What a grid says of a gap and of one within it. -/
theorem ms_within {wd p mo a b c d : Int} (g : gOk wd p mo = true) (h1 : a ≤ c) (h2 : c ≤ d) (h3 : d ≤ b) :
    msE wd p mo a b = 0 ∧ msE wd p mo c d = 0 ∧ msA wd p mo a b = winOf wd p mo a ∧ msB wd p mo a b = winOf wd p mo b ∧ msA wd p mo a b ≤ msA wd p mo c d ∧ msB wd p mo c d ≤ msB wd p mo a b ∧ msA wd p mo c d ≤ msB wd p mo c d ∧
      (ceOf wd p mo a b = true → ceOf wd p mo c d = true) := by
  have m1 : msE wd p mo a b = 0 := by rw [msE, if_pos g, if_pos (by omega)]
  have m2 : msE wd p mo c d = 0 := by rw [msE, if_pos g, if_pos h2]
  have e1 : msA wd p mo a b = winOf wd p mo a := by rw [msA, if_pos m1]
  have e2 : msB wd p mo a b = winOf wd p mo b := by rw [msB, if_pos m1]
  have e3 : msA wd p mo c d = winOf wd p mo c := by rw [msA, if_pos m2]
  have e4 : msB wd p mo c d = winOf wd p mo d := by rw [msB, if_pos m2]
  have w1 := win_mono (p := p) g h1
  have w2 := win_mono (p := p) g h2
  have w3 := win_mono (p := p) g h3
  refine ⟨m1, m2, e1, e2, by omega, by omega, by omega, fun h => ?_⟩
  unfold ceOf at *
  rw [Bool.and_eq_true, decide_eq_true_eq, decide_eq_true_eq] at *
  exact ⟨m2, by omega⟩
theorem ms_state {wd p mo a b : Int} (g : gOk wd p mo = false) : msE wd p mo a b = 21 := by rw [msE, g]; rfl
/-- A wider Most refuses no more. -/
theorem pk_wider {wd p mo ms lo hi : Int} (g : gOk wd p ms = true) (h : mo ≤ ms) (e : pkE wd p mo lo hi = 0) : pkE wd p ms lo hi = 0 ∧ pkV wd p ms lo hi = pkV wd p mo lo hi := by
  obtain ⟨m, k1, k2, k3, k4⟩ := pk_yes e
  obtain ⟨g', hle⟩ := msE_zero m
  have ws : ∀ t, winOf wd p ms t = winOf wd p mo t := fun t => by rw [winOf, winOf, if_pos g, if_pos g']
  have m' : msE wd p ms lo hi = 0 := by rw [msE, if_pos g, if_pos hle]
  have a : msA wd p ms lo hi = msA wd p mo lo hi := by rw [msA, msA, if_pos m, if_pos m', ws]
  have b : msB wd p ms lo hi = msB wd p mo lo hi := by rw [msB, msB, if_pos m, if_pos m', ws]
  by_cases p0 : p = 0
  · subst p0
    have x := pk_0 m (by omega); have y := pk_0 m' (by omega)
    exact ⟨y.1, by rw [x.2, y.2, a]⟩
  · by_cases p1 : p = 1
    · subst p1
      have x := pk_1 m (by omega); have y := pk_1 m' (by omega)
      exact ⟨y.1, by rw [x.2, y.2, b]⟩
    · by_cases p2 : p = 2
      · subst p2
        have x := pk_2 m (by omega); have y := pk_2 m' (by omega)
        exact ⟨y.1, by rw [x.2, y.2, ws]⟩
      · rcases pk_3 m (by omega) p0 p1 p2 with ⟨q1, q2, q3⟩ | ⟨-, q2, -⟩
        · rcases pk_3 m' (by omega) p0 p1 p2 with ⟨r1, r2, r3⟩ | ⟨r1, -, -⟩
          · exact ⟨r2, by rw [r3, q3, a]⟩
          · omega
        · omega

set_option maxRecDepth 100000 in
set_option maxHeartbeats 60000000 in
theorem gridWithin_any (wd p mo a b c d ms : Int) (w : World) (_ : Fits wd) (_ : Fits p) (_ : Fits mo) (h4 : Fits a) (h5 : Fits b) (_ : Fits c) (_ : Fits d) (_ : Fits ms) :
    Calls Try.prog 10 #[gridV wd p mo, gapV a b, gapV c d, .int .i64 ms] w fun e w' => e = .returned (.bool true) ∧ Below w.heap.size w w' := by
  have H1 := hid h4
  have H2 := hid h5
  clear h4 h5
  have B0 := hid (Blks.three w (.cells #[.int .i64 wd, .int .i64 p, .int .i64 mo] 53) (.cells #[.int .i64 a, .int .i64 b] 23) (.cells #[.int .i64 c, .int .i64 d] 23))
  have NY := hid (fun e => new_yes (wd := wd) (q := p) (mo := ms) e)
  have PW := hid (fun g h e => pk_wider (wd := wd) (p := p) (mo := mo) (ms := ms) (lo := a) (hi := b) g h e)
  go_enter Try.func10, Try.ntmps10
  go_wp2_with fail
  refine (alive19_any _).mono ?_
  rintro r w1 ⟨rfl, x⟩
  have B := hid (B0.out.below x)
  clear x B0
  obtain ⟨c0, c1⟩ := B.out.c2 mem1
  obtain ⟨d0, d1⟩ := B.out.c2 mem0
  go_wp2_with fail
  refine (gapMeet_any _ _ _ (IsGaps.two w1 a b c d)).mono ?_
  by_cases e0 : mtErr [(a, b), (c, d)] = 0
  · obtain ⟨k1, k2, k3, k4, k5, k6⟩ := mt_within H1.out H2.out e0
    rw [e0]
    generalize mtLo [(a, b), (c, d)] = ml at *
    generalize mtHi [(a, b), (c, d)] = mh at *
    have K := hid (⟨k1, k2, k3, k4⟩ : _ ∧ _ ∧ _ ∧ _)
    have K5 := hid k5
    have K6 := hid k6
    clear k1 k2 k3 k4 k5 k6 e0
    rintro r w2 ⟨rfl, x⟩
    replace B := hid ((B.out.keep _).below x)
    replace B := hid (B.out.add (.cells #[.int .i64 ml, .int .i64 mh] 23))
    clear x c0 c1 d0 d1
    obtain ⟨c0, c1⟩ := B.out.c2 mem2
    obtain ⟨d0, d1, d2⟩ := B.out.c3 mem3
    go_wp2_with fail
    refine (gridMeets_any wd p mo a b _ H1.out H2.out).mono ?_
    rcases hg : gOk wd p mo with _ | _
    · rw [ms_state hg]
      generalize msA wd p mo a b = ma
      generalize msB wd p mo a b = mb
      have G := hid hg
      clear hg
      rintro r w3 ⟨rfl, x⟩
      replace B := hid (B.out.below x)
      clear x c0 c1 d0 d1 d2
      obtain ⟨c0, c1⟩ := B.out.c2 mem0
      obtain ⟨d0, d1, d2⟩ := B.out.c3 mem3
      go_wp2_with fail
      refine (gridMeets_any wd p mo ml mh _ K5.out K6.out).mono ?_
      rw [ms_state G.out]
      generalize msA wd p mo ml mh = mc
      generalize msB wd p mo ml mh = md
      rintro r w4 ⟨rfl, x⟩
      replace B := hid (B.out.below x)
      clear x c0 c1 d0 d1 d2
      go_wp2_with fail
      go_ret
      exact ⟨rfl, B.out.bel⟩
    · obtain ⟨m1, m2, m3, m4, m5, m6, m7, m8⟩ := ms_within hg K.out.2.1 K.out.2.2.1 K.out.2.2.2
      have m9 := win_mono hg K.out.1
      rw [m1]
      rw [← m3, ← m4] at m9
      have M2 := hid m2
      have M3 := hid m3
      have M4 := hid m4
      have M8 := hid m8
      have G := hid hg
      generalize msA wd p mo a b = ma at *
      generalize msB wd p mo a b = mb at *
      generalize hmc : msA wd p mo ml mh = mc at *
      generalize hmd : msB wd p mo ml mh = md at *
      have MC := hid hmc
      have MD := hid hmd
      clear hmc hmd
      have MM := hid (⟨m5, m6, m7, m9⟩ : _ ∧ _ ∧ _ ∧ _)
      clear m1 m2 m3 m4 m5 m6 m7 m8 m9 hg
      rintro r w3 ⟨rfl, x⟩
      replace B := hid (B.out.below x)
      clear x c0 c1 d0 d1 d2
      obtain ⟨c0, c1⟩ := B.out.c2 mem0
      obtain ⟨d0, d1, d2⟩ := B.out.c3 mem3
      go_wp2_with fail
      refine (gridMeets_any wd p mo ml mh _ K5.out K6.out).mono ?_
      rw [M2.out, MC.out, MD.out]
      rintro r w4 ⟨rfl, x⟩
      replace B := hid (B.out.below x)
      clear x c0 c1 d0 d1 d2
      go_upto_region 12 with fail
      go_cut [89] (fun v wr => v = .bool false ∧ Blks w wr [(w2.heap.size, .cells #[.int .i64 ml, .int .i64 mh] 23), (w.heap.size + 1 + 1, .cells #[.int .i64 c, .int .i64 d] 23), (w.heap.size + 1, .cells #[.int .i64 a, .int .i64 b] 23), (w.heap.size, .cells #[.int .i64 wd, .int .i64 p, .int .i64 mo] 53)])
      case first =>
        obtain ⟨L, hL, B⟩ := B.out.letter
        have ne := Wd.some_ B.out
        obtain ⟨a0, a1⟩ := Wd.k2 (w := w) hL mem2
        obtain ⟨e0, e1⟩ := Wd.k2 (w := w) hL mem0
        obtain ⟨b0, b1, b2⟩ := Wd.k3 (w := w) hL mem3
        obtain ⟨m5, m6, m7, m9⟩ := MM.out
        have q1 : decide (mc < ma) = false := decide_eq_false (by omega)
        have q2 : decide (mb < md) = false := decide_eq_false (by omega)
        have q3 : decide (md < mc) = false := decide_eq_false (by omega)
        have q4 : decide (mb < ma) = false := decide_eq_false (by omega)
        clear MM PW NY
        rcases hc : ceOf wd p mo a b with _ | _
        · have C := hid hc
          clear hc M8
          refine wp_region_tame w L B.out (by kernel_rfl) (by kernel_rfl) ?_
          repeat (go_big_quiet_step (first
            | (go_at_call 41; with_reducible exact Calls.tame ((gridWindow_any wd p mo a _ H1.out).mono (by rw [← M3.out]; exact fun _ _ h => h)))
            | (go_at_call 41; with_reducible exact Calls.tame ((gridWindow_any wd p mo b _ H2.out).mono (by rw [← M4.out]; exact fun _ _ h => h)))
            | (go_at_call 43; with_reducible exact Calls.tame ((gridCertain_any wd p mo a b _ H1.out H2.out).mono (by rw [C.out]; exact fun _ _ h => h)))))
          refine wpQuiet_nil (wd_all ?_)
          intro W1 B1
          rw [hL.out] at B1
          go_wp2_with fail
          go_meet
          exact ⟨rfl, B1⟩
        · have C := hid hc
          have C2 := hid (M8.out hc)
          clear hc M8
          refine wp_region_tame w L B.out (by kernel_rfl) (by kernel_rfl) ?_
          repeat (go_big_quiet_step (first
            | (go_at_call 41; with_reducible exact Calls.tame ((gridWindow_any wd p mo a _ H1.out).mono (by rw [← M3.out]; exact fun _ _ h => h)))
            | (go_at_call 41; with_reducible exact Calls.tame ((gridWindow_any wd p mo b _ H2.out).mono (by rw [← M4.out]; exact fun _ _ h => h)))
            | (go_at_call 43; with_reducible exact Calls.tame ((gridCertain_any wd p mo a b _ H1.out H2.out).mono (by rw [C.out]; exact fun _ _ h => h)))
            | (go_at_call 43; with_reducible exact Calls.tame ((gridCertain_any wd p mo ml mh _ K5.out K6.out).mono (by rw [C2.out]; exact fun _ _ h => h)))))
          refine wpQuiet_nil (wd_all ?_)
          intro W1 B1
          rw [hL.out] at B1
          go_wp2_with fail
          go_meet
          exact ⟨rfl, B1⟩
      case rest =>
        obtain ⟨rfl, B1⟩ := hcut
        replace B := hid B1
        clear B1 MM M2 M3 M4 M8
        obtain ⟨d0, d1, d2⟩ := B.out.c3 mem3
        go_wp2_with fail
        refine (gridNew_any wd p ms _).mono ?_
        by_cases n0 : neOf wd p ms = 0
        · obtain ⟨g, nw⟩ := NY.out n0
          rw [n0, nw, nw, nw]
          have PW2 := hid (PW.out g)
          clear n0 g nw NY PW
          rintro r w4 ⟨rfl, x⟩
          replace B := hid (B.out.below x)
          replace B := hid (B.out.add (.cells #[.int .i64 wd, .int .i64 p, .int .i64 ms] 53))
          clear x d0 d1 d2
          obtain ⟨d0, d1, d2⟩ := B.out.c3 mem4
          obtain ⟨c0, c1⟩ := B.out.c2 mem3
          by_cases hm : ms < mo
          · have q1 : decide (ms < mo) = true := decide_eq_true hm
            clear hm
            go_wp2_with fail
            go_ret
            exact ⟨rfl, B.out.bel⟩
          · have q1 : decide (ms < mo) = false := decide_eq_false hm
            have PW3 := hid (PW2.out (by omega))
            clear hm PW2
            go_wp2_with fail
            refine (gridPick_any wd p mo a b _ H1.out H2.out).mono ?_
            by_cases j0 : pkE wd p mo a b = 0
            · obtain ⟨k0, kv⟩ := PW3.out j0
              have K0 := hid k0
              have KV := hid kv
              rw [j0]
              clear j0 k0 kv PW3
              rintro r w5 ⟨rfl, x⟩
              replace B := hid (B.out.below x)
              clear x c0 c1 d0 d1 d2
              obtain ⟨d0, d1, d2⟩ := B.out.c3 mem0
              obtain ⟨c0, c1⟩ := B.out.c2 mem3
              go_wp2_with fail
              refine (gridPick_any wd p ms a b _ H1.out H2.out).mono ?_
              rw [K0.out, KV.out]
              generalize pkV wd p mo a b = v
              rintro r w6 ⟨rfl, x⟩
              replace B := hid (B.out.below x)
              clear x c0 c1 d0 d1 d2
              go_wp2_with fail
              go_ret
              exact ⟨rfl, B.out.bel⟩
            · generalize pkE wd p mo a b = pe at *
              generalize pkV wd p mo a b = pv at *
              have q2 : (pe != 0) = true := bne_iff_ne.2 j0
              clear j0 PW3
              rintro r w5 ⟨rfl, x⟩
              replace B := hid (B.out.below x)
              clear x c0 c1 d0 d1 d2
              obtain ⟨d0, d1, d2⟩ := B.out.c3 mem0
              obtain ⟨c0, c1⟩ := B.out.c2 mem3
              go_wp2_with fail
              refine (gridPick_any wd p ms a b _ H1.out H2.out).mono ?_
              generalize pkE wd p ms a b = pe2 at *
              generalize pkV wd p ms a b = pv2 at *
              rintro r w6 ⟨rfl, x⟩
              replace B := hid (B.out.below x)
              clear x c0 c1 d0 d1 d2
              go_wp2_with fail
              go_ret
              exact ⟨rfl, B.out.bel⟩
        · generalize neOf wd p ms = ne at *
          generalize nwOf wd p ms wd = n1 at *
          generalize nwOf wd p ms p = n2 at *
          generalize nwOf wd p ms ms = n3 at *
          have k1 : (ne != 0) = true := bne_iff_ne.2 n0
          clear n0
          rintro r w4 ⟨rfl, x⟩
          replace B := hid (B.out.below x)
          clear x d0 d1 d2
          go_wp2_with fail
          go_ret
          exact ⟨rfl, (B.out.keep _).bel⟩
  · generalize mtErr [(a, b), (c, d)] = me at *
    generalize mtLo [(a, b), (c, d)] = ml at *
    generalize mtHi [(a, b), (c, d)] = mh at *
    have k0 : (me == 0) = false := beq_eq_false_iff_ne.2 e0
    rintro r w2 ⟨rfl, x⟩
    replace B := hid ((B.out.keep _).below x)
    clear x c0 c1 d0 d1 e0
    go_wp2_with fail
    go_ret
    exact ⟨rfl, (B.out.keep _).bel⟩
end Go.Proofs.Ytjhekggeofalfaa
