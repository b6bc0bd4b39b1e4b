/- Slices of gaps; contracts of gap.fold, Meet, Hull. -/
import Derived.Test.YtjhekggeofalfaaGap3
namespace Go.Proofs.Ytjhekggeofalfaa
open Go.RowKit

/-! ### What they answer -/
abbrev G2 := Int × Int
def rightG (gs : List G2) : Bool := gs.all fun g => decide (g.1 ≤ g.2)
def meet2 (a g : G2) : G2 := (max a.1 g.1, min a.2 g.2)
def hull2 (a g : G2) : G2 := (min a.1 g.1, max a.2 g.2)
def foldErr (f : G2 → G2 → G2) (s : G2) (gs : List G2) : Int :=
  if rightG gs = true then (if (gs.foldl f s).1 ≤ (gs.foldl f s).2 then 0 else 13) else 10
def foldLo (f : G2 → G2 → G2) (s : G2) (gs : List G2) : Int := if foldErr f s gs = 0 then (gs.foldl f s).1 else 0
def foldHi (f : G2 → G2 → G2) (s : G2) (gs : List G2) : Int := if foldErr f s gs = 0 then (gs.foldl f s).2 else 0

/-- In world w the slice value v reads as the gaps gs. -/
def IsGaps (w : World) (v : Value) (gs : List G2) : Prop :=
  ∃ A c, v = .slice A gs.length c ∧ gs.length ≤ c ∧ c ≤ maxLen ∧
    (gs = [] ∨ ∃ b o, A = some ⟨b, o, none⟩ ∧ b < w.heap.size ∧ ∀ i (h : i < gs.length), w.cell? ⟨b, o + i * 2, none⟩ = some (.int .i64 gs[i].1) ∧ w.cell? ⟨b, o + i * 2 + 1, none⟩ = some (.int .i64 gs[i].2))
theorem IsGaps.below {w w' : World} {v : Value} {gs : List G2} (h : IsGaps w v gs) (hb : Below w.heap.size w w') : IsGaps w' v gs := by
  obtain ⟨A, c, hv, hl, hm, hx⟩ := h
  refine ⟨A, c, hv, hl, hm, ?_⟩
  rcases hx with hx | ⟨b, o, hA, hlt, hc⟩
  · exact .inl hx
  · exact .inr ⟨b, o, hA, Nat.lt_of_lt_of_le hlt hb.size, fun i hi => ⟨(hb.cell (p := ⟨b, _, none⟩) hlt).trans (hc i hi).1, (hb.cell (p := ⟨b, _, none⟩) hlt).trans (hc i hi).2⟩⟩
theorem IsGaps.alloc {w : World} {v : Value} {gs : List G2} (h : IsGaps w v gs) (o : Obj) : IsGaps (w.alloc o) v gs := h.below ((Below.refl _ _).alloc (Nat.le_refl _) o)
theorem IsGaps.at_ {w : World} {A : Option Addr} {n c : Nat} {gs : List G2} (h : IsGaps w (.slice A n c) gs) {k : Nat} (hk : k < gs.length) :
    ∃ b o, A = some ⟨b, o, none⟩ ∧ w.cell? ⟨b, o + k * 2, none⟩ = some (.int .i64 gs[k].1) ∧ w.cell? ⟨b, o + k * 2 + 1, none⟩ = some (.int .i64 gs[k].2) := by
  obtain ⟨A', c', hv, hl, hm, hx⟩ := h
  injection hv with e1 e2 e3
  subst e1
  rcases hx with rfl | ⟨b, o, hA, hlt, hc⟩
  · simp at hk
  · exact ⟨b, o, hA, hc k hk⟩

theorem Blks.set2 {w W : World} {g : Nat} {x y : Value} {e : TypeId} {l : List (Nat × Obj)} (h : Blks w W ((g, Obj.cells #[x, y] e (0, 0)) :: l)) (hg : w.heap.size ≤ g) (hl : ∀ p ∈ l, p.1 ≠ g) (x' y' : Value) :
    Blks w ((W.setCell ⟨g, 0, none⟩ x').setCell ⟨g, 1, none⟩ y') ((g, Obj.cells #[x', y'] e (0, 0)) :: l) := by
  refine ⟨below_set2 h.1 hg x' y', fun p hp => ?_⟩
  rcases List.mem_cons.1 hp with rfl | hp
  · have h5 := h.at_ mem0
    simp [World.setCell, Array.getElem?_modify, h5]
  · have := hl p hp
    rw [Below.heap_setCell _ _ _ _ this, Below.heap_setCell _ _ _ _ this]
    exact h.2 p (List.mem_cons_of_mem _ hp)

theorem rightG_snoc (gs : List G2) (k : Nat) (h : k < gs.length) : rightG (gs.take (k + 1)) = (rightG (gs.take k) && decide (gs[k].1 ≤ gs[k].2)) := by
  unfold rightG; rw [List.take_succ_eq_append_getElem h, List.all_append]; simp
theorem fold_snoc (f : G2 → G2 → G2) (s : G2) (gs : List G2) (k : Nat) (h : k < gs.length) : (gs.take (k + 1)).foldl f s = f ((gs.take k).foldl f s) gs[k] := by
  rw [List.take_succ_eq_append_getElem h, List.foldl_append]; rfl
theorem rightG_no (gs : List G2) (k : Nat) (h : k < gs.length) (hn : ¬ gs[k].1 ≤ gs[k].2) : rightG gs = false := by
  unfold rightG
  rw [List.all_eq_false]
  exact ⟨gs[k], List.getElem_mem h, by simpa using hn⟩

set_option maxHeartbeats 1000000 in
theorem meetF_any (a b c d : Int) (w : World) :
    Calls Try.prog 62 #[gapV a b, gapV c d] w fun e w' => e = .returned (gapV (max a c) (min b d)) ∧ Below w.heap.size w w' := by
  by_cases h1 : a < c <;> by_cases h2 : d < b
  · rw [show max a c = c by omega, show min b d = d by omega]
    go_enter Try.func62, Try.ntmps62
    go_wp2
    exact bodyPost_ret (v := gapV c d) (by simp [results, Try.results62, go_sem]) rfl ⟨rfl, (((Below.refl _ _).alloc (Nat.le_refl _) _).alloc (by simp) _).alloc (by simp; omega) _⟩
  · rw [show max a c = c by omega, show min b d = b by omega]
    go_enter Try.func62, Try.ntmps62
    go_wp2
    exact bodyPost_ret (v := gapV c b) (by simp [results, Try.results62, go_sem]) rfl ⟨rfl, (((Below.refl _ _).alloc (Nat.le_refl _) _).alloc (by simp) _).alloc (by simp; omega) _⟩
  · rw [show max a c = a by omega, show min b d = d by omega]
    go_enter Try.func62, Try.ntmps62
    go_wp2
    exact bodyPost_ret (v := gapV a d) (by simp [results, Try.results62, go_sem]) rfl ⟨rfl, (((Below.refl _ _).alloc (Nat.le_refl _) _).alloc (by simp) _).alloc (by simp; omega) _⟩
  · rw [show max a c = a by omega, show min b d = b by omega]
    go_enter Try.func62, Try.ntmps62
    go_wp2
    exact bodyPost_ret (v := gapV a b) (by simp [results, Try.results62, go_sem]) rfl ⟨rfl, (((Below.refl _ _).alloc (Nat.le_refl _) _).alloc (by simp) _).alloc (by simp; omega) _⟩

set_option maxHeartbeats 1000000 in
theorem hullF_any (a b c d : Int) (w : World) :
    Calls Try.prog 63 #[gapV a b, gapV c d] w fun e w' => e = .returned (gapV (min a c) (max b d)) ∧ Below w.heap.size w w' := by
  by_cases h1 : c < a <;> by_cases h2 : b < d
  · rw [show min a c = c by omega, show max b d = d by omega]
    go_enter Try.func63, Try.ntmps63
    go_wp2
    exact bodyPost_ret (v := gapV c d) (by simp [results, Try.results63, go_sem]) rfl ⟨rfl, (((Below.refl _ _).alloc (Nat.le_refl _) _).alloc (by simp) _).alloc (by simp; omega) _⟩
  · rw [show min a c = c by omega, show max b d = b by omega]
    go_enter Try.func63, Try.ntmps63
    go_wp2
    exact bodyPost_ret (v := gapV c b) (by simp [results, Try.results63, go_sem]) rfl ⟨rfl, (((Below.refl _ _).alloc (Nat.le_refl _) _).alloc (by simp) _).alloc (by simp; omega) _⟩
  · rw [show min a c = a by omega, show max b d = d by omega]
    go_enter Try.func63, Try.ntmps63
    go_wp2
    exact bodyPost_ret (v := gapV a d) (by simp [results, Try.results63, go_sem]) rfl ⟨rfl, (((Below.refl _ _).alloc (Nat.le_refl _) _).alloc (by simp) _).alloc (by simp; omega) _⟩
  · rw [show min a c = a by omega, show max b d = b by omega]
    go_enter Try.func63, Try.ntmps63
    go_wp2
    exact bodyPost_ret (v := gapV a b) (by simp [results, Try.results63, go_sem]) rfl ⟨rfl, (((Below.refl _ _).alloc (Nat.le_refl _) _).alloc (by simp) _).alloc (by simp; omega) _⟩

set_option maxRecDepth 20000 in
set_option maxHeartbeats 4000000 in
theorem foldMeet_any (s : G2) (v : Value) (gs : List G2) (w : World) (h : IsGaps w v gs) :
    Calls Try.prog 61 #[gapV s.1 s.2, v, .func (.func 62) #[] #[]] w fun e w' =>
      e = .returned (.tuple #[gapV (foldLo meet2 s gs) (foldHi meet2 s gs), .int .i64 (foldErr meet2 s gs)]) ∧ Below w.heap.size w w' := by
  have H := hid h
  obtain ⟨A, c, rfl, hlc, hm, -⟩ := h
  unfold maxLen at hm
  generalize hn : gs.length = n at *
  have HN := hid hn
  clear hn
  have HB0 := hid (Blks.two w (.cells #[.int .i64 s.1, .int .i64 s.2] 23) (.cells #[.int .i64 0, .int .i64 0] 23))
  go_enter Try.func61, Try.ntmps61
  go_wp2_with fail
  go_loopw [12] (fun i wr => ∃ k : Nat, k ≤ n ∧ i = .int .i64 k ∧ rightG (gs.take k) = true ∧
      Blks w wr [(w.heap.size, .cells #[.int .i64 ((gs.take k).foldl meet2 s).1, .int .i64 ((gs.take k).foldl meet2 s).2] 23), (w.heap.size + 1, .cells #[.int .i64 0, .int .i64 0] 23)])
    (fun i _ => n - (intOf i).toNat)
  case atStart => exact ⟨0, Nat.zero_le _, rfl, rfl, HB0.out.swap⟩
  case round =>
    obtain ⟨k, hk, rfl, hr, hB⟩ := hrel
    have HR := hid hr
    generalize ha : (gs.take k).foldl meet2 s = acc at *
    have HAC := hid ha
    obtain ⟨p, q⟩ := acc
    have HB := hid hB
    clear hr hB ha
    obtain ⟨a0, a1⟩ := HB.out.c2 mem0
    have f0 := HB.out.fz mem0 0
    have f1 := HB.out.fz mem0 1
    by_cases hlt : k < n
    · have hkg : k < gs.length := by have := HN.out; omega
      obtain ⟨b, o, hA, d0, d1⟩ := (H.out.below HB.out.bel).at_ hkg
      have HSN := hid (fold_snoc meet2 s gs k hkg)
      have HRS := hid (rightG_snoc gs k hkg)
      have HNO := hid (rightG_no gs k hkg)
      generalize gs[k] = g at *
      obtain ⟨x, y⟩ := g
      subst hA
      clear hkg
      by_cases hle : x ≤ y
      · go_wp2_with fail
        refine (gapRight_any x y _).mono ?_
        rintro e w2 ⟨rfl, b2⟩
        rw [decide_eq_true hle]
        have B2 := hid ((HB.out.add _).below b2)
        clear b2 a0 a1 f0 f1 d0 d1
        obtain ⟨a0, a1⟩ := B2.out.c2 mem1
        obtain ⟨d0, d1⟩ := B2.out.c2 mem0
        go_wp2_with fail
        refine (meetF_any _ _ _ _ _).mono ?_
        rintro e w1 ⟨rfl, b1⟩
        have B1 := hid ((B2.out.below b1).sub (m := [_, _]) (fun r hr => List.mem_cons_of_mem _ hr))
        clear b1 a0 a1 d0 d1
        obtain ⟨a0, a1⟩ := B1.out.c2 mem0
        have f0 := B1.out.fz mem0 0
        have f1 := B1.out.fz mem0 1
        go_wp2_with fail
        go_roundw
        case rel =>
          refine ⟨k + 1, by omega, by go_num, by rw [HRS.out, HR.out]; simpa using hle, ?_⟩
          rw [HSN.out, HAC.out]
          exact B1.out.set2 (Nat.le_refl _) (by intro r hr; rw [List.mem_singleton] at hr; subst hr; simp) _ _
        case measure => simp [intOf]; omega
      · have HRG := hid (HNO.out hle)
        have E0 := hid (show foldErr meet2 s gs = 10 by rw [foldErr, if_neg (by rw [HRG.out]; decide)])
        go_wp2_with fail
        refine (gapRight_any x y _).mono ?_
        rintro e w2 ⟨rfl, b2⟩
        rw [decide_eq_false (by omega)]
        have B2 := hid ((HB.out.keep _).below b2)
        clear b2 a0 a1 f0 f1 d0 d1
        obtain ⟨r0, r1⟩ := B2.out.c2 mem1
        have z0 := B2.out.fz mem1 0
        have z1 := B2.out.fz mem1 1
        go_wp2_with fail
        exact bodyPost_ret (v := .tuple #[gapV 0 0, .int .i64 10]) (by simp [results, Try.results61, go_sem, r0, r1]) rfl ⟨retge (by rw [foldLo, E0.out]; rfl) (by rw [foldHi, E0.out]; rfl) E0.out.symm, below_set2 B2.out.bel (by omega) _ _⟩
    · have hkn : k = n := by omega
      subst hkn
      have ht : gs.take k = gs := by rw [List.take_of_length_le (by have := HN.out; omega)]
      rw [ht] at HR HAC
      by_cases hle : p ≤ q
      · have E0 := hid (show foldErr meet2 s gs = 0 by rw [foldErr, if_pos HR.out, HAC.out, if_pos hle])
        go_wp2_with fail
        refine (gapRight_any p q _).mono ?_
        rintro e w2 ⟨rfl, b2⟩
        rw [decide_eq_true hle]
        have B2 := hid (HB.out.below b2)
        clear b2 a0 a1 f0 f1
        obtain ⟨a0, a1⟩ := B2.out.c2 mem0
        obtain ⟨r0, r1⟩ := B2.out.c2 mem1
        have z0 := B2.out.fz mem1 0
        have z1 := B2.out.fz mem1 1
        go_wp2_with fail
        exact bodyPost_ret (v := .tuple #[gapV p q, .int .i64 0]) (by simp [results, Try.results61, go_sem, r0, r1]) rfl ⟨retge (by rw [foldLo, E0.out, if_pos rfl, HAC.out]) (by rw [foldHi, E0.out, if_pos rfl, HAC.out]) E0.out.symm, below_set2 B2.out.bel (by omega) _ _⟩
      · have E0 := hid (show foldErr meet2 s gs = 13 by rw [foldErr, if_pos HR.out, HAC.out, if_neg hle])
        go_wp2_with fail
        refine (gapRight_any p q _).mono ?_
        rintro e w2 ⟨rfl, b2⟩
        rw [decide_eq_false (by omega)]
        have B2 := hid (HB.out.below b2)
        clear b2 a0 a1 f0 f1
        obtain ⟨a0, a1⟩ := B2.out.c2 mem0
        obtain ⟨r0, r1⟩ := B2.out.c2 mem1
        have z0 := B2.out.fz mem1 0
        have z1 := B2.out.fz mem1 1
        go_wp2_with fail
        exact bodyPost_ret (v := .tuple #[gapV 0 0, .int .i64 13]) (by simp [results, Try.results61, go_sem, r0, r1]) rfl ⟨retge (by rw [foldLo, E0.out]; rfl) (by rw [foldHi, E0.out]; rfl) E0.out.symm, below_set2 B2.out.bel (by omega) _ _⟩

set_option maxRecDepth 20000 in
set_option maxHeartbeats 4000000 in
theorem foldHull_any (s : G2) (v : Value) (gs : List G2) (w : World) (h : IsGaps w v gs) :
    Calls Try.prog 61 #[gapV s.1 s.2, v, .func (.func 63) #[] #[]] w fun e w' =>
      e = .returned (.tuple #[gapV (foldLo hull2 s gs) (foldHi hull2 s gs), .int .i64 (foldErr hull2 s gs)]) ∧ Below w.heap.size w w' := by
  have H := hid h
  obtain ⟨A, c, rfl, hlc, hm, -⟩ := h
  unfold maxLen at hm
  generalize hn : gs.length = n at *
  have HN := hid hn
  clear hn
  have HB0 := hid (Blks.two w (.cells #[.int .i64 s.1, .int .i64 s.2] 23) (.cells #[.int .i64 0, .int .i64 0] 23))
  go_enter Try.func61, Try.ntmps61
  go_wp2_with fail
  go_loopw [12] (fun i wr => ∃ k : Nat, k ≤ n ∧ i = .int .i64 k ∧ rightG (gs.take k) = true ∧
      Blks w wr [(w.heap.size, .cells #[.int .i64 ((gs.take k).foldl hull2 s).1, .int .i64 ((gs.take k).foldl hull2 s).2] 23), (w.heap.size + 1, .cells #[.int .i64 0, .int .i64 0] 23)])
    (fun i _ => n - (intOf i).toNat)
  case atStart => exact ⟨0, Nat.zero_le _, rfl, rfl, HB0.out.swap⟩
  case round =>
    obtain ⟨k, hk, rfl, hr, hB⟩ := hrel
    have HR := hid hr
    generalize ha : (gs.take k).foldl hull2 s = acc at *
    have HAC := hid ha
    obtain ⟨p, q⟩ := acc
    have HB := hid hB
    clear hr hB ha
    obtain ⟨a0, a1⟩ := HB.out.c2 mem0
    have f0 := HB.out.fz mem0 0
    have f1 := HB.out.fz mem0 1
    by_cases hlt : k < n
    · have hkg : k < gs.length := by have := HN.out; omega
      obtain ⟨b, o, hA, d0, d1⟩ := (H.out.below HB.out.bel).at_ hkg
      have HSN := hid (fold_snoc hull2 s gs k hkg)
      have HRS := hid (rightG_snoc gs k hkg)
      have HNO := hid (rightG_no gs k hkg)
      generalize gs[k] = g at *
      obtain ⟨x, y⟩ := g
      subst hA
      clear hkg
      by_cases hle : x ≤ y
      · go_wp2_with fail
        refine (gapRight_any x y _).mono ?_
        rintro e w2 ⟨rfl, b2⟩
        rw [decide_eq_true hle]
        have B2 := hid ((HB.out.add _).below b2)
        clear b2 a0 a1 f0 f1 d0 d1
        obtain ⟨a0, a1⟩ := B2.out.c2 mem1
        obtain ⟨d0, d1⟩ := B2.out.c2 mem0
        go_wp2_with fail
        refine (hullF_any _ _ _ _ _).mono ?_
        rintro e w1 ⟨rfl, b1⟩
        have B1 := hid ((B2.out.below b1).sub (m := [_, _]) (fun r hr => List.mem_cons_of_mem _ hr))
        clear b1 a0 a1 d0 d1
        obtain ⟨a0, a1⟩ := B1.out.c2 mem0
        have f0 := B1.out.fz mem0 0
        have f1 := B1.out.fz mem0 1
        go_wp2_with fail
        go_roundw
        case rel =>
          refine ⟨k + 1, by omega, by go_num, by rw [HRS.out, HR.out]; simpa using hle, ?_⟩
          rw [HSN.out, HAC.out]
          exact B1.out.set2 (Nat.le_refl _) (by intro r hr; rw [List.mem_singleton] at hr; subst hr; simp) _ _
        case measure => simp [intOf]; omega
      · have HRG := hid (HNO.out hle)
        have E0 := hid (show foldErr hull2 s gs = 10 by rw [foldErr, if_neg (by rw [HRG.out]; decide)])
        go_wp2_with fail
        refine (gapRight_any x y _).mono ?_
        rintro e w2 ⟨rfl, b2⟩
        rw [decide_eq_false (by omega)]
        have B2 := hid ((HB.out.keep _).below b2)
        clear b2 a0 a1 f0 f1 d0 d1
        obtain ⟨r0, r1⟩ := B2.out.c2 mem1
        have z0 := B2.out.fz mem1 0
        have z1 := B2.out.fz mem1 1
        go_wp2_with fail
        exact bodyPost_ret (v := .tuple #[gapV 0 0, .int .i64 10]) (by simp [results, Try.results61, go_sem, r0, r1]) rfl ⟨retge (by rw [foldLo, E0.out]; rfl) (by rw [foldHi, E0.out]; rfl) E0.out.symm, below_set2 B2.out.bel (by omega) _ _⟩
    · have hkn : k = n := by omega
      subst hkn
      have ht : gs.take k = gs := by rw [List.take_of_length_le (by have := HN.out; omega)]
      rw [ht] at HR HAC
      by_cases hle : p ≤ q
      · have E0 := hid (show foldErr hull2 s gs = 0 by rw [foldErr, if_pos HR.out, HAC.out, if_pos hle])
        go_wp2_with fail
        refine (gapRight_any p q _).mono ?_
        rintro e w2 ⟨rfl, b2⟩
        rw [decide_eq_true hle]
        have B2 := hid (HB.out.below b2)
        clear b2 a0 a1 f0 f1
        obtain ⟨a0, a1⟩ := B2.out.c2 mem0
        obtain ⟨r0, r1⟩ := B2.out.c2 mem1
        have z0 := B2.out.fz mem1 0
        have z1 := B2.out.fz mem1 1
        go_wp2_with fail
        exact bodyPost_ret (v := .tuple #[gapV p q, .int .i64 0]) (by simp [results, Try.results61, go_sem, r0, r1]) rfl ⟨retge (by rw [foldLo, E0.out, if_pos rfl, HAC.out]) (by rw [foldHi, E0.out, if_pos rfl, HAC.out]) E0.out.symm, below_set2 B2.out.bel (by omega) _ _⟩
      · have E0 := hid (show foldErr hull2 s gs = 13 by rw [foldErr, if_pos HR.out, HAC.out, if_neg hle])
        go_wp2_with fail
        refine (gapRight_any p q _).mono ?_
        rintro e w2 ⟨rfl, b2⟩
        rw [decide_eq_false (by omega)]
        have B2 := hid (HB.out.below b2)
        clear b2 a0 a1 f0 f1
        obtain ⟨a0, a1⟩ := B2.out.c2 mem0
        obtain ⟨r0, r1⟩ := B2.out.c2 mem1
        have z0 := B2.out.fz mem1 0
        have z1 := B2.out.fz mem1 1
        go_wp2_with fail
        exact bodyPost_ret (v := .tuple #[gapV 0 0, .int .i64 13]) (by simp [results, Try.results61, go_sem, r0, r1]) rfl ⟨retge (by rw [foldLo, E0.out]; rfl) (by rw [foldHi, E0.out]; rfl) E0.out.symm, below_set2 B2.out.bel (by omega) _ _⟩

end Go.Proofs.Ytjhekggeofalfaa
