/- Contract of noonmarkref01.Total. -/
import Derived.Test.YtjhekggeofalfaaDoorLongsW
import Derived.Test.YtjhekggeofalfaaDoorWild
import Derived.Test.YtjhekggeofalfaaDoorMul
import Derived.Test.YtjhekggeofalfaaDoorWide8
namespace Go.Proofs.YtjhekggeofalfaaDoor
open Go.RowKit

theorem sumI_bound (xs : List Int) (hf : ∀ x ∈ xs, Fits x) : ((sumI xs).natAbs : Int) ≤ xs.length * 9223372036854775808 := by
  induction xs with
  | nil => decide
  | cons x t ih =>
    have h1 := ih fun y hy => hf y (List.mem_cons_of_mem _ hy)
    obtain ⟨h2, h3⟩ := hf x (List.mem_cons_self ..)
    rw [show x :: t = [x] ++ t from rfl, sumI_append, show sumI [x] = x by simp [sumI]]
    rw [show (([x] ++ t).length : Int) = t.length + 1 by simp]
    omega
theorem sumI_small (xs : List Int) (hf : ∀ x ∈ xs, Fits x) (h : xs.length ≤ 100) : Small (sumI xs) := by
  have := sumI_bound xs hf
  exact small_of (by omega)
/-- The store of a number into a block of the call's own. -/
theorem NumAt.put {w W : World} {l : List (Nat × Obj)} {g : Nat} {b0 s0 b s : Value} {z : Int} (h : Blks w W ((g, Obj.cells #[b0, s0] 34 (0, 0)) :: l)) (h1 : w.heap.size ≤ g) (h2 : ∀ p ∈ l, p.1 ≠ g)
    (hn : NumIs W (.agg #[b, s]) z) : NumIs ((W.setCell ⟨g, 0, none⟩ b).setCell ⟨g, 1, none⟩ s) (.agg #[b, s]) z ∧ Blks w ((W.setCell ⟨g, 0, none⟩ b).setCell ⟨g, 1, none⟩ s) ((g, Obj.cells #[b, s] 34 (0, 0)) :: l) :=
  ⟨(res_done h.bel h1 (h.at_ mem0) hn).1, Blks.set2 h h1 h2 b s⟩

/-- Region 5: what each operation leaves. -/
def ttφ (bb ss : Value) (b off n c k : Nat) (z s : Int) : Nat → Value → World → Prop
  | 0, v, _ => v = .agg #[bb, ss]
  | 1, v, _ => v = .slice (some ⟨b, off, none⟩) n c
  | 2, v, _ => v = .int .i64 k
  | 3, v, _ => v = .pointer (some ⟨b, off + k, none⟩)
  | 4, v, _ => v = .int .i64 z
  | 5, v, W => NumIs W v z
  | 6, v, W => NumIs W v (s + z)
  | _, _, _ => True
theorem ttφ_stable (bb ss : Value) (b off n c k : Nat) (z s : Int) : ∀ i v W W', Below W.heap.size W W' → ttφ bb ss b off n c k z s i v W → ttφ bb ss b off n c k z s i v W' := by
  intro i v W W' hb h
  match i, h with
  | 0, h => exact h
  | 1, h => exact h
  | 2, h => exact h
  | 3, h => exact h
  | 4, h => exact h
  | 5, h => exact NumIs.below h hb
  | 6, h => exact NumIs.below h hb
  | _ + 7, _ => trivial

def TotAt (w : World) (n : Nat) (xs : List Int) (i : Value) (wr : World) : Prop :=
  ∃ (k : Nat) (b s : Value), k ≤ n ∧ i = .int .i64 k ∧ Blks w wr [(w.heap.size + 1, Obj.cells #[b, s] 34 (0, 0)), (w.heap.size, Obj.cells #[.bool false, .slice none 0 0] 34 (0, 0))] ∧ NumIs wr (.agg #[b, s]) (sumI (xs.take k))
set_option maxRecDepth 100000 in
set_option maxHeartbeats 1000000 in
theorem total_any (v : Value) (xs : List Int) (w : World) (h : IsLongs w v xs) (hf : ∀ x ∈ xs, Fits x) (h100 : xs.length ≤ 100) :
    Calls Tryd.prog 25 #[v] w fun e w' => ∃ v', e = .returned v' ∧ NumIs w' v' (sumI xs) ∧ Below w.heap.size w w' := by
  have H := hid h
  have HF := hid hf
  obtain ⟨A, c, rfl, hlc, hm, -⟩ := h
  unfold maxLen at hm
  generalize hn : xs.length = n at *
  have HN := hid hn
  clear hn hf
  have HB0 := hid (Blks.two w (.cells #[.bool false, .slice none 0 0] 34) (.cells #[.bool false, .slice none 0 0] 34))
  go_enter Tryd.func25, Tryd.ntmps25
  go_wp2_with fail
  go_loopw [4] (fun i wr => TotAt w n xs i wr) (fun i _ => n - (intOf i).toNat)
  case atStart =>
    exact ⟨0, _, _, Nat.zero_le _, rfl, HB0.out, ⟨_, [], rfl, IsRow.nil_ _, Canon.nil, rfl⟩⟩
  case round =>
    obtain ⟨k, bb, ss, hk, rfl, hB, hN⟩ := hrel
    have B := hid hB
    have N := hid hN
    obtain ⟨sA, sds, hv, hrr, -⟩ := hN
    obtain ⟨sB, sc, hsl, -⟩ := hrr
    subst hsl
    injection hv with hv
    injection hv with hv
    injection hv with hv1 hv2
    injection hv2 with hv2
    subst hv1 hv2
    clear hB
    by_cases hlt : k < n
    · have hkx : k < xs.length := by have := HN.out; omega
      obtain ⟨b, off, hA, d0⟩ := H.out.at_ hkx
      have D0 := hid d0
      have FV := hid (HF.out _ (by rw [getD_in _ hkx]; exact List.getElem_mem hkx) : Fits (lim xs k))
      have ST := hid (sumI_take xs k hkx)
      have SM := hid (sumI_small (xs.take k) (fun x hx => HF.out x (List.mem_of_mem_take hx)) (by rw [List.length_take]; omega))
      subst hA
      clear hkx d0
      generalize hbb : Value.bool (decide (sumI (xs.take k) < 0)) = bb at *
      generalize Value.slice sB sds.length sc = ss at *
      clear hbb
      generalize lim xs k = z at *
      generalize sumI (xs.take k) = s at *
      have i0 : (0 : Int) ≤ (k : Int) := by omega
      have i1 : (k : Int) < (n : Int) := by omega
      go_upto_region 5 with fail
      generalize hl : [(w.heap.size, Obj.cells #[.bool false, .slice none 0 0] 34 (0, 0))] = l at B
      have HL := hid hl.symm
      clear hl
      have BW := hid B.out.bel
      have B4 := hid (show Blks wr wr ((w.heap.size + 1, Obj.cells #[bb, ss] 34 (0, 0)) :: l) from ⟨Below.refl _ _, B.out.2⟩)
      replace D0 := hid ((BW.out.cell (cell_in D0.out)).trans D0.out)
      refine wp_region_each wr ((w.heap.size + 1, Obj.cells #[bb, ss] 34 (0, 0)) :: l) 7 (ttφ bb ss b off n c k z s) B4.out _ rfl (by kernel_rfl) (by kernel_rfl) (ttφ_stable bb ss b off n c k z s) ?_ ?_
      · simp only [List.take_succ_cons, List.take_zero]
        refine ⟨fun x W K hB hd hK => ?_, fun x W K hB hd hK => ?_, fun x W K hB hd hK => ?_, fun x W K hB hd hK => ?_, fun x W K hB hd hK => ?_, fun x W K hB hd hK => ?_, fun x W K hB hd hK => ?_, trivial⟩
        · simp only [puts, Act.put, List.setIfInBounds_toArray, List.set_cons_zero, List.set_cons_succ, Nat.reduceAdd, Nat.zero_add] at hK ⊢
          clear hd
          generalize x 0 = x0 at *
          generalize x 1 = x1 at *
          generalize x 2 = x2 at *
          generalize x 3 = x3 at *
          generalize x 4 = x4 at *
          generalize x 5 = x5 at *
          generalize x 6 = x6 at *
          obtain ⟨c0, c1⟩ := hB.c2 mem0
          go_simp
          exact hK _ _ (Below.refl _ _) rfl
        · simp only [puts, Act.put, List.setIfInBounds_toArray, List.set_cons_zero, List.set_cons_succ, Nat.reduceAdd, Nat.zero_add] at hK ⊢
          clear hd
          generalize x 0 = x0 at *
          generalize x 1 = x1 at *
          generalize x 2 = x2 at *
          generalize x 3 = x3 at *
          generalize x 4 = x4 at *
          generalize x 5 = x5 at *
          generalize x 6 = x6 at *
          go_simp
          exact hK _ _ (Below.refl _ _) rfl
        · simp only [puts, Act.put, List.setIfInBounds_toArray, List.set_cons_zero, List.set_cons_succ, Nat.reduceAdd, Nat.zero_add] at hK ⊢
          clear hd
          generalize x 0 = x0 at *
          generalize x 1 = x1 at *
          generalize x 2 = x2 at *
          generalize x 3 = x3 at *
          generalize x 4 = x4 at *
          generalize x 5 = x5 at *
          generalize x 6 = x6 at *
          go_simp
          exact hK _ _ (Below.refl _ _) rfl
        · simp only [puts, Act.put, List.setIfInBounds_toArray, List.set_cons_zero, List.set_cons_succ, Nat.reduceAdd, Nat.zero_add] at hK ⊢
          have d1 : x 1 = .slice (some ⟨b, off, none⟩) n c := hd 1 (by decide)
          have d2 : x 2 = .int .i64 k := hd 2 (by decide)
          clear hd
          generalize x 0 = x0 at *
          generalize x 1 = x1 at *
          generalize x 2 = x2 at *
          generalize x 3 = x3 at *
          generalize x 4 = x4 at *
          generalize x 5 = x5 at *
          generalize x 6 = x6 at *
          subst d1
          subst d2
          go_simp
          exact hK _ _ (Below.refl _ _) rfl
        · simp only [puts, Act.put, List.setIfInBounds_toArray, List.set_cons_zero, List.set_cons_succ, Nat.reduceAdd, Nat.zero_add] at hK ⊢
          have d3 : x 3 = .pointer (some ⟨b, off + k, none⟩) := hd 3 (by decide)
          clear hd
          generalize x 0 = x0 at *
          generalize x 1 = x1 at *
          generalize x 2 = x2 at *
          generalize x 3 = x3 at *
          generalize x 4 = x4 at *
          generalize x 5 = x5 at *
          generalize x 6 = x6 at *
          subst d3
          have c0 := hB.bel.cell (cell_in D0.out) |>.trans D0.out
          go_simp
          exact hK _ _ (Below.refl _ _) rfl
        · simp only [puts, Act.put, List.setIfInBounds_toArray, List.set_cons_zero, List.set_cons_succ, Nat.reduceAdd, Nat.zero_add] at hK ⊢
          have d4 : x 4 = .int .i64 z := hd 4 (by decide)
          clear hd
          generalize x 0 = x0 at *
          generalize x 1 = x1 at *
          generalize x 2 = x2 at *
          generalize x 3 = x3 at *
          generalize x 4 = x4 at *
          generalize x 5 = x5 at *
          generalize x 6 = x6 at *
          subst d4
          go_simp
          refine (of_any z _ FV.out).mono ?_
          rintro e w2 ⟨v2, rfl, n2, b2⟩
          exact hK v2 w2 b2 n2
        · simp only [puts, Act.put, List.setIfInBounds_toArray, List.set_cons_zero, List.set_cons_succ, Nat.reduceAdd, Nat.zero_add] at hK ⊢
          have d0 : x 0 = .agg #[bb, ss] := hd 0 (by decide)
          have d5 : NumIs W (x 5) z := hd 5 (by decide)
          clear hd
          generalize x 0 = x0 at *
          generalize x 1 = x1 at *
          generalize x 2 = x2 at *
          generalize x 3 = x3 at *
          generalize x 4 = x4 at *
          generalize x 5 = x5 at *
          generalize x 6 = x6 at *
          subst d0
          have D5 := hid d5
          clear d5
          go_simp
          refine (add_any _ _ s z _ (N.out.below hB.bel) D5.out SM.out FV.out.small).mono ?_
          rintro e w2 ⟨v2, rfl, n2, b2⟩
          exact hK v2 w2 b2 n2
      · intro x W hB hd
        have d6 : NumIs W (x 6) (s + z) := hd 6 (by decide)
        clear hd
        simp only [List.take_succ_cons, List.take_zero]
        simp only [puts, Act.put, List.setIfInBounds_toArray, List.set_cons_zero, List.set_cons_succ, Nat.reduceAdd, Nat.zero_add]
        generalize x 0 = x0 at *
        generalize x 1 = x1 at *
        generalize x 2 = x2 at *
        generalize x 3 = x3 at *
        generalize x 4 = x4 at *
        generalize x 5 = x5 at *
        generalize x 6 = x6 at *
        have N6 := hid d6
        obtain ⟨s6, ds6, rfl, hr6, -⟩ := d6
        obtain ⟨A6, c6, rfl, -⟩ := hr6
        obtain ⟨q0, q1⟩ := hB.c2 mem0
        have z0 := hB.fz mem0 0
        have z1 := hB.fz mem0 1
        have NA := hid (NumAt.put (show Blks w W _ from ⟨BW.out.trans (hB.bel.mono BW.out.size), hB.2⟩) (by omega) (by rw [HL.out]; intro p hp; simp at hp; subst hp; simp) N6.out)
        clear B N
        go_simp
        go_wp2_with fail
        go_roundw
        case rel => exact ⟨k + 1, _, _, by omega, by go_num, by rw [← HL.out]; exact NA.out.2, by rw [ST.out]; exact NA.out.1⟩
        case measure => simp [intOf]; omega
    · have hkn : k = n := by omega
      subst hkn
      have ht : xs.take k = xs := by rw [List.take_of_length_le (by have := HN.out; omega)]
      rw [ht] at N B
      obtain ⟨c0, c1⟩ := B.out.c2 mem0
      obtain ⟨r0, r1⟩ := B.out.c2 mem1
      have z0 := B.out.fz mem1 0
      have z1 := B.out.fz mem1 1
      have D := hid (res_done (w := w) (g := w.heap.size) B.out.bel (by omega) (B.out.at_ mem1) N.out)
      go_wp2_with fail
      exact bodyPost_ret (v := .agg #[.bool (decide (sumI xs < 0)), .slice sB sds.length sc]) (by simp [results, Tryd.results25, go_sem, r0, r1]) rfl ⟨_, rfl, D.out.1, D.out.2⟩

end Go.Proofs.YtjhekggeofalfaaDoor
