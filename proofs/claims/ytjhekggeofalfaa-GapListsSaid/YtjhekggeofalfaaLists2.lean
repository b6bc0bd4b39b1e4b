/- noonmarklaw03.GapLists returns true at every input and writes nothing that was there. -/
import Derived.Test.YtjhekggeofalfaaLists
import Derived.Test.YtjhekggeofalfaaRefs2
import Derived.Laws.AppendOwnNone
namespace Go.Proofs.Ytjhekggeofalfaa
open Go.RowKit

theorem src_cells {w : World} {ad : Addr} {n c : Nat} {gs : List G2} (h : IsGaps w (.slice (some ad) n c) gs) : ∀ j u, (cells2 gs)[j]? = some u → w.cell? (ad.add j) = some u := by
  intro j u hu
  have hj : j < gs.length * 2 := by
    rw [← cells2_length]
    exact (List.getElem?_eq_some_iff.1 hu).1
  obtain ⟨b, o, hA, d0, d1⟩ := h.at_ (k := j / 2) (by omega)
  injection hA with hA
  subst hA
  obtain ⟨e0, e1⟩ := cells2_at gs (j / 2) (by omega)
  rw [add_none']
  rcases Nat.mod_two_eq_zero_or_one j with hm | hm
  · rw [show j = j / 2 * 2 by omega] at hu ⊢
    rw [e0] at hu
    injection hu with hu
    subst hu
    exact d0
  · have ej : j = j / 2 * 2 + 1 := by omega
    rw [ej] at hu ⊢
    rw [e1] at hu
    injection hu with hu
    subst hu
    rw [← Nat.add_assoc]
    exact d1
/-- What the copy leaves. -/
def OwnPost (w : World) (gs : List G2) (v' : Value) (w' : World) : Prop := IsGaps w' v' gs ∧ Below w.heap.size w w'
/-- 'append([]Gap{}, list...)'. -/
theorem copy_gaps {ops : Array Oper} {rest : List Oper} {o : Oper} {a : Act} {Q : Exit → Act → World → Prop} (hgd : o.guard = none) (s x : Operand)
    (ho : o.op = .call { callee := .builtin .append, args := #[s, x], argTypes := #[43, 43] })
    (w : World) (A : Option Addr) (n c : Nat) (gs : List G2) (hA : A = none → n = 0 ∧ c = 0) (hn : gs.length = n) (h100 : n ≤ 100) (h : IsGaps w (.slice A n c) gs)
    (hs : a.eval s = .slice (some ⟨w.heap.size, 0, none⟩) 0 0) (hx : a.eval x = .slice A n c)
    (k : ∀ v' w', OwnPost w gs v' w' → wpList Try.prog ops Q rest (a.put o.dst v') w') : wpList Try.prog ops Q (o :: rest) a (w.alloc (.cells #[] 23)) := by
  obtain ⟨i0, hi0, hz0, hz1, hz2⟩ := info_parts infoGap'
  have made := World.ownsRow_made (size := 2) (e := 23) w #[] 0 (Nat.le_refl _) (by simp [maxLen]) rfl
  cases A with
  | none =>
    obtain ⟨rfl, rfl⟩ := hA rfl
    obtain rfl : gs = [] := List.eq_nil_of_length_eq_zero hn
    exact wpList_append_own_none hgd s x _ ho w.heap.size 23 i0 2 Try.underlying43 hi0 _ 0 [] hs made hx
      (k _ _ ⟨IsGaps.of_own rfl made, (Below.refl _ _).alloc (Nat.le_refl _) _⟩)
  | some ad =>
    refine wpList_append_own _ hgd s x _ ho w.heap.size 23 i0 (.agg #[.int .i64 0, .int .i64 0]) 2 16 Try.underlying43 hi0 hz0 hz1 hz2 rfl (by decide) _ 0 [] hs made
      ad n c (cells2 gs) hx (by rw [cells2_length, hn]) ?_ (cells2_one gs) (by simp only [maxLen]; omega) (by omega) (by simp) ?_
    · exact src_cells (h.alloc _)
    · intro v' w' hown hg _
      rw [List.nil_append, Nat.zero_add] at hown
      refine k v' w' ⟨IsGaps.of_own hn hown, ?_⟩
      exact ((Below.refl _ w).alloc (Nat.le_refl _) _).grown hg (by simp) fun q hq => by
        simp [Value.ownBlock] at hq
        omega

set_option maxRecDepth 100000 in
set_option maxHeartbeats 60000000 in
theorem gapLists_any (A : Option Addr) (n c : Nat) (gs : List G2) (w : World) (hA : A = none → n = 0 ∧ c = 0) (h : IsGaps w (.slice A n c) gs) (hn : gs.length = n) (hf : ∀ g ∈ gs, Fits g.1 ∧ Fits g.2) :
    Calls Try.prog 4 #[.slice A n c] w fun e w' => e = .returned (.bool true) ∧ Below w.heap.size w w' := by
  have H := hid h
  have HF := hid hf
  have HA := hid hA
  have HN := hid hn
  have hm : n ≤ 9223372036854775807 := by
    obtain ⟨A', c', hv, hl, hm, -⟩ := h
    injection hv with _ hv1 hv2
    unfold maxLen at hm
    omega
  clear hf hA hn h
  by_cases h100 : 100 < n
  · go_enter Try.func4, Try.ntmps4
    go_wp2_with fail
    refine (alive03_any _).mono ?_
    rintro r w1 ⟨rfl, t⟩
    go_wp2_with fail
    go_ret
    exact ⟨rfl, t⟩
  go_enter Try.func4, Try.ntmps4
  go_wp2_with fail
  refine (alive03_any _).mono ?_
  rintro r w1 ⟨rfl, t⟩
  have B0 := hid t
  have H1 := hid (H.out.below t)
  clear t
  go_wp2_with (at_builtin; go_must (refine copy_gaps rfl _ _ rfl w1 A n c gs HA.out HN.out (by omega) H1.out rfl rfl ?_); intro v' w2 op)
  have O := hid op.1
  have B1 := hid (B0.out.trans (op.2.mono B0.out.size))
  have H2 := hid (H1.out.below op.2)
  clear op
  obtain ⟨A', c', hv, hlc, hm', hx'⟩ := O.out
  rw [HN.out] at hv hlc
  subst hv
  clear hx' hlc hm'
  go_wp2_with fail
  refine (gapMeet_any _ gs _ O.out).mono ?_
  generalize ml0 : mtLo gs = ml
  have ml0 := hid ml0
  generalize mh0 : mtHi gs = mh
  have mh0 := hid mh0
  generalize me0 : mtErr gs = me
  have me0 := hid me0
  rintro r w3 ⟨rfl, t⟩
  have B := hid (((Blks.nil w2).below t).add (.cells #[.int .i64 ml, .int .i64 mh] 23))
  clear t
  go_wp2_with fail
  refine (gapHull_any _ gs _ (O.out.below B.out.bel)).mono ?_
  generalize hl0 : huLo gs = hl
  have hl0 := hid hl0
  generalize hh0 : huHi gs = hh
  have hh0 := hid hh0
  generalize he0 : huErr gs = he
  have he0 := hid he0
  rintro r w4 ⟨rfl, t⟩
  replace B := hid ((B.out.below t).add (.cells #[.int .i64 hl, .int .i64 hh] 23))
  clear t
  go_wp2_with fail
  refine (all_any _ gs _ (H2.out.below B.out.bel) (by have := HN.out; omega)).mono ?_
  rintro r w5 ⟨v5, rfl, g5, t⟩
  have G5 := hid g5
  replace B := hid (B.out.below t)
  clear t g5
  go_wp2_with fail
  refine (refMeet_any _ gs _ G5.out).mono ?_
  rw [ml0.out, mh0.out, me0.out]
  rintro r w6 ⟨rfl, t⟩
  replace B := hid ((B.out.below t).add (.cells #[.int .i64 ml, .int .i64 mh] 31))
  clear t G5
  go_wp2_with fail
  refine (all_any _ gs _ (H2.out.below B.out.bel) (by have := HN.out; omega)).mono ?_
  rintro r w7 ⟨v7, rfl, g7, t⟩
  have G7 := hid g7
  replace B := hid (B.out.below t)
  clear t g7
  go_wp2_with fail
  refine (refHull_any _ gs _ G7.out HF.out).mono ?_
  rw [hl0.out, hh0.out, he0.out]
  rintro r w8 ⟨rfl, t⟩
  replace B := hid ((B.out.below t).add (.cells #[.int .i64 hl, .int .i64 hh] 31))
  clear t G7
  go_wp2_with fail
  generalize w8.heap.size = p8 at *
  generalize w6.heap.size = p6 at *
  generalize w4.heap.size = p4 at *
  generalize w3.heap.size = p3 at *
  go_loopw [12] (fun i wr => ∃ k : Nat, k ≤ n ∧ i = .int .i64 k ∧ Blks w2 wr [(p8, .cells #[.int .i64 hl, .int .i64 hh] 31), (p6, .cells #[.int .i64 ml, .int .i64 mh] 31), (p4, .cells #[.int .i64 hl, .int .i64 hh] 23), (p3, .cells #[.int .i64 ml, .int .i64 mh] 23)]) (fun i _ => n - (intOf i).toNat)
  case atStart => exact ⟨0, Nat.zero_le _, rfl, B.out⟩
  case round =>
    obtain ⟨k, hk, rfl, hB⟩ := hrel
    replace B := hid hB
    clear hB
    by_cases hlt : k < n
    · have hkg : k < gs.length := by have := HN.out; omega
      obtain ⟨b, o, hA, d0, d1⟩ := O.out.at_ hkg
      obtain ⟨b', o', hA', e0, e1⟩ := H2.out.at_ hkg
      generalize gs[k] = g at *
      obtain ⟨lo, hi⟩ := g
      subst hA hA'
      have i0 : (0 : Int) ≤ (k : Int) := by omega
      have i1 : (k : Int) < (n : Int) := by omega
      clear hkg
      go_wp2_with fail
      obtain ⟨L, hL, B⟩ := B.out.letter
      have ne := Wd.some_ B.out
      have x0 := Wd.arg (l := L) d0
      have x1 := Wd.arg (l := L) d1
      have x2 := Wd.arg (l := L) e0
      have x3 := Wd.arg (l := L) e1
      clear d0 d1 e0 e1
      refine wp_region_tame w2 L B.out (by kernel_rfl) (by kernel_rfl) ?_
      repeat (go_big_quiet_step (fail))
      refine wpQuiet_nil (wd_all ?_)
      intro W7 B7
      rw [hL.out] at B7
      replace B := hid B7
      clear x0 x1 x2 x3 ne hL B7
      go_wp2_with fail
      go_roundw
      case rel => exact ⟨k + 1, by omega, by go_num, B.out⟩
      case measure => simp [intOf]; omega
    · go_wp2_with fail
      obtain ⟨L, hL, B⟩ := B.out.letter
      have ne := Wd.some_ B.out
      obtain ⟨x0, y0⟩ := Wd.k2 (w := w2) hL mem0
      obtain ⟨x1, y1⟩ := Wd.k2 (w := w2) hL mem1
      obtain ⟨x2, y2⟩ := Wd.k2 (w := w2) hL mem2
      obtain ⟨x3, y3⟩ := Wd.k2 (w := w2) hL mem3
      refine wp_region_tame w2 L B.out (by kernel_rfl) (by kernel_rfl) ?_
      repeat (go_big_quiet_step ((go_at_call 19; exact Calls.tame (lawOf_any _ _ _))))
      refine wpQuiet_nil (wd_all ?_)
      intro W7 B7
      go_wp2_with fail
      go_ret
      exact ⟨rfl, B1.out.trans (B7.bel.mono B1.out.size)⟩
end Go.Proofs.Ytjhekggeofalfaa
