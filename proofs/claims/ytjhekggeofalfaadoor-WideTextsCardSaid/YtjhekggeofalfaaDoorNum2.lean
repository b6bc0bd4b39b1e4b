/- Contracts of noonmarkref01: Whole, Of, Neg, Cmp, Long, told, Plus, Minus. -/
import Derived.Test.YtjhekggeofalfaaDoorNum
namespace Go.Proofs.YtjhekggeofalfaaDoor
open Go.RowKit

/-- The result's store into a block of the call's own. -/
theorem res_done {w W : World} {g : Nat} (hb : Below w.heap.size w W) (hg : w.heap.size ≤ g) {x0 y0 : Value} (h5 : W.heap[g]? = some (Obj.cells #[x0, y0] 34 (0, 0)))
    {z : Int} {v x : Value} (hn : NumIs W (.agg #[x, v]) z) :
    NumIs ((W.setCell ⟨g, 0, none⟩ x).setCell ⟨g, 1, none⟩ v) (.agg #[x, v]) z ∧ Below w.heap.size w ((W.setCell ⟨g, 0, none⟩ x).setCell ⟨g, 1, none⟩ v) := by
  refine ⟨?_, (hb.setCell (p := ⟨g, 0, none⟩) hg x).setCell (p := ⟨g, 1, none⟩) hg v⟩
  obtain ⟨s', ds, hv, hr, hc⟩ := hn
  refine ⟨s', ds, hv, ?_, hc⟩
  have h6 : (W.setCell ⟨g, 0, none⟩ x).heap[g]? = some (Obj.cells (#[x0, y0].setIfInBounds 0 x) 34 (0, 0)) := by
    simp [World.setCell, Array.getElem?_modify, h5]
  exact (hr.setCell (p := ⟨g, 0, none⟩) h5 (by decide) x).setCell (p := ⟨g, 1, none⟩) h6 (by decide) v
theorem blk_c {W : World} {g : Nat} {x0 y0 : Value} {e : TypeId} (h : W.heap[g]? = some (Obj.cells #[x0, y0] e (0, 0))) :
    W.cell? ⟨g, 0, none⟩ = some x0 ∧ W.cell? ⟨g, 1, none⟩ = some y0 ∧ W.frozen? ⟨g, 0, none⟩ = false ∧ W.frozen? ⟨g, 1, none⟩ = false :=
  ⟨(cell_of_row W g 0 _ _ _ h).trans rfl, (cell_of_row W g 1 _ _ _ h).trans rfl, frozen_blk h 0, frozen_blk h 1⟩

theorem alloc2_new (w : World) (o1 o2 : Obj) : ((w.alloc o1).alloc o2).heap[w.heap.size + 1]? = some o2 := by
  have h := heap_alloc_new (w.alloc o1) o2
  rwa [show (w.alloc o1).heap.size = w.heap.size + 1 by simp] at h
theorem run_fieldD (x s : Value) (w : World) : (Instr.field 34 (.agg #[x, s]) 1).run Tryd.prog w = .ok s w := by kernel_rfl
theorem whole_step {ds : List Int} {k : Nat} {v v0 : Int} (hl : Limbs ds) (hlen : ds.length = k) (h0 : 0 ≤ v) (hv : val ds + pw k * v = v0) :
    Limbs (ds ++ [v % 65536]) ∧ val (ds ++ [v % 65536]) + pw (k + 1) * (v / 65536) = v0 ∧ 0 ≤ v / 65536 ∧ v / 65536 ≤ v := by
  refine ⟨hl.append (Limbs.one (by omega) (by omega)), ?_, by omega, by omega⟩
  rw [val_snoc, hlen, pw_succ, ← hv, Int.mul_comm 65536 (pw k), Int.mul_assoc, Int.add_assoc, ← Int.mul_add]
  congr 2; omega
theorem whole_done {ds : List Int} {v v0 : Int} (hl : Limbs ds) (h0 : 0 ≤ v) (hv : val ds + pw 4 * v = v0) (hv0 : v0 < 18446744073709551616) : val ds = v0 := by
  rw [pw4] at hv
  have := val_nonneg hl
  omega

set_option maxRecDepth 20000 in
set_option maxHeartbeats 1000000 in
theorem whole_any (v : Int) (w : World) (h : U64 v) :
    Calls Tryd.prog 43 #[.int .u64 v] w (NumPost w v) := by
  obtain ⟨i0, hi0, hz0, hz1, hz2⟩ := info_parts infoInt
  obtain ⟨hv0, hv1⟩ := h
  have e0 : (w.alloc (.cells #[.bool false, .slice none 0 0] 34)).heap.size = w.heap.size + 1 := by simp
  have HRES := hid (heap_alloc_new w (.cells #[.bool false, .slice none 0 0] 34))
  clear e0
  go_enter Tryd.func43, Tryd.ntmps43
  go_wp2
  go_loopw [0, 3, 4] (fun vv o i wr => ∃ (k : Nat) (x : Int) (ds : List Int), k ≤ 4 ∧ i = .int .i64 k ∧ vv = .int .u64 x ∧ 0 ≤ x ∧ x ≤ 18446744073709551615 ∧
      wr.ownsRow (w.heap.size + 1) 3 1 o ds.length (ds.map (Value.int .i64)) ∧ Limbs ds ∧ ds.length = k ∧ val ds + pw k * x = v ∧
      Below (w.heap.size + 1) (w.alloc (.cells #[.bool false, .slice none 0 0] 34)) wr)
    (fun _ _ i _ => 4 - (intOf i).toNat)
  case atStart =>
    refine ⟨0, v, [], by omega, rfl, rfl, hv0, hv1, ?_, Limbs.nil, rfl, by simp [val, pw_zero], (Below.refl _ _).alloc (by simp) _⟩
    have := World.ownsRow_made (base := w.heap.size + 1) (e := 3) (size := 1) (w.alloc (.cells #[.bool false, .slice none 0 0] 34)) #[] 0 (by simp) (by simp [maxLen]) rfl
    simpa using this
  case round =>
    obtain ⟨k, x, ds, hk, rfl, rfl, h0, h1, hown, hld, hlen, hval, hbel⟩ := hrel
    have HW := hid hval
    have HL := hid hlen
    clear hval hlen
    by_cases hlt : k < 4
    · obtain ⟨t1, t2, t3, t4⟩ := whole_step hld HL.out h0 HW.out
      have T2 := hid t2
      clear t2
      have hbs : w.heap.size + 1 ≤ wr.heap.size := by have := hbel.size; simpa using this
      go_wp2_with (at_builtin; refine append1 rfl _ _ 32 rfl (w.heap.size + 1) 3 i0 (.int .i64 0) 8 Tryd.underlying32 hi0 hz0 hz1 hz2 rfl _ _ _ wr _ _ hown rfl _ rfl rfl (by have := HL.out; omega) (by decide) hbs ?_; intro v' w1 hown1 hb1)
      go_roundw
      case rel =>
        refine ⟨k + 1, x / 65536, ds ++ [x % 65536], by omega, by go_num, rfl, t3, by omega, ?_, t1, by rw [List.length_append, HL.out]; rfl, T2.out, hbel.trans hb1⟩
        rw [List.length_append, List.map_append]; exact hown1
      case measure => simp [intOf]; omega
    · have hk4 : k = 4 := by omega
      subst hk4
      have HD := hid (whole_done hld h0 HW.out (by omega))
      have hrow := hid (IsRow.of_own hown)
      have hblk := hid ((hbel.block w.heap.size (by omega)).trans HRES.out)
      have hbw := hid (((Below.refl w.heap.size w).alloc (Nat.le_refl _) _).trans (hbel.mono (by omega)))
      clear hown
      go_wp2_with fail
      refine (made_any false _ ds _ hrow.out hld).mono ?_
      rintro e w2 ⟨v2, rfl, hn2, hb2⟩
      have N2 := hid hn2
      obtain ⟨s2, d2, rfl, hq4, -⟩ := hn2
      obtain ⟨A2, k2, rfl, -⟩ := hq4
      have B2 := hid ((hb2.block w.heap.size (by have := hbel.size; simp at this; omega)).trans hblk.out)
      obtain ⟨r0, r1, z0, z1⟩ := blk_c B2.out
      have D := hid (res_done (w := w) (g := w.heap.size) (hbw.out.trans (hb2.mono (by have := hbel.size; simp at this; omega))) (Nat.le_refl _) B2.out N2.out)
      clear hb2 hbel
      go_wp2
      have HZ : numOf false (val ds) = v := HD.out
      refine bodyPost_ret (v := .agg #[.bool (decide (numOf false (val ds) < 0)), .slice A2 d2.length k2]) (by simp [results, Tryd.results43, go_sem, r0, r1]) rfl ⟨_, rfl, by rw [← HZ]; exact D.out.1, D.out.2⟩

set_option maxRecDepth 20000 in
set_option maxHeartbeats 1000000 in
theorem of_any (v : Int) (w : World) (h : Fits v) :
    Calls Tryd.prog 20 #[.int .i64 v] w (NumPost w v) := by
  obtain ⟨hv0, hv1⟩ := h
  have HRES := hid (heap_alloc_new w (.cells #[.bool false, .slice none 0 0] 34))
  by_cases hneg : v < 0
  · have hfl := run_fieldD
    go_enter Tryd.func20, Tryd.ntmps20
    go_wp2_with fail
    refine (whole_any _ _ ⟨by omega, by omega⟩).mono ?_
    rintro e w1 ⟨v1, rfl, hn1, hb1⟩
    have hs1 : w.heap.size + 1 ≤ w1.heap.size := by simpa using hb1.size
    have B1 := hid ((hb1.block w.heap.size (by simp)).trans HRES.out)
    have HB := hid (((Below.refl w.heap.size w).alloc (Nat.le_refl _) _).trans (hb1.mono (by simp)))
    obtain ⟨s1, d1, rfl, hr1, hc1, hval1⟩ := hn1
    have HR := hid hr1
    have HC := hid hc1
    have HV := hid hval1
    clear hb1 hr1 hc1 hval1
    obtain ⟨A1, k1, rfl, -⟩ := id HR.out
    go_wp2_with fail
    refine (made_any true _ d1 _ HR.out HC.out.limbs).mono ?_
    rintro e w2 ⟨v2, rfl, hn2, hb2⟩
    have N2 := hid hn2
    obtain ⟨s2, d2, rfl, hq4, -⟩ := hn2
    obtain ⟨A2, k2, rfl, -⟩ := hq4
    have B2 := hid ((hb2.block w.heap.size (by omega)).trans B1.out)
    obtain ⟨r0, r1, z0, z1⟩ := blk_c B2.out
    have D := hid (res_done (w := w) (g := w.heap.size) (HB.out.trans (hb2.mono (by omega))) (Nat.le_refl _) B2.out N2.out)
    clear hb2
    go_wp2
    have HZ : numOf true (val d1) = v := by rw [numOf_true, HV.out]; omega
    refine bodyPost_ret (v := .agg #[.bool (decide (numOf true (val d1) < 0)), .slice A2 d2.length k2]) (by simp [results, Tryd.results20, go_sem, r0, r1]) rfl ⟨_, rfl, by rw [← HZ]; exact D.out.1, D.out.2⟩
  · go_enter Tryd.func20, Tryd.ntmps20
    go_wp2_with fail
    refine (whole_any _ _ ⟨by omega, by omega⟩).mono ?_
    rintro e w2 ⟨v2, rfl, hn2, hb2⟩
    have hs1 : w.heap.size + 1 ≤ w2.heap.size := by simpa using hb2.size
    have N2 := hid hn2
    obtain ⟨s2, d2, rfl, hq4, -⟩ := hn2
    obtain ⟨A2, k2, rfl, -⟩ := hq4
    have B2 := hid ((hb2.block w.heap.size (by simp)).trans HRES.out)
    obtain ⟨r0, r1, z0, z1⟩ := blk_c B2.out
    have D := hid (res_done (w := w) (g := w.heap.size) (((Below.refl w.heap.size w).alloc (Nat.le_refl _) _).trans (hb2.mono (by simp))) (Nat.le_refl _) B2.out N2.out)
    clear hb2
    go_wp2
    refine bodyPost_ret (v := .agg #[.bool (decide (v < 0)), .slice A2 d2.length k2]) (by simp [results, Tryd.results20, go_sem, r0, r1]) rfl ⟨_, rfl, D.out.1, D.out.2⟩

set_option maxRecDepth 20000 in
set_option maxHeartbeats 1000000 in
theorem neg_any (v : Value) (x : Int) (w : World) (h : NumIs w v x) :
    Calls Tryd.prog 16 #[v] w (NumPost w (-x)) := by
  obtain ⟨s, a, rfl, hr, hc, hva⟩ := h
  have HR := hid hr
  have HC := hid hc
  have HV := hid hva
  clear hr hc hva
  obtain ⟨p, hp⟩ : ∃ p, p = decide (x < 0) := ⟨_, rfl⟩
  rw [← hp]
  have HP := hid hp
  clear hp
  have HRES := hid (alloc2_new w (.cells #[.bool p, s] 34) (.cells #[.bool false, .slice none 0 0] 34))
  go_enter Tryd.func16, Tryd.ntmps16
  go_wp2_with fail
  refine (made_any (!p) s a _ ((HR.out.alloc _).alloc _) HC.out.limbs).mono ?_
  rintro e w2 ⟨v2, rfl, hn2, hb2⟩
  have hs1 : w.heap.size + 2 ≤ w2.heap.size := by simpa using hb2.size
  have N2 := hid hn2
  obtain ⟨s2, d2, rfl, hq4, -⟩ := hn2
  obtain ⟨A2, k2, rfl, -⟩ := hq4
  have B2 := hid ((hb2.block (w.heap.size + 1) (by simp)).trans HRES.out)
  obtain ⟨r0, r1, z0, z1⟩ := blk_c B2.out
  have D := hid (res_done (w := w) (g := w.heap.size + 1) ((((Below.refl w.heap.size w).alloc (Nat.le_refl _) _).alloc (by simp) _).trans (hb2.mono (by simp; omega))) (by omega) B2.out N2.out)
  clear hb2
  go_wp2
  have HZ : numOf (!p) (val a) = -x := by
    rw [HP.out, HV.out]; unfold numOf
    by_cases h : x < 0
    · simp [h]; omega
    · simp [h]; omega
  refine bodyPost_ret (v := .agg #[.bool (decide (numOf (!p) (val a) < 0)), .slice A2 d2.length k2]) (by simp [results, Tryd.results16, go_sem, r0, r1]) rfl ⟨_, rfl, by rw [← HZ]; exact D.out.1, D.out.2⟩
end Go.Proofs.YtjhekggeofalfaaDoor
