/- Slices of gaps that a call makes: the copy by append, and noonmarklaw03.all. -/
import Derived.Test.YtjhekggeofalfaaAns
import Derived.Test.YtjhekggeofalfaaTame
namespace Go.Proofs.Ytjhekggeofalfaa
open Go.RowKit

def cells2 (gs : List G2) : List Value := gs.flatMap fun g => [.int .i64 g.1, .int .i64 g.2]
theorem add_none' (b o n : Nat) : Addr.add ⟨b, o, none⟩ n = ⟨b, o + n, none⟩ := by
  unfold Addr.add; split <;> simp_all
theorem cells2_nil : cells2 [] = [] := rfl
theorem cells2_cons (g : G2) (gs : List G2) : cells2 (g :: gs) = .int .i64 g.1 :: .int .i64 g.2 :: cells2 gs := rfl
theorem cells2_append (a b : List G2) : cells2 (a ++ b) = cells2 a ++ cells2 b := by unfold cells2; rw [List.flatMap_append]
theorem cells2_length (gs : List G2) : (cells2 gs).length = gs.length * 2 := by
  induction gs with
  | nil => rfl
  | cons g t ih => rw [cells2_cons, List.length_cons, List.length_cons, List.length_cons, ih]; omega
theorem cells2_at (gs : List G2) : ∀ (i : Nat) (h : i < gs.length), (cells2 gs)[i * 2]? = some (.int .i64 gs[i].1) ∧ (cells2 gs)[i * 2 + 1]? = some (.int .i64 gs[i].2) := by
  induction gs with
  | nil => intro i h; simp at h
  | cons g t ih =>
    intro i h
    cases i with
    | zero => exact ⟨rfl, rfl⟩
    | succ i =>
      rw [cells2_cons]
      have := ih i (by simpa using h)
      rw [show (i + 1) * 2 = i * 2 + 1 + 1 by omega]
      simpa using this
theorem cells2_one (gs : List G2) : ∀ u ∈ cells2 gs, u.oneCell' = true := by
  intro u hu
  unfold cells2 at hu
  obtain ⟨g, -, h⟩ := List.mem_flatMap.1 hu
  simp at h
  rcases h with rfl | rfl <;> rfl
theorem IsGaps.of_own {w : World} {base e : Nat} {v : Value} {gs : List G2} {n : Nat} (hn : gs.length = n) (h : w.ownsRow base e 2 v n (cells2 gs)) : IsGaps w v gs := by
  subst hn
  rcases h.2 with ⟨hv, hn⟩ | ⟨g, cap, cur, hv, hb, hg, hl, hm, hs, ht⟩
  · have : gs = [] := List.eq_nil_of_length_eq_zero hn
    subst this
    subst hv
    exact ⟨none, 0, rfl, Nat.le_refl _, Nat.zero_le _, .inl rfl⟩
  · subst hv
    refine ⟨_, cap, rfl, hl, hm, .inr ⟨g, 0, rfl, (Array.getElem?_eq_some_iff.1 hg).1, fun i hi => ?_⟩⟩
    have hc := cells2_at gs i hi
    rw [← ht] at hc
    rw [List.getElem?_take, if_pos (by omega), List.getElem?_take, if_pos (by omega), Array.getElem?_toList, Array.getElem?_toList] at hc
    rw [Nat.zero_add]
    exact ⟨(cell_of_row w g _ _ _ _ hg).trans hc.1, (cell_of_row w g _ _ _ _ hg).trans hc.2⟩
theorem ownsRow_below {w w' : World} {base : Nat} {e : TypeId} {size : Nat} {v : Value} {n : Nat} {xs : List Value} (h : w.ownsRow base e size v n xs) (hb : Below w.heap.size w w') : w'.ownsRow base e size v n xs := by
  refine ⟨h.1, ?_⟩
  rcases h.2 with h0 | ⟨g, cap, cur, hv, hb', hg, hl, hm, hs, ht⟩
  · exact .inl h0
  · exact .inr ⟨g, cap, cur, hv, hb', (hb.block g (Array.getElem?_eq_some_iff.1 hg).1).trans hg, hl, hm, hs, ht⟩

/-- 'out = append(out, E{..})', out a row of the call's own, the element's cells in a new block: what lies below the row's base is as it was. -/
theorem appendE {P : Program} {ops : Array Oper} {rest : List Oper} {o : Oper} {a : Act} {Q : Exit → Act → World → Prop} (hgd : o.guard = none) (s x : Operand) (t : TypeId)
    (ho : o.op = .call { callee := .builtin .append, args := #[s, x], argTypes := #[t, t] })
    (base : Nat) (e : TypeId) (i : TypeInfo) (z : Value) (size bytes : Nat) (ht : P.underlying t = some (.slice e)) (hi : P.info? e = some i) (hz : i.zero = some z)
    (hsize : i.size = size) (hby : i.bytes = bytes) (hzs : z.cells.size = size) (hpos : 0 < size) (v : Value) (n : Nat) (xs : List Value) (w : World) (e' : TypeId) (cs : List Value)
    (hown : w.ownsRow base e size v n xs) (hs : a.eval s = v) (c : Nat) (hx : a.eval x = .slice (some ⟨w.heap.size, 0, none⟩) 1 c) (hlen : cs.length = size) (hd : ∀ u ∈ cs, u.oneCell' = true)
    (hn : n ≤ 1000000) (hb8 : bytes ≤ 64) (hbase : base ≤ w.heap.size)
    (h : ∀ v' w', w'.ownsRow base e size v' (n + 1) (xs ++ cs) → Below base w w' → wpList P ops Q rest (a.put o.dst v') w') : wpList P ops Q (o :: rest) a (w.alloc (.cells cs.toArray e')) := by
  refine wpList_append_own _ hgd s x t ho base e i z size bytes ht hi hz hsize hby hzs hpos v n xs hs (hown.alloc _) ⟨w.heap.size, 0, none⟩ 1 c cs hx (by omega) ?_ hd ?_ ?_ ?_ ?_
  · intro j u hj
    have hc := (cell_of_row (w.alloc (.cells cs.toArray e')) w.heap.size j cs.toArray e' (0, 0) (heap_alloc_new w _)).trans (by simpa using hj)
    rw [add_none', Nat.zero_add]
    exact hc
  · simp only [maxLen]; omega
  · have := Nat.mul_le_mul (show n + 1 ≤ 1000001 by omega) hb8
    omega
  · simp; omega
  · intro v' w' hown' hg _
    refine h v' w' hown' ?_
    exact ((Below.refl base w).alloc hbase _).grown hg (by simp; omega) fun k hk => (hown.lt k hk).1

/-- A call returned a slice that reads as these gaps; what was there is as it was. -/
def AllPost (w : World) (gs : List G2) (e : Ending) (w' : World) : Prop := ∃ v', e = .returned v' ∧ IsGaps w' v' gs ∧ Below w.heap.size w w'
theorem infoGap : (Try.prog.info? 31).map (fun i => (i.zero, i.size, i.bytes)) = some (some (.agg #[.int .i64 0, .int .i64 0]), 2, 16) := by kernel_rfl
theorem infoGap' : (Try.prog.info? 23).map (fun i => (i.zero, i.size, i.bytes)) = some (some (.agg #[.int .i64 0, .int .i64 0]), 2, 16) := by kernel_rfl
theorem cells2_snoc (gs : List G2) (k : Nat) (h : k < gs.length) : cells2 (gs.take (k + 1)) = cells2 (gs.take k) ++ [.int .i64 gs[k].1, .int .i64 gs[k].2] := by
  rw [List.take_succ_eq_append_getElem h, cells2_append]; rfl

set_option maxRecDepth 20000 in
set_option maxHeartbeats 4000000 in
theorem all_any (v : Value) (gs : List G2) (w : World) (h : IsGaps w v gs) (h100 : gs.length ≤ 1000000) :
    Calls Try.prog 30 #[v] w (AllPost w gs) := by
  obtain ⟨i0, hi0, hz0, hz1, hz2⟩ := info_parts infoGap
  have H := hid h
  obtain ⟨A, c, rfl, hlc, hm, -⟩ := h
  unfold maxLen at hm
  generalize hn : gs.length = n at *
  have HN := hid hn
  clear hn
  go_enter Try.func30, Try.ntmps30
  go_wp2_with fail
  go_loopw [3, 4] (fun o i wr => ∃ k : Nat, k ≤ n ∧ i = .int .i64 k ∧ wr.ownsRow w.heap.size 31 2 o k (cells2 (gs.take k)) ∧ Below w.heap.size w wr)
    (fun _ i _ => n - (intOf i).toNat)
  case atStart => exact ⟨0, Nat.zero_le _, rfl, World.ownsRow_made w #[] 0 (Nat.le_refl _) (by simp [maxLen]) rfl, (Below.refl _ _).alloc (Nat.le_refl _) _⟩
  case round =>
    obtain ⟨k, hk, rfl, hown, hbel⟩ := hrel
    have OW := hid hown
    have HB := hid hbel
    clear hown hbel
    by_cases hlt : k < n
    · have hkg : k < gs.length := by have := HN.out; omega
      obtain ⟨b, o, hA, d0, d1⟩ := (H.out.below HB.out).at_ hkg
      have HS := hid (cells2_snoc gs k hkg)
      generalize gs[k] = g at *
      obtain ⟨lo, hi⟩ := g
      subst hA
      clear hkg
      go_wp2_with fail
      refine (lawOf_any lo hi _).mono ?_
      rintro e w2 ⟨rfl, b2⟩
      have OW2 := hid (ownsRow_below OW.out b2)
      have B2 := hid (HB.out.trans (b2.mono HB.out.size))
      clear b2 d0 d1
      go_wp2_with (at_builtin; go_must (refine appendE rfl _ _ 46 rfl w.heap.size 31 i0 (.agg #[.int .i64 0, .int .i64 0]) 2 16 Try.underlying46 hi0 hz0 hz1 hz2 rfl (by decide) _ _ _ w2 _ [.int .i64 lo, .int .i64 hi] OW2.out rfl _ rfl rfl (by intro u hu; simp at hu; rcases hu with rfl | rfl <;> rfl) (by omega) (by decide) B2.out.size ?_); intro v' w3 hown3 hb3)
      go_roundw
      case rel => exact ⟨k + 1, by omega, by go_num, by rw [HS.out]; exact hown3, B2.out.trans hb3⟩
      case measure => simp [intOf]; omega
    · have hkn : k = n := by omega
      subst hkn
      have ht : gs.take k = gs := by rw [List.take_of_length_le (by have := HN.out; omega)]
      rw [ht] at OW
      go_wp2_with fail
      go_ret
      exact ⟨_, rfl, IsGaps.of_own HN.out OW.out, HB.out⟩
end Go.Proofs.Ytjhekggeofalfaa
