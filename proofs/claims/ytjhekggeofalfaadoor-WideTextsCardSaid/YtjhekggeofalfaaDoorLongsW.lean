/- Slices of int64 values: the copy. -/
import Derived.Test.YtjhekggeofalfaaDoorLongs0
import Derived.Test.YtjhekggeofalfaaDoorTame
import Derived.Laws.AppendOwnNone
namespace Go.Proofs.YtjhekggeofalfaaDoor
open Go.RowKit

def longs (xs : List Int) : List Value := xs.map (Value.int .i64)
theorem longs_length (xs : List Int) : (longs xs).length = xs.length := List.length_map ..
theorem longs_one (xs : List Int) : ∀ u ∈ longs xs, u.oneCell' = true := by
  intro u hu
  obtain ⟨x, -, rfl⟩ := List.mem_map.1 hu
  rfl
theorem longs_at {xs : List Int} {j : Nat} {u : Value} (h : (longs xs)[j]? = some u) : j < xs.length ∧ u = .int .i64 (lim xs j) := by
  have hj : j < xs.length := by rw [← longs_length]; exact (List.getElem?_eq_some_iff.1 h).1
  unfold longs at h
  rw [getD_map xs j hj] at h
  injection h with h
  exact ⟨hj, h.symm⟩
theorem IsLongs.alloc {w : World} {v : Value} {xs : List Int} (h : IsLongs w v xs) (o : Obj) : IsLongs (w.alloc o) v xs := h.below ((Below.refl _ _).alloc (Nat.le_refl _) o)
theorem IsLongs.src {w : World} {ad : Addr} {n c : Nat} {xs : List Int} (h : IsLongs w (.slice (some ad) n c) xs) : ∀ j u, (longs xs)[j]? = some u → w.cell? (ad.add j) = some u := by
  intro j u hu
  obtain ⟨hj, rfl⟩ := longs_at hu
  obtain ⟨b, o, hA, d⟩ := h.at_ hj
  injection hA with hA
  subst hA
  rw [add_none']
  exact d
theorem IsLongs.of_own {w : World} {base e : Nat} {v : Value} {xs : List Int} {n : Nat} (hn : xs.length = n) (h : w.ownsRow base e 1 v n (longs xs)) : IsLongs w v xs := by
  subst hn
  rcases h.2 with ⟨hv, hn⟩ | ⟨g, cap, cur, hv, hb, hg, hl, hm, hs, ht⟩
  · have : xs = [] := List.eq_nil_of_length_eq_zero hn
    subst this
    subst hv
    exact ⟨none, 0, rfl, Nat.le_refl _, Nat.zero_le _, .inl rfl⟩
  · subst hv
    refine ⟨_, cap, rfl, hl, hm, .inr ⟨g, 0, rfl, (Array.getElem?_eq_some_iff.1 hg).1, fun i hi => ?_⟩⟩
    have hc := getD_map xs i hi
    unfold longs at ht
    rw [← ht, List.getElem?_take, if_pos (by omega), Array.getElem?_toList] at hc
    rw [Nat.zero_add]
    exact (cell_of_row w g _ _ _ _ hg).trans hc
theorem infoLong : (Tryd.prog.info? 2).map (fun i => (i.zero, i.size, i.bytes)) = some (some (.int .i64 0), 1, 8) := by kernel_rfl

def LongPost (w : World) (n : Nat) (xs : List Int) (v' : Value) (w' : World) : Prop := w'.ownsRow w.heap.size 2 1 v' n (longs xs) ∧ Below w.heap.size w w'
/-- 'append([]int64{}, list...)'. -/
theorem copy_longs {ops : Array Oper} {rest : List Oper} {o : Oper} {a : Act} {Q : Exit → Act → World → Prop} (hgd : o.guard = none) (s x : Operand)
    (ho : o.op = .call { callee := .builtin .append, args := #[s, x], argTypes := #[42, 42] })
    (w : World) (A : Option Addr) (n c : Nat) (xs : List Int) (hA : A = none → n = 0 ∧ c = 0) (hn : xs.length = n) (h100 : n ≤ 100) (h : IsLongs w (.slice A n c) xs)
    (hs : a.eval s = .slice (some ⟨w.heap.size, 0, none⟩) 0 0) (hx : a.eval x = .slice A n c)
    (k : ∀ v' w', LongPost w n xs v' w' → wpList Tryd.prog ops Q rest (a.put o.dst v') w') : wpList Tryd.prog ops Q (o :: rest) a (w.alloc (.cells #[] 2)) := by
  obtain ⟨i0, hi0, hz0, hz1, hz2⟩ := info_parts infoLong
  have made := World.ownsRow_made (size := 1) (e := 2) w #[] 0 (Nat.le_refl _) (by simp [maxLen]) rfl
  cases A with
  | none =>
    obtain ⟨rfl, rfl⟩ := hA rfl
    obtain rfl : xs = [] := List.eq_nil_of_length_eq_zero hn
    exact wpList_append_own_none hgd s x _ ho w.heap.size 2 i0 1 Tryd.underlying42 hi0 _ 0 [] hs made hx
      (k _ _ ⟨made, (Below.refl _ _).alloc (Nat.le_refl _) _⟩)
  | some ad =>
    refine wpList_append_own _ hgd s x _ ho w.heap.size 2 i0 (.int .i64 0) 1 8 Tryd.underlying42 hi0 hz0 hz1 hz2 rfl (by decide) _ 0 [] hs made
      ad n c (longs xs) hx (by rw [longs_length, hn, Nat.mul_one]) ?_ (longs_one xs) (by simp only [maxLen]; omega) (by omega) (by simp) ?_
    · exact (h.alloc _).src
    · intro v' w' hown hg _
      rw [List.nil_append, Nat.zero_add] at hown
      refine k v' w' ⟨hown, ?_⟩
      exact ((Below.refl _ w).alloc (Nat.le_refl _) _).grown hg (by simp) fun q hq => by
        simp [Value.ownBlock] at hq
        omega

set_option maxRecDepth 20000 in
set_option maxHeartbeats 1000000 in
theorem copyLongs_any (A : Option Addr) (n c : Nat) (xs : List Int) (w : World) (hA : A = none → n = 0 ∧ c = 0) (hn : xs.length = n) (h100 : n ≤ 100) (h : IsLongs w (.slice A n c) xs) :
    Calls Tryd.prog 24 #[.slice A n c] w fun e w' => ∃ v', e = .returned v' ∧ LongPost w n xs v' w' := by
  have H := hid h
  have HA := hid hA
  have HN := hid hn
  clear h hA hn
  go_enter Tryd.func24, Tryd.ntmps24
  go_wp2_with (at_builtin; go_must (refine copy_longs rfl _ _ rfl w A n c xs HA.out HN.out h100 H.out rfl rfl ?_); intro v' w2 op)
  go_ret
  exact ⟨v', rfl, op⟩

end Go.Proofs.YtjhekggeofalfaaDoor
