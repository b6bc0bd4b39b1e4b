/- Slices of bytes: the copy. -/
import Derived.Test.YtjhekggeofalfaaDoorLongsW
namespace Go.Proofs.YtjhekggeofalfaaDoor
open Go.RowKit

def IsBys (w : World) (v : Value) (xs : List Int) : Prop :=
  ∃ A c, v = .slice A xs.length c ∧ xs.length ≤ c ∧ c ≤ maxLen ∧
    (xs = [] ∨ ∃ b o, A = some ⟨b, o, none⟩ ∧ b < w.heap.size ∧ ∀ i, i < xs.length → w.cell? ⟨b, o + i, none⟩ = some (.int .u8 (lim xs i)))
theorem IsBys.below {w w' : World} {v : Value} {xs : List Int} (h : IsBys w v xs) (hb : Below w.heap.size w w') : IsBys w' v xs := by
  obtain ⟨A, c, hv, hl, hm, hx⟩ := h
  refine ⟨A, c, hv, hl, hm, ?_⟩
  rcases hx with hx | ⟨b, o, hA, hlt, hc⟩
  · exact .inl hx
  · exact .inr ⟨b, o, hA, Nat.lt_of_lt_of_le hlt hb.size, fun i hi => (hb.cell (p := ⟨b, _, none⟩) hlt).trans (hc i hi)⟩
theorem IsBys.at_ {w : World} {A : Option Addr} {n c : Nat} {xs : List Int} (h : IsBys w (.slice A n c) xs) {k : Nat} (hk : k < xs.length) :
    ∃ b o, A = some ⟨b, o, none⟩ ∧ w.cell? ⟨b, o + k, none⟩ = some (.int .u8 (lim xs k)) := by
  obtain ⟨A', c', hv, hl, hm, hx⟩ := h
  injection hv with e1 e2 e3
  subst e1
  rcases hx with rfl | ⟨b, o, hA, hlt, hc⟩
  · simp at hk
  · exact ⟨b, o, hA, hc k hk⟩
theorem getD_mapb (xs : List Int) (i : Nat) (h : i < xs.length) : (xs.map (Value.int .u8))[i]? = some (.int .u8 (lim xs i)) := by
  rw [List.getElem?_map, List.getElem?_eq_getElem h, getD_in _ h]; rfl
def bys (xs : List Int) : List Value := xs.map (Value.int .u8)
theorem bys_length (xs : List Int) : (bys xs).length = xs.length := List.length_map ..
theorem bys_one (xs : List Int) : ∀ u ∈ bys xs, u.oneCell' = true := by
  intro u hu
  obtain ⟨x, -, rfl⟩ := List.mem_map.1 hu
  rfl
theorem bys_at {xs : List Int} {j : Nat} {u : Value} (h : (bys xs)[j]? = some u) : j < xs.length ∧ u = .int .u8 (lim xs j) := by
  have hj : j < xs.length := by rw [← bys_length]; exact (List.getElem?_eq_some_iff.1 h).1
  unfold bys at h
  rw [getD_mapb xs j hj] at h
  injection h with h
  exact ⟨hj, h.symm⟩
theorem IsBys.alloc {w : World} {v : Value} {xs : List Int} (h : IsBys w v xs) (o : Obj) : IsBys (w.alloc o) v xs := h.below ((Below.refl _ _).alloc (Nat.le_refl _) o)
theorem IsBys.src {w : World} {ad : Addr} {n c : Nat} {xs : List Int} (h : IsBys w (.slice (some ad) n c) xs) : ∀ j u, (bys xs)[j]? = some u → w.cell? (ad.add j) = some u := by
  intro j u hu
  obtain ⟨hj, rfl⟩ := bys_at hu
  obtain ⟨b, o, hA, d⟩ := h.at_ hj
  injection hA with hA
  subst hA
  rw [add_none']
  exact d
theorem IsBys.of_own {w : World} {base e : Nat} {v : Value} {xs : List Int} {n : Nat} (hn : xs.length = n) (h : w.ownsRow base e 1 v n (bys xs)) : IsBys w v xs := by
  subst hn
  rcases h.2 with ⟨hv, hn⟩ | ⟨g, cap, cur, hv, hb, hg, hl, hm, hs, ht⟩
  · have : xs = [] := List.eq_nil_of_length_eq_zero hn
    subst this
    subst hv
    exact ⟨none, 0, rfl, Nat.le_refl _, Nat.zero_le _, .inl rfl⟩
  · subst hv
    refine ⟨_, cap, rfl, hl, hm, .inr ⟨g, 0, rfl, (Array.getElem?_eq_some_iff.1 hg).1, fun i hi => ?_⟩⟩
    have hc := getD_mapb xs i hi
    unfold bys at ht
    rw [← ht, List.getElem?_take, if_pos (by omega), Array.getElem?_toList] at hc
    rw [Nat.zero_add]
    exact (cell_of_row w g _ _ _ _ hg).trans hc
theorem infoByte : (Tryd.prog.info? 5).map (fun i => (i.zero, i.size, i.bytes)) = some (some (.int .u8 0), 1, 1) := by kernel_rfl

def BysPost (w : World) (n : Nat) (xs : List Int) (v' : Value) (w' : World) : Prop := w'.ownsRow w.heap.size 5 1 v' n (bys xs) ∧ Below w.heap.size w w'
/-- 'append([]int64{}, list...)'. -/
theorem copy_bys {ops : Array Oper} {rest : List Oper} {o : Oper} {a : Act} {Q : Exit → Act → World → Prop} (hgd : o.guard = none) (s x : Operand)
    (ho : o.op = .call { callee := .builtin .append, args := #[s, x], argTypes := #[59, 59] })
    (w : World) (A : Option Addr) (n c : Nat) (xs : List Int) (hA : A = none → n = 0 ∧ c = 0) (hn : xs.length = n) (h100 : n ≤ 100) (h : IsBys w (.slice A n c) xs)
    (hs : a.eval s = .slice (some ⟨w.heap.size, 0, none⟩) 0 0) (hx : a.eval x = .slice A n c)
    (k : ∀ v' w', BysPost w n xs v' w' → wpList Tryd.prog ops Q rest (a.put o.dst v') w') : wpList Tryd.prog ops Q (o :: rest) a (w.alloc (.cells #[] 5)) := by
  obtain ⟨i0, hi0, hz0, hz1, hz2⟩ := info_parts infoByte
  have made := World.ownsRow_made (size := 1) (e := 5) w #[] 0 (Nat.le_refl _) (by simp [maxLen]) rfl
  cases A with
  | none =>
    obtain ⟨rfl, rfl⟩ := hA rfl
    obtain rfl : xs = [] := List.eq_nil_of_length_eq_zero hn
    exact wpList_append_own_none hgd s x _ ho w.heap.size 5 i0 1 Tryd.underlying59 hi0 _ 0 [] hs made hx
      (k _ _ ⟨made, (Below.refl _ _).alloc (Nat.le_refl _) _⟩)
  | some ad =>
    refine wpList_append_own _ hgd s x _ ho w.heap.size 5 i0 (.int .u8 0) 1 1 Tryd.underlying59 hi0 hz0 hz1 hz2 rfl (by decide) _ 0 [] hs made
      ad n c (bys xs) hx (by rw [bys_length, hn, Nat.mul_one]) ?_ (bys_one xs) (by simp only [maxLen]; omega) (by omega) (by simp) ?_
    · exact (h.alloc _).src
    · intro v' w' hown hg _
      rw [List.nil_append, Nat.zero_add] at hown
      refine k v' w' ⟨hown, ?_⟩
      exact ((Below.refl _ w).alloc (Nat.le_refl _) _).grown hg (by simp) fun q hq => by
        simp [Value.ownBlock] at hq
        omega

set_option maxRecDepth 20000 in
set_option maxHeartbeats 1000000 in
theorem copyBytes_any (A : Option Addr) (n c : Nat) (xs : List Int) (w : World) (hA : A = none → n = 0 ∧ c = 0) (hn : xs.length = n) (h100 : n ≤ 100) (h : IsBys w (.slice A n c) xs) :
    Calls Tryd.prog 33 #[.slice A n c] w fun e w' => ∃ v', e = .returned v' ∧ BysPost w n xs v' w' := by
  have H := hid h
  have HA := hid hA
  have HN := hid hn
  clear h hA hn
  go_enter Tryd.func33, Tryd.ntmps33
  go_wp2_with (at_builtin; go_must (refine copy_bys rfl _ _ rfl w A n c xs HA.out HN.out h100 H.out rfl rfl ?_); intro v' w2 op)
  go_ret
  exact ⟨v', rfl, op⟩

end Go.Proofs.YtjhekggeofalfaaDoor
