/- A slice value that reads as a list of integers; contracts of noonmarkref01.limb and trim. -/
import Derived.Test.YtjhekggeofalfaaDoorPlain
import Derived.Test.YtjhekggeofalfaaDoorProg
import Derived.WalkSpells
import Derived.WalkLawsBesides
namespace Go.Proofs.YtjhekggeofalfaaDoor
open Go.RowKit

/-- In world w the slice value v reads as the integers xs (of Go's int); its array is a block of ints. -/
def IsRow (w : World) (v : Value) (xs : List Int) : Prop :=
  ∃ A c, v = .slice A xs.length c ∧ xs.length ≤ c ∧ c ≤ maxLen ∧
    (xs = [] ∨ ∃ b o cur, A = some ⟨b, o, none⟩ ∧ w.heap[b]? = some (Obj.cells cur 3 (0, 0)) ∧ ∀ i, i < xs.length → cur[o + i]? = some (.int .i64 (lim xs i)))

theorem heap_lt {w : World} {b : Nat} {o : Obj} (h : w.heap[b]? = some o) : b < w.heap.size := (Array.getElem?_eq_some_iff.1 h).1
theorem IsRow.keep {w w' : World} {v : Value} {xs : List Int} (h : IsRow w v xs)
    (hk : ∀ (b : Nat) (cur : Array Value), w.heap[b]? = some (Obj.cells cur 3 (0, 0)) → w'.heap[b]? = w.heap[b]?) : IsRow w' v xs := by
  obtain ⟨A, c, hv, hl, hm, hx⟩ := h
  refine ⟨A, c, hv, hl, hm, ?_⟩
  rcases hx with hx | ⟨b, o, cur, hA, hb, hc⟩
  · exact .inl hx
  · exact .inr ⟨b, o, cur, hA, (hk b cur hb).trans hb, hc⟩
theorem IsRow.below {w w' : World} {v : Value} {xs : List Int} (h : IsRow w v xs) (hb : Below w.heap.size w w') : IsRow w' v xs :=
  h.keep fun b _ hh => hb.block b (heap_lt hh)
theorem IsRow.alloc {w : World} {v : Value} {xs : List Int} (h : IsRow w v xs) (o : Obj) : IsRow (w.alloc o) v xs :=
  h.below ((Below.refl _ _).alloc (Nat.le_refl _) o)
theorem IsRow.drew {w : World} {v : Value} {xs : List Int} (h : IsRow w v xs) : IsRow w.drew v xs := h
/-- A store into a block of another element type. -/
theorem IsRow.setCell {w : World} {v : Value} {xs : List Int} (h : IsRow w v xs) {p : Addr} {cs : Array Value} {e : TypeId} {fr : Nat × Nat}
    (hp : w.heap[p.block]? = some (Obj.cells cs e fr)) (he : e ≠ 3) (u : Value) : IsRow (w.setCell p u) v xs :=
  h.keep fun b cur hb => Below.heap_setCell w p u b fun e' => by
    subst e'
    rw [hp] at hb
    injection hb with hb
    injection hb with _ hb _
    exact he hb
theorem IsRow.nil_ (w : World) : IsRow w (.slice none 0 0) [] := ⟨none, 0, rfl, by simp, by simp [maxLen], .inl rfl⟩
theorem getD_map (xs : List Int) (i : Nat) (h : i < xs.length) : (xs.map (Value.int .i64))[i]? = some (.int .i64 (lim xs i)) := by
  rw [List.getElem?_map, List.getElem?_eq_getElem h, getD_in _ h]; rfl
/-- Its cells, one by one. -/
theorem row_cells {w : World} {A : Option Addr} {xs : List Int}
    (h : xs = [] ∨ ∃ b o cur, A = some ⟨b, o, none⟩ ∧ w.heap[b]? = some (Obj.cells cur 3 (0, 0)) ∧ ∀ i, i < xs.length → cur[o + i]? = some (.int .i64 (lim xs i))) (hn : 0 < xs.length) :
    ∃ b o, A = some ⟨b, o, none⟩ ∧ b < w.heap.size ∧ ∀ i, i < xs.length → w.cell? ⟨b, o + i, none⟩ = some (.int .i64 (lim xs i)) := by
  rcases h with rfl | ⟨b, o, cur, hA, hb, hc⟩
  · simp at hn
  · exact ⟨b, o, hA, heap_lt hb, fun i hi => (cell_of_row w b (o + i) cur 3 (0, 0) hb).trans (hc i hi)⟩
/-- What the call owns reads as its integers. -/
theorem IsRow.of_own {w : World} {base : Nat} {v : Value} {xs : List Int} (h : w.ownsRow base 3 1 v xs.length (xs.map (Value.int .i64))) : IsRow w v xs := by
  rcases h.2 with ⟨hv, hn⟩ | ⟨g, cap, cur, hv, hb, hg, hl, hm, hs, ht⟩
  · have : xs = [] := List.eq_nil_of_length_eq_zero hn
    subst this
    subst hv
    exact IsRow.nil_ _
  · subst hv
    refine ⟨_, cap, rfl, hl, hm, .inr ⟨g, 0, cur, rfl, hg, fun i hi => ?_⟩⟩
    have := getD_map xs i hi
    rw [← ht, List.getElem?_take, if_pos (by omega)] at this
    rw [← this]
    simp

/-- 'out = append(out, d)', out a row of the call's own, d one cell in a new block: what lies below the row's base is as it was. -/
theorem append1 {P : Program} {ops : Array Oper} {rest : List Oper} {o : Oper} {a : Act} {Q : Exit → Act → World → Prop} (hgd : o.guard = none) (s x : Operand) (t : TypeId)
    (ho : o.op = .call { callee := .builtin .append, args := #[s, x], argTypes := #[t, t] })
    (base : Nat) (e : TypeId) (i : TypeInfo) (z : Value) (bytes : Nat) (ht : P.underlying t = some (.slice e)) (hi : P.info? e = some i) (hz : i.zero = some z)
    (hsize : i.size = 1) (hby : i.bytes = bytes) (hzs : z.cells.size = 1) (v : Value) (n : Nat) (xs : List Value) (w : World) (e' : TypeId) (d : Value)
    (hown : w.ownsRow base e 1 v n xs) (hs : a.eval s = v) (c : Nat) (hx : a.eval x = .slice (some ⟨w.heap.size, 0, none⟩) 1 c) (hd : d.oneCell' = true)
    (hn : n ≤ 1000000) (hb8 : bytes ≤ 64) (hbase : base ≤ w.heap.size)
    (h : ∀ v' w', w'.ownsRow base e 1 v' (n + 1) (xs ++ [d]) → Below base w w' → wpList P ops Q rest (a.put o.dst v') w') : wpList P ops Q (o :: rest) a (w.alloc (.cells #[d] e')) := by
  refine wpList_append_own _ hgd s x t ho base e i z 1 bytes ht hi hz hsize hby hzs (by decide) v n xs hs (hown.alloc _) ⟨w.heap.size, 0, none⟩ 1 c [d] hx rfl ?_ ?_ ?_ ?_ ?_ ?_
  · exact cell_one_new w d e'
  · intro u hu
    simp at hu
    subst hu
    exact hd
  · simp only [maxLen]; omega
  · have := Nat.mul_le_mul (show n + 1 ≤ 1000001 by omega) hb8
    omega
  · simp; omega
  · intro v' w' hown' hg _
    refine h v' w' hown' ?_
    exact ((Below.refl base w).alloc hbase _).grown hg (by simp; omega) fun k hk => (hown.lt k hk).1

set_option maxHeartbeats 400000 in
theorem limb_any (v : Value) (xs : List Int) (i : Int) (w : World) (h : IsRow w v xs) (hi : 0 ≤ i) (hl : xs.length ≤ 9223372036854775807) :
    Calls Tryd.prog 42 #[v, .int .i64 i] w fun e w' => e = .returned (.int .i64 (lim xs i.toNat)) ∧ w = w' := by
  obtain ⟨A, c, rfl, hlc, hm, hx⟩ := h
  obtain ⟨k, rfl⟩ := Int.eq_ofNat_of_zero_le hi
  rw [Int.toNat_natCast]
  by_cases hk : k < xs.length
  · obtain ⟨b, o, rfl, hb, hc⟩ := row_cells hx (by omega)
    have cell := hc k hk
    clear hc hx
    generalize lim xs k = d at *
    generalize xs.length = n at *
    go_enter Tryd.func42, Tryd.ntmps42
    go_wp2
    go_ret
    exact ⟨rfl, rfl⟩
  · rw [getD_out xs (by omega)]
    clear hx
    generalize xs.length = n at *
    go_enter Tryd.func42, Tryd.ntmps42
    go_wp2
    go_ret
    exact ⟨rfl, rfl⟩

/-- A call returned a slice that reads as the canonical limbs of z; what was there is as it was. -/
def RowPost (w : World) (z : Int) (e : Ending) (w' : World) : Prop :=
  ∃ v ds, e = .returned v ∧ IsRow w' v ds ∧ Canon ds ∧ val ds = z ∧ Below w.heap.size w w'

theorem val_take_zero (xs : List Int) (k : Nat) (h : lim xs k = 0) : val (xs.take (k + 1)) = val (xs.take k) := by
  rw [val_take_succ, h]; omega

/-- What trim returns: the first limbs, up to the highest that is not 0. -/
def TrimPost (w : World) (v0 : Value) (xs : List Int) (e : Ending) (w' : World) : Prop :=
  ∃ v k, e = .returned v ∧ (∀ w0, IsRow w0 v0 xs → IsRow w0 v (xs.take k)) ∧ Canon (xs.take k) ∧ val (xs.take k) = val xs ∧ w = w'

theorem IsRow.cut {w : World} {A : Option Addr} {c k : Nat} {xs : List Int} (hk : k ≤ xs.length) (hl : xs.length ≤ c) (hm : c ≤ maxLen)
    (hx : xs = [] ∨ ∃ b o cur, A = some ⟨b, o, none⟩ ∧ w.heap[b]? = some (Obj.cells cur 3 (0, 0)) ∧ ∀ i, i < xs.length → cur[o + i]? = some (.int .i64 (lim xs i))) :
    IsRow w (.slice A k c) (xs.take k) := by
  have hlen : (xs.take k).length = k := by rw [List.length_take, Nat.min_eq_left hk]
  refine ⟨A, c, by rw [hlen], by omega, hm, ?_⟩
  rcases hx with rfl | ⟨b, o, cur, hA, hb, hc⟩
  · exact .inl (by simp)
  · refine .inr ⟨b, o, cur, hA, hb, fun i hi => ?_⟩
    rw [hlen] at hi
    rw [hc i (by omega)]; unfold lim; rw [List.getD_eq_getElem?_getD, List.getD_eq_getElem?_getD, List.getElem?_take, if_pos hi]

theorem IsRow.cut' {A : Option Addr} {n c k : Nat} {xs : List Int} (hn : xs.length = n) (hk : k ≤ n) (w0 : World) (h : IsRow w0 (.slice A n c) xs) : IsRow w0 (.slice A k c) (xs.take k) := by
  subst hn
  obtain ⟨A', c', hv, hl, hm, hx⟩ := h
  injection hv with hA hn hc
  subst hA hc
  exact IsRow.cut hk hl hm hx

set_option maxHeartbeats 400000 in
theorem trim_any (v : Value) (xs : List Int) (w : World) (h : IsRow w v xs) (hl : Limbs xs) :
    Calls Tryd.prog 54 #[v] w (TrimPost w v xs) := by
  obtain ⟨A, c, rfl, hlc, hm, hx⟩ := h
  unfold maxLen at hm
  have HX := hid hx
  clear hx
  have HL := hid hl
  clear hl
  generalize hn : xs.length = n at *
  have HN := hid hn
  clear hn
  go_enter Tryd.func54, Tryd.ntmps54
  go_wp2
  go_loop [3] (fun i => ∃ k : Nat, k ≤ n ∧ i = .int .i64 k ∧ val (xs.take k) = val xs) (fun i => (intOf i).toNat)
  case atStart => exact ⟨n, Nat.le_refl _, rfl, by rw [take_all _ (by have := HN.out; omega)]⟩
  case round =>
    obtain ⟨k, hk, rfl, hval⟩ := hrel
    have HV := hid hval
    clear hval
    by_cases h0 : k = 0
    · subst h0
      go_wp2
      go_ret
      have h1 := HN.out
      refine ⟨_, 0, rfl, fun w0 hw => IsRow.cut' h1 (by omega) w0 hw, by simpa using Canon.nil, HV.out, rfl⟩
    · obtain ⟨b, o, rfl, hb, hc⟩ := row_cells (w := w) (A := A) (xs := xs) (by rw [HN.out]; exact HX.out) (by have := HN.out; omega)
      have hc := fun i (hi : i < n) => hc i (by have := HN.out; omega)
      have cell := hc (k - 1) (by omega)
      have HC := hid hc
      clear hc
      by_cases hz : lim xs (k - 1) = 0
      · rw [hz] at cell
        have hz' := hid hz
        clear hz
        go_wp2
        go_round
        case rel => exact ⟨k - 1, by omega, by go_num, by rw [← HV.out]; have := val_take_zero xs (k - 1) hz'.out; rw [show k - 1 + 1 = k by omega] at this; exact this.symm⟩
        case measure => simp [intOf]; omega
      · have hz' : (lim xs (k - 1) == 0) = false := by simpa using hz
        have HZ := hid hz
        clear hz
        generalize hd : lim xs (k - 1) = d at *
        have HD := hid hd
        clear hd
        go_wp2
        go_ret
        have h1 := HN.out
        refine ⟨_, k, rfl, fun w0 hw => IsRow.cut' h1 (by omega) w0 hw, Canon.of_take HL.out (by omega) (fun _ => by rw [HD.out]; exact HZ.out), HV.out, rfl⟩
end Go.Proofs.YtjhekggeofalfaaDoor
