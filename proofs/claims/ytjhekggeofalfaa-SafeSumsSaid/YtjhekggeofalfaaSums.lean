/- noonmarklaw01.SafeSums returns true at every input and writes nothing that was there. -/
import Derived.Test.YtjhekggeofalfaaTotal
import Derived.Deep.RegionHeld3
import Derived.Deep.AppendLies
namespace Go.Proofs.Ytjhekggeofalfaa
open Go.RowKit

/-- 'append' onto a row of the call's own, at a step of a region that draws. -/
theorem step_append_own {P : Program} {ops : Array Oper} {o : Oper} {a : Act} {w : World} {K : Act → World → Prop} {Q : Exit → Act → World → Prop} {E : Prop} (hgd : o.guard = none) (s x : Operand) (t : TypeId)
    (ho : o.op = .call { callee := .builtin .append, args := #[s, x], argTypes := #[t, t] })
    (base : Nat) (e : TypeId) (i : TypeInfo) (z : Value) (size bytes : Nat) (ht : P.underlying t = some (.slice e)) (hi : P.info? e = some i) (hz : i.zero = some z)
    (hsize : i.size = size) (hby : i.bytes = bytes) (hzs : z.cells.size = size) (hsz : 0 < size)
    (v : Value) (n : Nat) (xs : List Value) (hs : a.eval s = v) (hown : w.ownsRow base e size v n xs)
    (ad : Addr) (m c : Nat) (news : List Value) (hx : a.eval x = .slice (some ad) m c) (hl : news.length = m * size) (hnews : ∀ j u, news[j]? = some u → w.cell? (ad.add j) = some u) (h1 : ∀ u ∈ news, u.oneCell' = true)
    (h63 : n + m ≤ maxLen) (hbytes : (n + m) * bytes ≤ 140737488355328) (hbase : base ≤ w.heap.size)
    (h : ∀ v' w', w'.ownsRow base e size v' (n + m) (xs ++ news) → w.grownBy w' v.ownBlock → (v' = .slice none 0 0 ↔ v = .slice none 0 0 ∧ m = 0) → K (a.put o.dst v') w') :
    if Region.wanted o (yielded ops a.tmps) = true then Oper.wp P o a w K Q else E := by
  have hw : Region.wanted o (yielded ops a.tmps) = true := by simp [Region.wanted, hgd]
  rw [if_pos hw]
  exact wp_append_own w s x t ho base e i z size bytes ht hi hz hsize hby hzs hsz v n xs hs hown ad m c news hx hl hnews h1 h63 hbytes hbase h
theorem step_append_none {P : Program} {ops : Array Oper} {o : Oper} {a : Act} {w : World} {K : Act → World → Prop} {Q : Exit → Act → World → Prop} {E : Prop} (hgd : o.guard = none) (s x : Operand) (t : TypeId)
    (ho : o.op = .call { callee := .builtin .append, args := #[s, x], argTypes := #[t, t] })
    (base : Nat) (e : TypeId) (i : TypeInfo) (size : Nat) (ht : P.underlying t = some (.slice e)) (hi : P.info? e = some i)
    (v : Value) (n : Nat) (xs : List Value) (hs : a.eval s = v) (hown : w.ownsRow base e size v n xs) (hx : a.eval x = .slice none 0 0)
    (h : K (a.put o.dst v) w) :
    if Region.wanted o (yielded ops a.tmps) = true then Oper.wp P o a w K Q else E := by
  have hw : Region.wanted o (yielded ops a.tmps) = true := by simp [Region.wanted, hgd]
  rw [if_pos hw]
  have hrun := run_append_owned_none (P := P) (w := w) base t o.type e i size ht hi v n xs hown
  unfold Oper.wp
  simp [execOp, ho, resolve, invoke, builtin, hs, hx, hrun, Result.andThen]
  exact h

theorem lim_drop (xs : List Int) (k i : Nat) : lim (xs.drop k) i = lim xs (k + i) := by
  unfold lim
  simp [List.getD_eq_getElem?_getD, List.getElem?_drop]
theorem lim_take (xs : List Int) (k i : Nat) (h : i < k) : lim (xs.take k) i = lim xs i := by
  unfold lim
  simp [List.getD_eq_getElem?_getD, h]
/-- 'list[k:]': where nothing is left behind it, the array's own address is kept. -/
theorem IsLongs.drop {w : World} {A : Option Addr} {n c k : Nat} {xs : List Int} (h : IsLongs w (.slice A n c) xs) (hk : k ≤ n) (hn : xs.length = n) :
    IsLongs w (.slice (if c = k then A else A.map (fun x => x.add k)) (n - k) (c - k)) (xs.drop k) := by
  subst hn
  obtain ⟨A', c', hv, hl, hm, hx⟩ := h
  injection hv with e1 e2 e3
  subst e3
  refine ⟨_, c - k, by rw [List.length_drop], by rw [List.length_drop]; omega, by omega, ?_⟩
  rcases hx with rfl | ⟨b', o', hA, hlt, hc⟩
  · left; simp
  · subst e1
    subst hA
    by_cases hck : c = k
    · left
      exact List.drop_eq_nil_of_le (by omega)
    · right
      refine ⟨b', o' + k, by rw [if_neg hck, Option.map_some, add_none'], hlt, fun i hi => ?_⟩
      rw [List.length_drop] at hi
      rw [lim_drop, Nat.add_assoc]
      exact hc (k + i) (by omega)
theorem IsLongs.take {w : World} {A : Option Addr} {n c k : Nat} {xs : List Int} (h : IsLongs w (.slice A n c) xs) (hk : k ≤ n) (hn : xs.length = n) :
    IsLongs w (.slice A k c) (xs.take k) := by
  subst hn
  obtain ⟨A', c', hv, hl, hm, hx⟩ := h
  injection hv with e1 e2 e3
  subst e1 e3
  have hlen : (xs.take k).length = k := by rw [List.length_take]; omega
  refine ⟨A, c, by rw [hlen], by omega, hm, ?_⟩
  rcases hx with rfl | ⟨b', o', hA, hlt, hc⟩
  · left; simp
  · right
    refine ⟨b', o', hA, hlt, fun i hi => ?_⟩
    rw [hlen] at hi
    rw [lim_take _ _ _ hi]
    exact hc i (by omega)
theorem longs_append (a b : List Int) : longs (a ++ b) = longs a ++ longs b := List.map_append ..

set_option maxRecDepth 100000 in
set_option maxHeartbeats 2000000 in
theorem safeSums_any (A : Option Addr) (n c : Nat) (xs : List Int) (t : Int) (w : World) (hA : A = none → n = 0 ∧ c = 0) (h : IsLongs w (.slice A n c) xs) (hn : xs.length = n) (hf : ∀ x ∈ xs, Fits x) (ht : Fits t) :
    Calls Try.prog 11 #[.slice A n c, .int .i64 t] w fun e w' => e = .returned (.bool true) ∧ Below w.heap.size w w' := by
  have H := hid h
  have HF := hid hf
  have HA := hid hA
  have HN := hid hn
  have HT := hid ht
  have hm : n ≤ 9223372036854775807 := by
    obtain ⟨A', c', hv, hl, hm, -⟩ := h
    injection hv with _ hv1 hv2
    unfold maxLen at hm
    omega
  clear hf hA hn h ht
  by_cases h100 : 100 < n
  · go_enter Try.func11, Try.ntmps11
    go_wp2_with fail
    refine (alive01_any _).mono ?_
    rintro r w1 ⟨rfl, t⟩
    go_wp2_with fail
    go_ret
    exact ⟨rfl, t⟩
  go_enter Try.func11, Try.ntmps11
  go_wp2_with fail
  refine (alive01_any _).mono ?_
  rintro r w1 ⟨rfl, b⟩
  have B := hid b
  have H1 := hid (H.out.below b)
  clear b
  go_wp2_with fail
  refine (copyLongs_any A n c xs w1 HA.out HN.out (by omega) H1.out).mono ?_
  rintro r w2 ⟨v2, rfl, o2, b2⟩
  have I2 := hid (IsLongs.of_own HN.out o2)
  replace B := hid (B.out.trans (b2.mono B.out.size))
  clear o2 b2 H1
  obtain ⟨A2, c2, hv, -⟩ := I2.out
  rw [HN.out] at hv
  subst hv
  go_wp2_with fail
  refine (safeSum_any _ xs w2 I2.out HF.out).mono ?_
  generalize hp : sat (sumI xs) = p
  generalize hq : err (sumI xs) = q
  have HP := hid hp
  have HQ := hid hq
  clear hp hq
  rintro r w' ⟨rfl, rfl⟩
  go_wp2_with fail
  refine (refSum_any _ xs w2 (H.out.below B.out) HF.out (by have := HN.out; omega)).mono ?_
  rw [HP.out, HQ.out]
  rintro r w3 ⟨rfl, b3⟩
  replace I2 := hid (I2.out.below b3)
  replace B := hid (B.out.trans (b3.mono B.out.size))
  clear b3
  go_upto_region 8 with fail
  go_cut [37] (fun v wr => v = .bool (decide (t < 0 ∨ (n : Int) < t)) ∧ wr = w3)
  case first =>
    by_cases t0 : t < 0
    · have e : Hid (decide (t < 0 ∨ (n : Int) < t) = true) := decide_eq_true (.inl t0)
      go_wp2_with fail
      go_meet
      exact ⟨by rw [e.out], rfl⟩
    by_cases t1 : (n : Int) < t
    · have e : Hid (decide (t < 0 ∨ (n : Int) < t) = true) := decide_eq_true (.inr t1)
      go_wp2_with fail
      go_meet
      exact ⟨by rw [e.out], rfl⟩
    have e : Hid (decide (t < 0 ∨ (n : Int) < t) = false) := decide_eq_false (fun q => q.elim t0 t1)
    go_wp2_with fail
    go_meet
    exact ⟨by rw [e.out], rfl⟩
  case rest =>
    obtain ⟨rfl, rfl⟩ := hcut
    go_upto_if 37 with fail
    go_cut [1] (fun v wr => ∃ k : Nat, k ≤ n ∧ v = .int .i64 k ∧ wr = wc)
    case first =>
      by_cases tt : t < 0 ∨ (n : Int) < t
      · have e : decide (t < 0 ∨ (n : Int) < t) = true := decide_eq_true tt
        go_wp2_with fail
        go_meet
        exact ⟨0, Nat.zero_le _, rfl, rfl⟩
      · have e : decide (t < 0 ∨ (n : Int) < t) = false := decide_eq_false tt
        obtain ⟨k, rfl⟩ := Int.eq_ofNat_of_zero_le (show 0 ≤ t by omega)
        have hk : k ≤ n := by omega
        clear tt
        go_wp2_with fail
        go_meet
        exact ⟨k, hk, rfl, rfl⟩
    case rest =>
      obtain ⟨k, hk, rfl, rfl⟩ := hcut
      have hlc : n ≤ c ∧ c ≤ 9223372036854775807 := by
        obtain ⟨A', c', hv, hl, hm', -⟩ := H.out
        injection hv with _ hv1 hv2
        unfold maxLen at hm'
        have := HN.out
        omega
      go_upto_region 10 with fail
      go_cut [10] (fun v wr => IsLongs wr v (xs.drop k ++ xs.take k) ∧ Below wc.heap.size wc wr)
      case first =>
        have H3 := hid (H.out.below B.out)
        have k0 : (0 : Int) ≤ (k : Int) := by omega
        have k1 : (k : Int) ≤ (n : Int) := by omega
        have k2 : (k : Int) ≤ (c : Int) := by omega
        obtain ⟨i0, hi0, hz0, hz1, hz2⟩ := info_parts infoLong
        have HI := hid hi0
        have HZ := hid hz0
        have HZ1 := hid hz1
        have HZ2 := hid hz2
        clear hi0 hz0 hz1 hz2
        have HE := hid (H3.out.drop hk HN.out)
        have HF3 := hid (H3.out.take hk HN.out)
        have LD := hid (show (xs.drop k).length = n - k by rw [List.length_drop, HN.out])
        have LT := hid (show (longs (xs.take k)).length = k * 1 by rw [longs_length, List.length_take, HN.out]; omega)
        cases A with
        | none =>
          obtain ⟨rfl, rfl⟩ := HA.out rfl
          obtain rfl : k = 0 := by omega
          have XE := hid (show xs = [] from List.eq_nil_of_length_eq_zero HN.out)
          go_region_held3 (fun _ => True) (trivial)
            (first
              | (go_at_call 46; refine (copyLongs_any none 0 0 [] _ (fun _ => ⟨rfl, rfl⟩) rfl (Nat.zero_le _) ⟨none, 0, rfl, Nat.le_refl _, Nat.zero_le _, .inl rfl⟩).mono ?_; rintro e w4 ⟨v4, rfl, o4, b4⟩; have O4 := hid o4; have B4 := hid b4; clear o4 b4)
              | (refine step_append_none rfl (.tmp 41) (.tmp 44) 71 rfl wc.drew.heap.size 2 i0 1 Try.underlying71 HI.out v4 0 [] rfl O4.out rfl ?_)
              | fail "kein Arm")
          go_wp2_with fail
          go_meet
          refine ⟨?_, (Below.refl _ wc).drew.trans B4.out⟩
          rw [XE.out]
          exact IsLongs.of_own (n := 0) rfl O4.out
        | some x =>
          have HE2 := hid (show IsLongs wc.drew (.slice (if c = k then some x else some (x.add k)) (n - k) (c - k)) (xs.drop k) from HE.out.below (Below.refl _ wc).drew)
          have NI := hid (show (if c = k then some x else some (x.add k)) = none → n - k = 0 ∧ c - k = 0 by split <;> intro q <;> cases q)
          generalize hA1 : (if c = k then some x else some (x.add k)) = A1 at HE2 NI
          have HF5 := hid (show IsLongs wc.drew (.slice (some x) k c) (xs.take k) from HF3.out.below (Below.refl _ wc).drew)
          have L1 := hid (show n - k ≤ 100 by omega)
          have L2 := hid (show n - k + k ≤ maxLen by simp only [maxLen]; omega)
          have L3 := hid (show (n - k + k) * 8 ≤ 140737488355328 by omega)
          go_region_held3 (fun _ => True) (trivial)
            (first
              | (go_at_call 46; refine (copyLongs_any _ (n - k) (c - k) (xs.drop k) _ NI.out LD.out L1.out HE2.out).mono ?_; rintro e w4 ⟨v4, rfl, o4, b4⟩; have O4 := hid o4; have B4 := hid b4; have HF4 := hid (HF5.out.below b4); clear o4 b4)
              | (refine step_append_own rfl (.tmp 41) (.tmp 44) 71 rfl wc.drew.heap.size 2 i0 (.int .i64 0) 1 8 Try.underlying71 HI.out HZ.out HZ1.out HZ2.out rfl Nat.one_pos v4 (n - k) (longs (xs.drop k)) rfl O4.out x k c (longs (xs.take k)) rfl LT.out HF4.out.src (longs_one _) L2.out L3.out B4.out.size ?_; intro v5 w5 o5 g5 _)
              | fail "kein Arm")
          go_wp2_with fail
          go_meet
          refine ⟨IsLongs.of_own (n := n - k + k) (by rw [List.length_append, LD.out, ← longs_length (xs.take k), LT.out]; omega) (by rw [longs_append]; exact o5), ?_⟩
          exact ((Below.refl _ wc).drew.trans B4.out).grown g5 B4.out.size fun q hq => (O4.out.lt q hq).1
      case rest =>
        obtain ⟨i3, b3⟩ := hcut
        have I3 := hid i3
        replace I2 := hid (I2.out.below b3)
        replace B := hid (B.out.trans (b3.mono B.out.size))
        clear i3 b3
        have SE := hid (show sumI (xs.drop k ++ xs.take k) = sumI xs by rw [sumI_append, Int.add_comm, ← sumI_append, List.take_append_drop])
        have FE := hid (show ∀ x ∈ xs.drop k ++ xs.take k, Fits x from fun x hx => by
          rcases List.mem_append.1 hx with hx | hx
          · exact HF.out x (List.mem_of_mem_drop hx)
          · exact HF.out x (List.mem_of_mem_take hx))
        go_wp2_with fail
        refine (safeSum_any _ _ _ I3.out FE.out).mono ?_
        rw [SE.out, HP.out, HQ.out]
        rintro r w' ⟨rfl, rfl⟩
        go_wp2_with fail
        refine (sameLongs_any _ _ _ _ _ xs _ HN.out I2.out (H.out.below B.out)).mono ?_
        rintro r w' ⟨rfl, b⟩
        go_wp2_with fail
        go_ret
        exact ⟨rfl, B.out.trans (b.mono B.out.size)⟩
end Go.Proofs.Ytjhekggeofalfaa
