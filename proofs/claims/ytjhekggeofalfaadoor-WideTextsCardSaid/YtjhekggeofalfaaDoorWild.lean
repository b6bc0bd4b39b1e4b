/- A region that draws its order, whose callees hand back values that hang on memory: each operation is shown once, from what it waits for; the last one waits for all. -/
import Derived.Test.YtjhekggeofalfaaDoorTame
import Derived.StillTail
namespace Go.Proofs.YtjhekggeofalfaaDoor
open Go.RowKit

/-- The operations that o waits for. -/
def waits (o : Oper) : List Nat := (o.after.toList.filter fun e => Region.binds .any e).map (·.on)
/-- Every operation waits for earlier ones alone. -/
def forwardB (ops : Array Oper) : Bool := (List.range ops.size).all fun i => match ops[i]? with | some o => (waits o).all (· < i) | none => true
def plainB (ops : Array Oper) : Bool := ops.all fun o => o.guard == none
def upd (x : Nat → Value) (i : Nat) (v : Value) : Nat → Value := fun k => if k = i then v else x k

/-- Each operation of the head, from what it waits for. -/
def Steps (P : Program) (Q : Exit → Act → World → Prop) (fill : (Nat → Value) → Act) (w0 : World) (l : List (Nat × Obj)) (φ : Nat → Value → World → Prop) : Nat → List Oper → Prop
  | _, [] => True
  | i, o :: rest => (∀ (x : Nat → Value) (W : World) (K : Act → World → Prop), Blks w0 W l → (∀ k ∈ waits o, φ k (x k) W) →
      (∀ v W', Below W.heap.size W W' → φ i v W' → K ((fill x).put o.dst v) W') → o.wp P (fill x) W K Q) ∧ Steps P Q fill w0 l φ (i + 1) rest
/-- What an operation of the head writes. -/
def Puts (fill : (Nat → Value) → Act) : Nat → List Oper → Prop
  | _, [] => True
  | i, o :: rest => (∀ x v, (fill x).put o.dst v = fill (upd x i v)) ∧ Puts fill (i + 1) rest

section
variable {P : Program} {ops : Array Oper} {Q : Exit → Act → World → Prop} {fill : (Nat → Value) → Act} {w0 : World} {l : List (Nat × Obj)} {φ : Nat → Value → World → Prop}
theorem Steps.at_ : ∀ {j : Nat} {os : List Oper}, Steps P Q fill w0 l φ j os → ∀ (i : Nat) (o : Oper), os[i]? = some o →
    ∀ (x : Nat → Value) (W : World) (K : Act → World → Prop), Blks w0 W l → (∀ k ∈ waits o, φ k (x k) W) → (∀ v W', Below W.heap.size W W' → φ (j + i) v W' → K ((fill x).put o.dst v) W') → o.wp P (fill x) W K Q
  | _, [], _, i, o, h => by simp at h
  | j, _ :: os, hs, 0, o, h => by
    simp at h; subst h; exact hs.1
  | j, _ :: os, hs, i + 1, o, h => by
    have := Steps.at_ hs.2 i o (by simpa using h)
    rw [show j + 1 + i = j + (i + 1) by omega] at this
    exact this
theorem Puts.at_ : ∀ {j : Nat} {os : List Oper}, Puts fill j os → ∀ (i : Nat) (o : Oper), os[i]? = some o → ∀ x v, (fill x).put o.dst v = fill (upd x (j + i) v)
  | _, [], _, i, o, h => by simp at h
  | j, _ :: os, hs, 0, o, h => by
    simp at h; subst h; exact hs.1
  | j, _ :: os, hs, i + 1, o, h => by
    have := Puts.at_ hs.2 i o (by simpa using h)
    rw [show j + 1 + i = j + (i + 1) by omega] at this
    exact this
theorem forward_spec (h : forwardB ops = true) {i : Nat} {o : Oper} (ho : ops[i]? = some o) {k : Nat} (hk : k ∈ waits o) : k < i := by
  have hlt : i < ops.size := (Array.getElem?_eq_some_iff.1 ho).1
  have := List.all_eq_true.1 h i (List.mem_range.2 hlt)
  simp only [ho] at this
  simpa using List.all_eq_true.1 this k hk
theorem mem_waits {o : Oper} {k : Nat} : k ∈ waits o ↔ ∃ e ∈ o.after, Region.binds .any e = true ∧ e.on = k := by
  unfold waits
  simp [List.mem_map, List.mem_filter, Array.mem_toList_iff, and_assoc]
theorem plain_spec (h : plainB ops = true) {i : Nat} {o : Oper} (ho : ops[i]? = some o) (a : Act) : Region.wanted o (yielded ops a.tmps) = true := by
  have hg : o.guard = none := by
    obtain ⟨hlt, he⟩ := Array.getElem?_eq_some_iff.1 ho
    have := Array.all_eq_true.1 h i hlt
    rw [he] at this
    simpa using this
  unfold Region.wanted
  rw [hg]

/-- Head and last operation. -/
theorem wild_any {n : Nat} {os : List Oper} {last : Oper} (hops : ops = (os ++ [last]).toArray) (hn : os.length = n) (hf : forwardB ops = true) (hp : plainB ops = true) (hall : ∀ i, i < n → ∃ j o, i < j ∧ j ≤ n ∧ ops[j]? = some o ∧ i ∈ waits o)
    (hstep : Steps P Q fill w0 l φ 0 os) (hput : Puts fill 0 os) (stable : ∀ i v W W', Below W.heap.size W W' → φ i v W → φ i v W')
    (hlast : ∀ x W, Blks w0 W l → (∀ k, k < n → φ k (x k) W) → last.wp P (fill x) W (fun a' W' => Q .normal a' W') Q) :
    ∀ (m : Nat) (U : List Nat) (listed : Array Bool) (x : Nat → Value) (W : World), U.length = m → U.Nodup → (∀ i, i ∈ U ↔ i < n + 1 ∧ listed.getD i true = false) → n ∈ U → Blks w0 W l →
      (∀ (j : Nat) (o : Oper), ops[j]? = some o → listed.getD j false = true → ∀ k ∈ waits o, listed.getD k false = true) →
      (∀ k, k < n → listed.getD k false = true → φ k (x k) W) → wpAny P .any ops Q m listed (fill x) W := by
  have hsz : ops.size = n + 1 := by subst hops; simp [hn]
  have hol : ops[n]? = some last := by subst hops; simp [← hn]
  have ho : ∀ i o, i < n → ops[i]? = some o → os[i]? = some o := fun i o hi h => by
    subst hops
    rw [List.getElem?_toArray, List.getElem?_append_left (by omega)] at h
    exact h
  intro m
  induction m with
  | zero => intro U listed x W hl _ _ hnU; rw [List.eq_nil_of_length_eq_zero hl] at hnU; cases hnU
  | succ m ih =>
    intro U listed x W hl hnd hU hnU hB hcl hφ
    have next : ∀ i, i ∈ U → (∀ j, j ∈ U.erase i ↔ j < n + 1 ∧ (listed.setIfInBounds i true).getD j true = false) ∧ (U.erase i).length = m ∧ (U.erase i).Nodup := fun i hi => by
      refine ⟨fun j => ?_, by rw [List.length_erase_of_mem hi, hl]; rfl, hnd.erase i⟩
      rw [hnd.mem_erase_iff, hU]
      constructor
      · rintro ⟨h1, h2, h3⟩
        exact ⟨h2, by rw [getD_set_ne true (Ne.symm h1)]; exact h3⟩
      · rintro ⟨h2, h3⟩
        by_cases hij : j = i
        · subst hij
          have h4 := ((hU j).1 hi).2
          have hlt : j < listed.size := by
            rcases Nat.lt_or_ge j listed.size with h' | h'
            · exact h'
            · simp [Array.getElem?_eq_none h'] at h4
          simp [hlt] at h3
        · exact ⟨hij, h2, by rwa [getD_set_ne true (Ne.symm hij)] at h3⟩
    refine ⟨fun hr => ?_, fun i hi => ?_⟩
    · -- the least that has not come up may come up
      exfalso
      have least : ∀ d i, i ≤ d → i ∈ U → Region.ready .any ops listed = [] → False := by
        intro d
        induction d with
        | zero =>
          intro i hid hiU hr
          obtain rfl : i = 0 := by omega
          have hlt : 0 < ops.size := by omega
          have : 0 ∈ Region.ready .any ops listed := mem_ready.2 ⟨((hU 0).1 hiU).2, ops[0], by simp [hlt], fun e he hb => by
            have := forward_spec hf (i := 0) (o := ops[0]) (by simp [hlt]) (mem_waits.2 ⟨e, he, hb, rfl⟩)
            omega⟩
          rw [hr] at this; cases this
        | succ d ihd =>
          intro i hid hiU hr
          have hlt : i < ops.size := by rw [hsz]; exact ((hU i).1 hiU).1
          have hoi : ops[i]? = some ops[i] := by simp [hlt]
          by_cases hc : ∀ e ∈ ops[i].after, Region.binds .any e = true → listed.getD e.on false = true
          · have : i ∈ Region.ready .any ops listed := mem_ready.2 ⟨((hU i).1 hiU).2, ops[i], hoi, hc⟩
            rw [hr] at this; cases this
          · simp only [Classical.not_forall] at hc
            obtain ⟨e, he, hb, hlb⟩ := hc
            have hk := forward_spec hf hoi (mem_waits.2 ⟨e, he, hb, rfl⟩)
            have hls : e.on < listed.size := by
              rcases Nat.lt_or_ge e.on listed.size with h' | h'
              · exact h'
              · have h4 := ((hU i).1 hiU).2
                simp [Array.getElem?_eq_none (show listed.size ≤ i by omega)] at h4
            exact ihd e.on (by omega) ((hU e.on).2 ⟨by omega, Go.getD_in hls (by simpa using hlb)⟩) hr
      exact least n n (Nat.le_refl _) hnU hr
    · obtain ⟨hun, o, hoi, hw⟩ := mem_ready.1 hi
      have hlt : i < n + 1 := by rw [← hsz]; exact (Array.getElem?_eq_some_iff.1 hoi).1
      have hiU : i ∈ U := (hU i).2 ⟨hlt, hun⟩
      obtain ⟨n1, n2, n3⟩ := next i hiU
      unfold wpOp
      simp only [hoi, plain_spec hp hoi, if_true]
      refine .inl ?_
      by_cases hin : i = n
      · subst hin
        rw [hol] at hoi
        injection hoi with hoi
        subst hoi
        have down : ∀ d k, i - k ≤ d → k < i → listed.getD k false = true := by
          intro d
          induction d with
          | zero => intro k h1 h2; omega
          | succ d ihd =>
            intro k h1 h2
            obtain ⟨j, o', hj1, hj2, hj3, hj4⟩ := hall k h2
            by_cases hji : j = i
            · subst hji
              rw [hol] at hj3
              injection hj3 with hj3
              subst hj3
              obtain ⟨e, he, hb, hon⟩ := mem_waits.1 hj4
              rw [← hon]; exact hw e he hb
            · exact hcl j o' hj3 (ihd j (by omega) (by omega)) k hj4
        have hdone : ∀ k, k < i → listed.getD k false = true := fun k hk => down i k (by omega) hk
        refine Oper.wp_mono (fun a' W' hq => ?_) (hlast x W hB fun k hk => hφ k hk (hdone k hk))
        have hm0 : U.erase i = [] := by
          apply List.eq_nil_iff_forall_not_mem.2
          intro j hj
          have hjU := List.mem_of_mem_erase hj
          have hne : j ≠ i := ((hnd.mem_erase_iff).1 hj).1
          have h5 := (hU j).1 hjU
          have h6 := hdone j (by omega)
          have hlj : j < listed.size := by
            rcases Nat.lt_or_ge j listed.size with h' | h'
            · exact h'
            · simp [Array.getElem?_eq_none h'] at h6
          have h7 := h5.2
          simp [hlj] at h6 h7
          rw [h6] at h7; cases h7
        rw [hm0] at n1 n2
        have : m = 0 := n2.symm
        subst this
        refine ⟨?_, hq⟩
        apply List.eq_nil_iff_forall_not_mem.2
        intro j hj
        obtain ⟨h1, o', ho', -⟩ := mem_ready.1 hj
        have := (n1 j).2 ⟨by rw [← hsz]; exact (Array.getElem?_eq_some_iff.1 ho').1, h1⟩
        cases this
      · have hi' : i < n := by omega
        refine hstep.at_ i o (ho i o hi' hoi) x W _ hB (fun k hk => ?_) fun v W' hb hv => ?_
        · obtain ⟨e, he, hbi, hon⟩ := mem_waits.1 hk
          have := forward_spec hf hoi hk
          exact hφ k (by omega) (by rw [← hon]; exact hw e he hbi)
        · rw [hput.at_ i o (ho i o hi' hoi) x v]
          refine ih (U.erase i) _ _ W' n2 n3 n1 ((hnd.mem_erase_iff).2 ⟨Ne.symm hin, hnU⟩) (hB.below hb) (fun j o' hj hlj k hk => ?_) fun k hk hlk => ?_
          · by_cases hij : i = j
            · subst hij
              have : o' = o := Option.some.inj (hj.symm.trans hoi)
              subst this
              obtain ⟨e, he, hbi, hon⟩ := mem_waits.1 hk
              rw [← hon]; exact getD_set_true (hw e he hbi)
            · rw [getD_set_ne false hij] at hlj
              exact getD_set_true (hcl j o' hj hlj k hk)
          unfold upd
          rw [Nat.zero_add] at hv ⊢
          by_cases hki : k = i
          · subst hki; rw [if_pos rfl]; exact hv
          · rw [if_neg hki]
            rw [getD_set_ne false (Ne.symm hki)] at hlk
            exact stable k _ W W' hb (hφ k hk hlk)
end

/-- Each operation of the head is waited for by a later one. -/
def lastB (ops : Array Oper) (n : Nat) : Bool := (List.range n).all fun i => (List.range (n + 1)).any fun j => decide (i < j) && (match ops[j]? with | some o => (waits o).contains i | none => false)
theorem last_spec {ops : Array Oper} {n : Nat} (h : lastB ops n = true) : ∀ i, i < n → ∃ j o, i < j ∧ j ≤ n ∧ ops[j]? = some o ∧ i ∈ waits o := by
  intro i hi
  obtain ⟨j, hj, h2⟩ := List.any_eq_true.1 (List.all_eq_true.1 h i (List.mem_range.2 hi))
  rw [Bool.and_eq_true, decide_eq_true_eq] at h2
  obtain ⟨h3, h4⟩ := h2
  cases ho : ops[j]? with
  | none => rw [ho] at h4; cases h4
  | some o =>
    rw [ho] at h4
    exact ⟨j, o, h3, by have := List.mem_range.1 hj; omega, ho, by simpa using h4⟩
theorem wp_region_wild {P : Program} {id : Nat} {Q : Exit → Act → World → Prop} {a : Act} {W : World} {ops : List Oper} (w0 : World) (l : List (Nat × Obj)) (os : List Oper) (last : Oper) (fill : (Nat → Value) → Act) (x0 : Nat → Value) (φ : Nat → Value → World → Prop)
    (hB : Blks w0 W l) (hops : ops = os ++ [last]) (ha : a = fill x0) (hm : P.follows .mixedOrders = true) (hf : (forwardB ops.toArray && plainB ops.toArray && lastB ops.toArray os.length) = true)
    (hput : Puts fill 0 os) (stable : ∀ i v W W', Below W.heap.size W W' → φ i v W → φ i v W') (hstep : Steps P Q fill w0 l φ 0 os)
    (hlast : ∀ x W, Blks w0 W l → (∀ k, k < os.length → φ k (x k) W) → last.wp P (fill x) W (fun a' W' => Q .normal a' W') Q) : (Code.region id ops.toArray true).wp P Q a W := by
  subst hops ha
  simp only [Bool.and_eq_true] at hf
  obtain ⟨⟨h1, h2⟩, h3⟩ := hf
  refine wp_region_any hm ?_
  have hsz : (os ++ [last]).toArray.size = os.length + 1 := by simp
  rw [hsz]
  refine wild_any rfl rfl h1 h2 (last_spec h3) hstep hput stable hlast (os.length + 1) (List.range (os.length + 1)) _ x0 _ (by simp) List.nodup_range
    (fun i => ?_) (by simp) hB.drew (fun j _ _ hl => by rw [getD_replicate_false] at hl; cases hl) (fun k _ hl => by rw [getD_replicate_false] at hl; cases hl)
  rw [List.mem_range]
  exact ⟨fun h => ⟨h, Go.getD_in (by simpa using h) (getD_replicate_false _ _)⟩, fun h => h.1⟩

/-! ### The frame, written by the operations themselves -/
def puts (x : Nat → Value) : Nat → List Oper → Act → Act
  | _, [], a => a
  | i, o :: os, a => puts x (i + 1) os (a.put o.dst (x i))
/-- No two operations write one slot. -/
def distinctB : List Oper → Bool
  | [] => true
  | o :: os => (os.all fun o' => o'.dst != o.dst || o.dst.isNone) && distinctB os
theorem put_twice (a : Act) (d : Option Tmp) (u v : Value) : (a.put d u).put d v = a.put d v := by
  cases d with
  | none => rfl
  | some d => simp [Act.put]
theorem put_own (a : Act) (d : Tmp) : a.put (some d) (a.tmps.getD d undef) = a := by
  obtain ⟨t, ds⟩ := a
  simp only [Act.put, Act.mk.injEq, and_true]
  apply Array.ext_getElem?
  intro i
  rw [Array.getElem?_setIfInBounds]
  by_cases h : d = i
  · subst h
    rw [if_pos rfl]
    by_cases hl : d < t.size
    · rw [if_pos hl, Array.getD_eq_getD_getElem?, Array.getElem?_eq_getElem hl]; rfl
    · rw [if_neg hl, Array.getElem?_eq_none (Nat.le_of_not_lt hl)]
  · rw [if_neg h]
theorem puts_comm (x : Nat → Value) (d : Option Tmp) (v : Value) : ∀ (os : List Oper) (j : Nat) (a : Act), (∀ o ∈ os, o.dst ≠ d ∨ d = none) → (puts x j os a).put d v = puts x j os (a.put d v)
  | [], _, _, _ => rfl
  | o :: os, j, a, h => by
    show (puts x (j + 1) os (a.put o.dst (x j))).put d v = puts x (j + 1) os ((a.put d v).put o.dst (x j))
    rw [puts_comm x d v os (j + 1) _ (fun o' ho' => h o' (List.mem_cons_of_mem _ ho'))]
    congr 1
    refine Act.put_comm a _ _ fun e he hd => ?_
    rcases h o (List.mem_cons_self ..) with hne | hn
    · exact hne (he.trans hd.symm)
    · rw [hn] at hd; cases hd
theorem puts_congr {x y : Nat → Value} : ∀ (os : List Oper) (j : Nat) (a : Act), (∀ k, j ≤ k → x k = y k) → puts x j os a = puts y j os a
  | [], _, _, _ => rfl
  | o :: os, j, a, h => by
    show puts x (j + 1) os (a.put o.dst (x j)) = puts y (j + 1) os (a.put o.dst (y j))
    rw [h j (Nat.le_refl _)]
    exact puts_congr os (j + 1) _ fun k hk => h k (by omega)
theorem puts_put (x : Nat → Value) (v : Value) : ∀ (os : List Oper) (j : Nat) (a : Act), distinctB os = true → ∀ (i : Nat) (o : Oper), os[i]? = some o → (puts x j os a).put o.dst v = puts (upd x (j + i) v) j os a
  | [], _, _, _, i, o, h => by simp at h
  | o' :: os, j, a, hd, 0, o, h => by
    simp at h; subst h
    simp only [distinctB, Bool.and_eq_true] at hd
    show (puts x (j + 1) os (a.put o'.dst (x j))).put o'.dst v = puts (upd x (j + 0) v) (j + 1) os (a.put o'.dst (upd x (j + 0) v j))
    rw [puts_comm x _ v os (j + 1) _ (fun o hm => by
      have := List.all_eq_true.1 hd.1 o hm
      simp only [Bool.or_eq_true, bne_iff_ne, Option.isNone_iff_eq_none] at this
      exact this), put_twice]
    rw [show upd x (j + 0) v j = v by simp [upd]]
    exact puts_congr os (j + 1) _ fun k hk => by unfold upd; rw [if_neg (by omega)]
  | o' :: os, j, a, hd, i + 1, o, h => by
    simp only [distinctB, Bool.and_eq_true] at hd
    show (puts x (j + 1) os (a.put o'.dst (x j))).put o.dst v = puts (upd x (j + (i + 1)) v) (j + 1) os (a.put o'.dst (upd x (j + (i + 1)) v j))
    rw [puts_put x v os (j + 1) _ hd.2 i o (by simpa using h), show j + 1 + i = j + (i + 1) by omega, show upd x (j + (i + 1)) v j = x j by unfold upd; rw [if_neg (by omega)]]
theorem puts_own (x : Nat → Value) : ∀ (os : List Oper) (j : Nat) (a : Act), (∀ i o, os[i]? = some o → ∀ d, o.dst = some d → x (j + i) = a.tmps.getD d undef) → puts x j os a = a
  | [], _, _, _ => rfl
  | o :: os, j, a, h => by
    show puts x (j + 1) os (a.put o.dst (x j)) = a
    have e : a.put o.dst (x j) = a := by
      cases hd : o.dst with
      | none => rfl
      | some d =>
        have := h 0 o (by simp) d hd
        rw [Nat.add_zero] at this
        rw [this]; exact put_own a d
    rw [e]
    exact puts_own x os (j + 1) a fun i o' ho' d hd => by
      have := h (i + 1) o' (by simpa using ho') d hd
      rwa [show j + 1 + i = j + (i + 1) by omega]
def ownX (a : Act) (os : List Oper) : Nat → Value := fun k => match os[k]? with
  | some o => (match o.dst with | some d => a.tmps.getD d undef | none => undef)
  | none => undef
theorem Puts.of {fill : (Nat → Value) → Act} : ∀ (os : List Oper) (j : Nat), (∀ i o, os[i]? = some o → ∀ x v, (fill x).put o.dst v = fill (upd x (j + i) v)) → Puts fill j os
  | [], _, _ => trivial
  | o :: os, j, h => ⟨fun x v => by have := h 0 o (by simp) x v; simpa using this, Puts.of os (j + 1) fun i o' ho' x v => by
      have := h (i + 1) o' (by simpa using ho') x v
      rw [show j + 1 + i = j + (i + 1) by omega]; exact this⟩

/-- **A REGION THAT DRAWS ITS ORDER, EACH OPERATION SHOWN ONCE.** -/
theorem wp_region_each {P : Program} {id : Nat} {Q : Exit → Act → World → Prop} {a : Act} {W : World} {ops : List Oper} (w0 : World) (l : List (Nat × Obj)) (n : Nat) (φ : Nat → Value → World → Prop)
    (hB : Blks w0 W l) (last : Oper) (hdr : ops.drop n = [last]) (hm : P.follows .mixedOrders = true) (hf : (forwardB ops.toArray && plainB ops.toArray && lastB ops.toArray (ops.take n).length && distinctB (ops.take n)) = true)
    (stable : ∀ i v W W', Below W.heap.size W W' → φ i v W → φ i v W') (hstep : Steps P Q (fun x => puts x 0 (ops.take n) a) w0 l φ 0 (ops.take n))
    (hlast : ∀ x W, Blks w0 W l → (∀ k, k < (ops.take n).length → φ k (x k) W) → last.wp P (puts x 0 (ops.take n) a) W (fun a' W' => Q .normal a' W') Q) : (Code.region id ops.toArray true).wp P Q a W := by
  rw [Bool.and_eq_true] at hf
  have hops : ops = ops.take n ++ [last] := by rw [← hdr, List.take_append_drop]
  refine wp_region_wild w0 l (ops.take n) last (fun x => puts x 0 (ops.take n) a) (ownX a (ops.take n)) φ hB hops ?_ hm hf.1 ?_ stable hstep hlast
  · refine (puts_own _ _ 0 a fun i o ho d hd => ?_).symm
    unfold ownX
    rw [Nat.zero_add, ho]
    simp only [hd]
  · exact Puts.of _ 0 fun i o ho x v => puts_put x v _ 0 a hf.2 i o ho
end Go.Proofs.YtjhekggeofalfaaDoor
