/- A region that draws its order, whose operations may be guarded by tests that are known: each operation is shown once. -/
import Derived.Test.YtjhekggeofalfaaDoorWild
namespace Go.Proofs.YtjhekggeofalfaaDoor
open Go.RowKit

section
variable {P : Program} {ops : Array Oper} {Q : Exit → Act → World → Prop} {fill : (Nat → Value) → Act} {w0 : World} {l : List (Nat × Obj)} {φ : Nat → Value → World → Prop}
/-- Head and last operation. -/
theorem wild_guard {n : Nat} {os : List Oper} {last : Oper} (hops : ops = (os ++ [last]).toArray) (hn : os.length = n) (hf : forwardB ops = true) (hp : ∀ (i : Nat) (o : Oper), ops[i]? = some o → ∀ x W, (∀ k ∈ waits o, φ k (x k) W) → Region.wanted o (yielded ops (fill x).tmps) = true) (hall : ∀ i, i < n → ∃ j o, i < j ∧ j ≤ n ∧ ops[j]? = some o ∧ i ∈ waits o)
    (hstep : Steps P Q fill w0 l φ 0 os) (hput : Puts fill 0 os) (stable : ∀ i v W W', Below W.heap.size W W' → φ i v W → φ i v W')
    (hlast : ∀ x W, Blks w0 W l → (∀ k, k < n → φ k (x k) W) → last.wp P (fill x) W (fun a' W' => Q .normal a' W') Q) :
    ∀ (m : Nat) (U : List Nat) (listed : Array Bool) (x : Nat → Value) (W : World), U.length = m → U.Nodup → (∀ i, i ∈ U ↔ i < n + 1 ∧ listed.getD i true = false) → n ∈ U → Blks w0 W l →
      (∀ (j : Nat) (o : Oper), ops[j]? = some o → listed.getD j false = true → ∀ k ∈ waits o, listed.getD k false = true) →
      (∀ k, k < n → listed.getD k false = true → φ k (x k) W) → wpAny P .any ops Q m listed (fill x) W := by
  have hsz : ops.size = n + 1 := by subst hops; simp [hn]
  have hol : ops[n]? = some last := by subst hops; simp [← hn]
  have ho : ∀ i o, i < n → ops[i]? = some o → os[i]? = some o := fun i o hi h => by
    subst hops
    rw [List.getElem?_toArray, List.getElem?_append_left (by omega)] at h
    exact h
  intro m
  induction m with
  | zero => intro U listed x W hl _ _ hnU; rw [List.eq_nil_of_length_eq_zero hl] at hnU; cases hnU
  | succ m ih =>
    intro U listed x W hl hnd hU hnU hB hcl hφ
    have next : ∀ i, i ∈ U → (∀ j, j ∈ U.erase i ↔ j < n + 1 ∧ (listed.setIfInBounds i true).getD j true = false) ∧ (U.erase i).length = m ∧ (U.erase i).Nodup := fun i hi => by
      refine ⟨fun j => ?_, by rw [List.length_erase_of_mem hi, hl]; rfl, hnd.erase i⟩
      rw [hnd.mem_erase_iff, hU]
      constructor
      · rintro ⟨h1, h2, h3⟩
        exact ⟨h2, by rw [getD_set_ne true (Ne.symm h1)]; exact h3⟩
      · rintro ⟨h2, h3⟩
        by_cases hij : j = i
        · subst hij
          have h4 := ((hU j).1 hi).2
          have hlt : j < listed.size := by
            rcases Nat.lt_or_ge j listed.size with h' | h'
            · exact h'
            · simp [Array.getElem?_eq_none h'] at h4
          simp [hlt] at h3
        · exact ⟨hij, h2, by rwa [getD_set_ne true (Ne.symm hij)] at h3⟩
    refine ⟨fun hr => ?_, fun i hi => ?_⟩
    · -- the least that has not come up may come up
      exfalso
      have least : ∀ d i, i ≤ d → i ∈ U → Region.ready .any ops listed = [] → False := by
        intro d
        induction d with
        | zero =>
          intro i hid hiU hr
          obtain rfl : i = 0 := by omega
          have hlt : 0 < ops.size := by omega
          have : 0 ∈ Region.ready .any ops listed := mem_ready.2 ⟨((hU 0).1 hiU).2, ops[0], by simp [hlt], fun e he hb => by
            have := forward_spec hf (i := 0) (o := ops[0]) (by simp [hlt]) (mem_waits.2 ⟨e, he, hb, rfl⟩)
            omega⟩
          rw [hr] at this; cases this
        | succ d ihd =>
          intro i hid hiU hr
          have hlt : i < ops.size := by rw [hsz]; exact ((hU i).1 hiU).1
          have hoi : ops[i]? = some ops[i] := by simp [hlt]
          by_cases hc : ∀ e ∈ ops[i].after, Region.binds .any e = true → listed.getD e.on false = true
          · have : i ∈ Region.ready .any ops listed := mem_ready.2 ⟨((hU i).1 hiU).2, ops[i], hoi, hc⟩
            rw [hr] at this; cases this
          · simp only [Classical.not_forall] at hc
            obtain ⟨e, he, hb, hlb⟩ := hc
            have hk := forward_spec hf hoi (mem_waits.2 ⟨e, he, hb, rfl⟩)
            have hls : e.on < listed.size := by
              rcases Nat.lt_or_ge e.on listed.size with h' | h'
              · exact h'
              · have h4 := ((hU i).1 hiU).2
                simp [Array.getElem?_eq_none (show listed.size ≤ i by omega)] at h4
            exact ihd e.on (by omega) ((hU e.on).2 ⟨by omega, Go.getD_in hls (by simpa using hlb)⟩) hr
      exact least n n (Nat.le_refl _) hnU hr
    · obtain ⟨hun, o, hoi, hw⟩ := mem_ready.1 hi
      have hlt : i < n + 1 := by rw [← hsz]; exact (Array.getElem?_eq_some_iff.1 hoi).1
      have hiU : i ∈ U := (hU i).2 ⟨hlt, hun⟩
      obtain ⟨n1, n2, n3⟩ := next i hiU
      unfold wpOp
      have hwt := hp i o hoi x W fun k hk => by
        obtain ⟨e, he, hbi, hon⟩ := mem_waits.1 hk
        have := forward_spec hf hoi hk
        exact hφ k (by omega) (by rw [← hon]; exact hw e he hbi)
      simp only [hoi, hwt, if_true]
      refine .inl ?_
      by_cases hin : i = n
      · subst hin
        rw [hol] at hoi
        injection hoi with hoi
        subst hoi
        have down : ∀ d k, i - k ≤ d → k < i → listed.getD k false = true := by
          intro d
          induction d with
          | zero => intro k h1 h2; omega
          | succ d ihd =>
            intro k h1 h2
            obtain ⟨j, o', hj1, hj2, hj3, hj4⟩ := hall k h2
            by_cases hji : j = i
            · subst hji
              rw [hol] at hj3
              injection hj3 with hj3
              subst hj3
              obtain ⟨e, he, hb, hon⟩ := mem_waits.1 hj4
              rw [← hon]; exact hw e he hb
            · exact hcl j o' hj3 (ihd j (by omega) (by omega)) k hj4
        have hdone : ∀ k, k < i → listed.getD k false = true := fun k hk => down i k (by omega) hk
        refine Oper.wp_mono (fun a' W' hq => ?_) (hlast x W hB fun k hk => hφ k hk (hdone k hk))
        have hm0 : U.erase i = [] := by
          apply List.eq_nil_iff_forall_not_mem.2
          intro j hj
          have hjU := List.mem_of_mem_erase hj
          have hne : j ≠ i := ((hnd.mem_erase_iff).1 hj).1
          have h5 := (hU j).1 hjU
          have h6 := hdone j (by omega)
          have hlj : j < listed.size := by
            rcases Nat.lt_or_ge j listed.size with h' | h'
            · exact h'
            · simp [Array.getElem?_eq_none h'] at h6
          have h7 := h5.2
          simp [hlj] at h6 h7
          rw [h6] at h7; cases h7
        rw [hm0] at n1 n2
        have : m = 0 := n2.symm
        subst this
        refine ⟨?_, hq⟩
        apply List.eq_nil_iff_forall_not_mem.2
        intro j hj
        obtain ⟨h1, o', ho', -⟩ := mem_ready.1 hj
        have := (n1 j).2 ⟨by rw [← hsz]; exact (Array.getElem?_eq_some_iff.1 ho').1, h1⟩
        cases this
      · have hi' : i < n := by omega
        refine hstep.at_ i o (ho i o hi' hoi) x W _ hB (fun k hk => ?_) fun v W' hb hv => ?_
        · obtain ⟨e, he, hbi, hon⟩ := mem_waits.1 hk
          have := forward_spec hf hoi hk
          exact hφ k (by omega) (by rw [← hon]; exact hw e he hbi)
        · rw [hput.at_ i o (ho i o hi' hoi) x v]
          refine ih (U.erase i) _ _ W' n2 n3 n1 ((hnd.mem_erase_iff).2 ⟨Ne.symm hin, hnU⟩) (hB.below hb) (fun j o' hj hlj k hk => ?_) fun k hk hlk => ?_
          · by_cases hij : i = j
            · subst hij
              have : o' = o := Option.some.inj (hj.symm.trans hoi)
              subst this
              obtain ⟨e, he, hbi, hon⟩ := mem_waits.1 hk
              rw [← hon]; exact getD_set_true (hw e he hbi)
            · rw [getD_set_ne false hij] at hlj
              exact getD_set_true (hcl j o' hj hlj k hk)
          unfold upd
          rw [Nat.zero_add] at hv ⊢
          by_cases hki : k = i
          · subst hki; rw [if_pos rfl]; exact hv
          · rw [if_neg hki]
            rw [getD_set_ne false (Ne.symm hki)] at hlk
            exact stable k _ W W' hb (hφ k hk hlk)
end


/-- Every guard is of the list, and waited for. -/
def guardB (ops : Array Oper) (gs : List (Nat × Bool)) (sz : Nat) : Bool := ops.all fun o => match o.guard with
  | none => true
  | some (j, b) => gs.contains (j, b) && (waits o).contains j && (match ops[j]? with | some p => (match p.dst with | some d => decide (d < sz) | none => false) | none => false)
theorem put_size (a : Act) (d : Option Tmp) (v : Value) : (a.put d v).tmps.size = a.tmps.size := by
  cases d <;> simp [Act.put]
theorem puts_size (x : Nat → Value) : ∀ (os : List Oper) (j : Nat) (a : Act), (puts x j os a).tmps.size = a.tmps.size
  | [], _, _ => rfl
  | o :: os, j, a => by
    show (puts x (j + 1) os (a.put o.dst (x j))).tmps.size = _
    rw [puts_size x os (j + 1), put_size]
theorem put_get (a : Act) {d : Tmp} (v : Value) (h : d < a.tmps.size) : (a.put (some d) v).tmps[d]? = some v := by
  simp [Act.put, h]
theorem puts_get (x : Nat → Value) : ∀ (os : List Oper) (j : Nat) (a : Act), distinctB os = true → ∀ (i : Nat) (o : Oper) (d : Tmp), os[i]? = some o → o.dst = some d → d < a.tmps.size → (puts x j os a).tmps[d]? = some (x (j + i))
  | [], _, _, _, i, o, d, h, _, _ => by simp at h
  | o' :: os, j, a, hd, 0, o, d, h, ho, hs => by
    simp at h; subst h
    simp only [distinctB, Bool.and_eq_true] at hd
    show (puts x (j + 1) os (a.put o'.dst (x j))).tmps[d]? = _
    rw [← puts_comm x _ (x j) os (j + 1) a (fun o hm => by
      have := List.all_eq_true.1 hd.1 o hm
      simp only [Bool.or_eq_true, bne_iff_ne, Option.isNone_iff_eq_none] at this
      exact this), ho]
    exact put_get _ _ (by rw [puts_size]; exact hs)
  | o' :: os, j, a, hd, i + 1, o, d, h, ho, hs => by
    simp only [distinctB, Bool.and_eq_true] at hd
    show (puts x (j + 1) os (a.put o'.dst (x j))).tmps[d]? = _
    rw [puts_get x os (j + 1) _ hd.2 i o d (by simpa using h) ho (by rw [put_size]; exact hs), show j + 1 + i = j + (i + 1) by omega]

/-- **A REGION THAT DRAWS ITS ORDER, ITS GUARDS KNOWN, EACH OPERATION SHOWN ONCE.** -/
theorem wp_region_guard {P : Program} {id : Nat} {Q : Exit → Act → World → Prop} {a : Act} {W : World} {ops : List Oper} (w0 : World) (l : List (Nat × Obj)) (n : Nat) (gs : List (Nat × Bool)) (sz : Nat) (φ : Nat → Value → World → Prop)
    (hB : Blks w0 W l) (last : Oper) (hdr : ops.drop n = [last]) (hm : P.follows .mixedOrders = true) (hsz : a.tmps.size = sz)
    (hf : (forwardB ops.toArray && guardB ops.toArray gs sz && gs.all (fun g => decide (g.1 < (ops.take n).length)) && lastB ops.toArray (ops.take n).length && distinctB (ops.take n)) = true)
    (hg : ∀ g ∈ gs, ∀ v W, φ g.1 v W → v = .bool g.2)
    (stable : ∀ i v W W', Below W.heap.size W W' → φ i v W → φ i v W') (hstep : Steps P Q (fun x => puts x 0 (ops.take n) a) w0 l φ 0 (ops.take n))
    (hlast : ∀ x W, Blks w0 W l → (∀ k, k < (ops.take n).length → φ k (x k) W) → last.wp P (puts x 0 (ops.take n) a) W (fun a' W' => Q .normal a' W') Q) : (Code.region id ops.toArray true).wp P Q a W := by
  simp only [Bool.and_eq_true] at hf
  obtain ⟨⟨⟨⟨f1, f2⟩, f3⟩, f4⟩, f5⟩ := hf
  have hops : ops = ops.take n ++ [last] := by rw [← hdr, List.take_append_drop]
  have ha : a = puts (ownX a (ops.take n)) 0 (ops.take n) a := by
    refine (puts_own _ _ 0 a fun i o ho d hd => ?_).symm
    unfold ownX
    rw [Nat.zero_add, ho]
    simp only [hd]
  have hput : Puts (fun x => puts x 0 (ops.take n) a) 0 (ops.take n) := Puts.of _ 0 fun i o ho x v => puts_put x v _ 0 a f5 i o ho
  have hwant : ∀ (i : Nat) (o : Oper), ops.toArray[i]? = some o → ∀ x W, (∀ k ∈ waits o, φ k (x k) W) → Region.wanted o (yielded ops.toArray (puts x 0 (ops.take n) a).tmps) = true := by
    intro i o ho x W hφ
    unfold Region.wanted
    cases hgd : o.guard with
    | none => rfl
    | some jb =>
      obtain ⟨j, b⟩ := jb
      obtain ⟨hlt, he⟩ := Array.getElem?_eq_some_iff.1 ho
      have h2 := Array.all_eq_true.1 f2 i hlt
      rw [he] at h2
      simp only [hgd, Bool.and_eq_true, List.contains_iff_mem] at h2
      obtain ⟨⟨g1, g2⟩, g3⟩ := h2
      cases hp : ops.toArray[j]? with
      | none => rw [hp] at g3; cases g3
      | some p =>
        rw [hp] at g3
        cases hd : p.dst with
        | none => simp only [hd] at g3; cases g3
        | some d =>
          simp only [hd, decide_eq_true_eq] at g3
          have hjn : j < (ops.take n).length := by simpa using List.all_eq_true.1 f3 _ g1
          have hj : (ops.take n)[j]? = some p := by
            rw [List.getElem?_toArray, hops, List.getElem?_append_left hjn] at hp
            exact hp
          have hv := hg (j, b) g1 (x j) W (hφ j g2)
          have ht := puts_get x (ops.take n) 0 a f5 j p d hj hd (by rw [hsz]; exact g3)
          rw [Nat.zero_add, hv] at ht
          show (yielded ops.toArray (puts x 0 (ops.take n) a).tmps j == some b) = true
          unfold yielded
          rw [hp]
          simp only [Option.bind_some, hd, ht, beq_self_eq_true]
  have hto : ops.toArray = (ops.take n ++ [last]).toArray := by rw [← hops]
  conv => arg 4; rw [ha]
  refine wp_region_any hm ?_
  have hs2 : ops.toArray.size = (ops.take n).length + 1 := by rw [hto]; simp
  rw [hs2]
  refine wild_guard hto rfl f1 hwant (last_spec f4) hstep hput stable hlast ((ops.take n).length + 1) (List.range ((ops.take n).length + 1)) _ _ _ (by simp) List.nodup_range
    (fun i => ?_) (by simp) hB.drew (fun j _ _ hl => by rw [getD_replicate_false] at hl; cases hl) (fun k _ hl => by rw [getD_replicate_false] at hl; cases hl)
  rw [List.mem_range]
  exact ⟨fun h => ⟨h, Go.getD_in (by simpa using h) (getD_replicate_false _ _)⟩, fun h => h.1⟩
end Go.Proofs.YtjhekggeofalfaaDoor
