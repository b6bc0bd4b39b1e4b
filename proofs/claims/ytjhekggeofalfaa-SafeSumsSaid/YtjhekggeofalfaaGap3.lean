/- Contracts of package gap and of noonmarkref03: Shift, Grow. -/
import Derived.Test.YtjhekggeofalfaaGap2
namespace Go.Proofs.Ytjhekggeofalfaa
open Go.RowKit

set_option maxRecDepth 20000 in
set_option maxHeartbeats 4000000 in
theorem gapShift_any (lo hi by_ : Int) (w : World) (h1 : Fits lo) (h2 : Fits hi) (h3 : Fits by_) :
    Calls Try.prog 16 #[gapV lo hi, .int .i64 by_] w fun e w' => e = .returned (.tuple #[gapV (shLo lo hi by_) (shHi lo hi by_), .int .i64 (shErr lo hi by_)]) ∧ Below w.heap.size w w' := by
  have H1 := hid h1
  have H2 := hid h2
  have H3 := hid h3
  clear h1 h2 h3
  by_cases h : lo ≤ hi
  · by_cases f1 : Fits (lo + by_) <;> by_cases f2 : Fits (hi + by_)
    · have F1 := hid f1
      have F2 := hid f2
      have E0 := hid (show shErr lo hi by_ = 0 by rw [shErr, if_pos h, if_pos ⟨f1, f2⟩])
      clear f1 f2
      go_enter Try.func16, Try.ntmps16
      go_wp2_with (go_at_call 21; go_in)
      refine (safeAdd_any lo by_ _ H1.out H3.out).mono ?_
      rw [sat_yes F1.out, err_yes F1.out]
      rintro e w' ⟨rfl, rfl⟩
      go_wp2_with fail
      refine (safeAdd_any hi by_ _ H2.out H3.out).mono ?_
      rw [sat_yes F2.out, err_yes F2.out]
      rintro e w' ⟨rfl, rfl⟩
      go_wp2_with fail
      exact bodyPost_ret (v := .tuple #[gapV (lo + by_) (hi + by_), .int .i64 0]) (by simp [results, Try.results16, go_sem]) rfl ⟨retge (by rw [shLo, E0.out]; rfl) (by rw [shHi, E0.out]; rfl) E0.out.symm, (((Below.refl _ _).alloc (Nat.le_refl _) _).alloc (by simp) _).alloc (by simp; omega) _⟩
    · have F1 := hid f1
      have F2 := hid f2
      have E0 := hid (show shErr lo hi by_ = 12 by rw [shErr, if_pos h, if_neg (fun q => f2 q.2)])
      clear f1 f2
      go_enter Try.func16, Try.ntmps16
      go_wp2_with (go_at_call 21; go_in)
      refine (safeAdd_any lo by_ _ H1.out H3.out).mono ?_
      rw [sat_yes F1.out, err_yes F1.out]
      rintro e w' ⟨rfl, rfl⟩
      go_wp2_with fail
      refine (safeAdd_any hi by_ _ H2.out H3.out).mono ?_
      rw [sat_no F2.out, err_no F2.out]
      rintro e w' ⟨rfl, rfl⟩
      go_wp2_with fail
      exact bodyPost_ret (v := .tuple #[gapV 0 0, .int .i64 12]) (by simp [results, Try.results16, go_sem]) rfl ⟨retge (by rw [shLo, E0.out]; rfl) (by rw [shHi, E0.out]; rfl) E0.out.symm, (((Below.refl _ _).alloc (Nat.le_refl _) _).alloc (by simp) _).alloc (by simp; omega) _⟩
    · have F1 := hid f1
      have F2 := hid f2
      have E0 := hid (show shErr lo hi by_ = 12 by rw [shErr, if_pos h, if_neg (fun q => f1 q.1)])
      clear f1 f2
      go_enter Try.func16, Try.ntmps16
      go_wp2_with (go_at_call 21; go_in)
      refine (safeAdd_any lo by_ _ H1.out H3.out).mono ?_
      rw [sat_no F1.out, err_no F1.out]
      rintro e w' ⟨rfl, rfl⟩
      go_wp2_with fail
      refine (safeAdd_any hi by_ _ H2.out H3.out).mono ?_
      rw [sat_yes F2.out, err_yes F2.out]
      rintro e w' ⟨rfl, rfl⟩
      go_wp2_with fail
      exact bodyPost_ret (v := .tuple #[gapV 0 0, .int .i64 12]) (by simp [results, Try.results16, go_sem]) rfl ⟨retge (by rw [shLo, E0.out]; rfl) (by rw [shHi, E0.out]; rfl) E0.out.symm, (((Below.refl _ _).alloc (Nat.le_refl _) _).alloc (by simp) _).alloc (by simp; omega) _⟩
    · have F1 := hid f1
      have F2 := hid f2
      have E0 := hid (show shErr lo hi by_ = 12 by rw [shErr, if_pos h, if_neg (fun q => f1 q.1)])
      clear f1 f2
      go_enter Try.func16, Try.ntmps16
      go_wp2_with (go_at_call 21; go_in)
      refine (safeAdd_any lo by_ _ H1.out H3.out).mono ?_
      rw [sat_no F1.out, err_no F1.out]
      rintro e w' ⟨rfl, rfl⟩
      go_wp2_with fail
      refine (safeAdd_any hi by_ _ H2.out H3.out).mono ?_
      rw [sat_no F2.out, err_no F2.out]
      rintro e w' ⟨rfl, rfl⟩
      go_wp2_with fail
      exact bodyPost_ret (v := .tuple #[gapV 0 0, .int .i64 12]) (by simp [results, Try.results16, go_sem]) rfl ⟨retge (by rw [shLo, E0.out]; rfl) (by rw [shHi, E0.out]; rfl) E0.out.symm, (((Below.refl _ _).alloc (Nat.le_refl _) _).alloc (by simp) _).alloc (by simp; omega) _⟩
  · have E0 := hid (show shErr lo hi by_ = 10 by rw [shErr, if_neg h])
    go_enter Try.func16, Try.ntmps16
    go_wp2_with (go_at_call 21; go_in)
    exact bodyPost_ret (v := .tuple #[gapV 0 0, .int .i64 10]) (by simp [results, Try.results16, go_sem]) rfl ⟨retge (by rw [shLo, E0.out]; rfl) (by rw [shHi, E0.out]; rfl) E0.out.symm, (((Below.refl _ _).alloc (Nat.le_refl _) _).alloc (by simp) _).alloc (by simp; omega) _⟩

set_option maxRecDepth 20000 in
set_option maxHeartbeats 4000000 in
theorem gapGrow_any (lo hi a b : Int) (w : World) (h1 : Fits lo) (h2 : Fits hi) (h3 : Fits a) (h4 : Fits b) :
    Calls Try.prog 17 #[gapV lo hi, .int .i64 a, .int .i64 b] w fun e w' => e = .returned (.tuple #[gapV (grLo lo hi a b) (grHi lo hi a b), .int .i64 (grErr lo hi a b)]) ∧ Below w.heap.size w w' := by
  have H1 := hid h1
  have H2 := hid h2
  have H3 := hid h3
  have H4 := hid h4
  clear h1 h2 h3 h4
  by_cases h : lo ≤ hi
  · by_cases f1 : Fits (lo - a) <;> by_cases f2 : Fits (hi + b)
    · by_cases hle : lo - a ≤ hi + b
      · have F1 := hid f1
        have F2 := hid f2
        have E0 := hid (show grErr lo hi a b = 0 by rw [grErr, if_pos h, if_pos ⟨f1, f2⟩, if_pos hle])
        clear f1 f2
        go_enter Try.func17, Try.ntmps17
        go_wp2_with (go_at_call 21; go_in)
        refine (safeSub_any lo a _ H1.out H3.out).mono ?_
        rw [sat_yes F1.out, err_yes F1.out]
        rintro e w' ⟨rfl, rfl⟩
        go_wp2_with fail
        refine (safeAdd_any hi b _ H2.out H4.out).mono ?_
        rw [sat_yes F2.out, err_yes F2.out]
        rintro e w' ⟨rfl, rfl⟩
        go_wp2_with fail
        exact bodyPost_ret (v := .tuple #[gapV (lo - a) (hi + b), .int .i64 0]) (by simp [results, Try.results17, go_sem]) rfl ⟨retge (by rw [grLo, E0.out]; rfl) (by rw [grHi, E0.out]; rfl) E0.out.symm, (((Below.refl _ _).alloc (Nat.le_refl _) _).alloc (by simp) _).alloc (by simp; omega) _⟩
      · have F1 := hid f1
        have F2 := hid f2
        have E0 := hid (show grErr lo hi a b = 13 by rw [grErr, if_pos h, if_pos ⟨f1, f2⟩, if_neg hle])
        clear f1 f2
        have hle := Int.not_le.1 hle
        go_enter Try.func17, Try.ntmps17
        go_wp2_with (go_at_call 21; go_in)
        refine (safeSub_any lo a _ H1.out H3.out).mono ?_
        rw [sat_yes F1.out, err_yes F1.out]
        rintro e w' ⟨rfl, rfl⟩
        go_wp2_with fail
        refine (safeAdd_any hi b _ H2.out H4.out).mono ?_
        rw [sat_yes F2.out, err_yes F2.out]
        rintro e w' ⟨rfl, rfl⟩
        go_wp2_with fail
        exact bodyPost_ret (v := .tuple #[gapV 0 0, .int .i64 13]) (by simp [results, Try.results17, go_sem]) rfl ⟨retge (by rw [grLo, E0.out]; rfl) (by rw [grHi, E0.out]; rfl) E0.out.symm, (((Below.refl _ _).alloc (Nat.le_refl _) _).alloc (by simp) _).alloc (by simp; omega) _⟩
    · have F1 := hid f1
      have F2 := hid f2
      have E0 := hid (show grErr lo hi a b = 12 by rw [grErr, if_pos h, if_neg (fun q => f2 q.2)])
      clear f1 f2
      go_enter Try.func17, Try.ntmps17
      go_wp2_with (go_at_call 21; go_in)
      refine (safeSub_any lo a _ H1.out H3.out).mono ?_
      rw [sat_yes F1.out, err_yes F1.out]
      rintro e w' ⟨rfl, rfl⟩
      go_wp2_with fail
      refine (safeAdd_any hi b _ H2.out H4.out).mono ?_
      rw [sat_no F2.out, err_no F2.out]
      rintro e w' ⟨rfl, rfl⟩
      go_wp2_with fail
      exact bodyPost_ret (v := .tuple #[gapV 0 0, .int .i64 12]) (by simp [results, Try.results17, go_sem]) rfl ⟨retge (by rw [grLo, E0.out]; rfl) (by rw [grHi, E0.out]; rfl) E0.out.symm, (((Below.refl _ _).alloc (Nat.le_refl _) _).alloc (by simp) _).alloc (by simp; omega) _⟩
    · have F1 := hid f1
      have F2 := hid f2
      have E0 := hid (show grErr lo hi a b = 12 by rw [grErr, if_pos h, if_neg (fun q => f1 q.1)])
      clear f1 f2
      go_enter Try.func17, Try.ntmps17
      go_wp2_with (go_at_call 21; go_in)
      refine (safeSub_any lo a _ H1.out H3.out).mono ?_
      rw [sat_no F1.out, err_no F1.out]
      rintro e w' ⟨rfl, rfl⟩
      go_wp2_with fail
      refine (safeAdd_any hi b _ H2.out H4.out).mono ?_
      rw [sat_yes F2.out, err_yes F2.out]
      rintro e w' ⟨rfl, rfl⟩
      go_wp2_with fail
      exact bodyPost_ret (v := .tuple #[gapV 0 0, .int .i64 12]) (by simp [results, Try.results17, go_sem]) rfl ⟨retge (by rw [grLo, E0.out]; rfl) (by rw [grHi, E0.out]; rfl) E0.out.symm, (((Below.refl _ _).alloc (Nat.le_refl _) _).alloc (by simp) _).alloc (by simp; omega) _⟩
    · have F1 := hid f1
      have F2 := hid f2
      have E0 := hid (show grErr lo hi a b = 12 by rw [grErr, if_pos h, if_neg (fun q => f1 q.1)])
      clear f1 f2
      go_enter Try.func17, Try.ntmps17
      go_wp2_with (go_at_call 21; go_in)
      refine (safeSub_any lo a _ H1.out H3.out).mono ?_
      rw [sat_no F1.out, err_no F1.out]
      rintro e w' ⟨rfl, rfl⟩
      go_wp2_with fail
      refine (safeAdd_any hi b _ H2.out H4.out).mono ?_
      rw [sat_no F2.out, err_no F2.out]
      rintro e w' ⟨rfl, rfl⟩
      go_wp2_with fail
      exact bodyPost_ret (v := .tuple #[gapV 0 0, .int .i64 12]) (by simp [results, Try.results17, go_sem]) rfl ⟨retge (by rw [grLo, E0.out]; rfl) (by rw [grHi, E0.out]; rfl) E0.out.symm, (((Below.refl _ _).alloc (Nat.le_refl _) _).alloc (by simp) _).alloc (by simp; omega) _⟩
  · have E0 := hid (show grErr lo hi a b = 10 by rw [grErr, if_neg h])
    go_enter Try.func17, Try.ntmps17
    go_wp2_with (go_at_call 21; go_in)
    exact bodyPost_ret (v := .tuple #[gapV 0 0, .int .i64 10]) (by simp [results, Try.results17, go_sem]) rfl ⟨retge (by rw [grLo, E0.out]; rfl) (by rw [grHi, E0.out]; rfl) E0.out.symm, (((Below.refl _ _).alloc (Nat.le_refl _) _).alloc (by simp) _).alloc (by simp; omega) _⟩

set_option maxRecDepth 20000 in
set_option maxHeartbeats 4000000 in
theorem refShift_any (lo hi by_ : Int) (w : World) (h1 : Fits lo) (h2 : Fits hi) (h3 : Fits by_) :
    Calls Try.prog 18 #[gapV lo hi, .int .i64 by_] w fun e w' => e = .returned (.tuple #[gapV (shLo lo hi by_) (shHi lo hi by_), .int .i64 (shErr lo hi by_)]) ∧ Below w.heap.size w w' := by
  have H1 := hid h1
  have H2 := hid h2
  have H3 := hid h3
  clear h1 h2 h3
  by_cases h : lo ≤ hi
  · by_cases f1 : Fits (lo + by_) <;> by_cases f2 : Fits (hi + by_)
    · have F1 := hid f1
      have F2 := hid f2
      have E0 := hid (show shErr lo hi by_ = 0 by rw [shErr, if_pos h, if_pos ⟨f1, f2⟩])
      clear f1 f2
      go_enter Try.func18, Try.ntmps18
      go_wp2_with (go_at_call 44; go_in)
      refine calls_blks w [(w.heap.size + 1, .cells #[.int .i64 0, .int .i64 0] 31), (w.heap.size, .cells #[.int .i64 lo, .int .i64 hi] 31)] ((Blks.two w _ _).keep _) ?_
      intro W0 B0
      have B0 := hid B0
      refine (plus_long_any lo by_ _ H1.out H3.out).mono ?_
      rw [sat_yes F1.out, err_yes F1.out]
      rintro e w1 ⟨rfl, b1⟩
      have B1 := hid (B0.out.below b1)
      clear b1
      obtain ⟨k0, k1⟩ := B1.out.c2 mem1
      go_wp2_with fail
      clear k0 k1
      refine (plus_long_any hi by_ _ H2.out H3.out).mono ?_
      rw [sat_yes F2.out, err_yes F2.out]
      rintro e w2 ⟨rfl, b2⟩
      have B2 := hid (B1.out.below b2)
      clear b2
      obtain ⟨r0, r1⟩ := B2.out.c2 mem0
      have z0 := B2.out.fz mem0 0
      have z1 := B2.out.fz mem0 1
      go_wp2_with fail
      exact bodyPost_ret (v := .tuple #[gapV (lo + by_) (hi + by_), .int .i64 0]) (by simp [results, Try.results18, go_sem, r0, r1]) rfl ⟨retge (by rw [shLo, E0.out]; rfl) (by rw [shHi, E0.out]; rfl) E0.out.symm, below_set2 B2.out.bel (by omega) _ _⟩
    · have F1 := hid f1
      have F2 := hid f2
      have E0 := hid (show shErr lo hi by_ = 12 by rw [shErr, if_pos h, if_neg (fun q => f2 q.2)])
      clear f1 f2
      go_enter Try.func18, Try.ntmps18
      go_wp2_with (go_at_call 44; go_in)
      refine calls_blks w [(w.heap.size + 1, .cells #[.int .i64 0, .int .i64 0] 31), (w.heap.size, .cells #[.int .i64 lo, .int .i64 hi] 31)] ((Blks.two w _ _).keep _) ?_
      intro W0 B0
      have B0 := hid B0
      refine (plus_long_any lo by_ _ H1.out H3.out).mono ?_
      rw [sat_yes F1.out, err_yes F1.out]
      rintro e w1 ⟨rfl, b1⟩
      have B1 := hid (B0.out.below b1)
      clear b1
      obtain ⟨k0, k1⟩ := B1.out.c2 mem1
      go_wp2_with fail
      clear k0 k1
      refine (plus_long_any hi by_ _ H2.out H3.out).mono ?_
      rw [sat_no F2.out, err_no F2.out]
      rintro e w2 ⟨rfl, b2⟩
      have B2 := hid (B1.out.below b2)
      clear b2
      obtain ⟨r0, r1⟩ := B2.out.c2 mem0
      have z0 := B2.out.fz mem0 0
      have z1 := B2.out.fz mem0 1
      go_wp2_with fail
      exact bodyPost_ret (v := .tuple #[gapV 0 0, .int .i64 12]) (by simp [results, Try.results18, go_sem, r0, r1]) rfl ⟨retge (by rw [shLo, E0.out]; rfl) (by rw [shHi, E0.out]; rfl) E0.out.symm, below_set2 B2.out.bel (by omega) _ _⟩
    · have F1 := hid f1
      have F2 := hid f2
      have E0 := hid (show shErr lo hi by_ = 12 by rw [shErr, if_pos h, if_neg (fun q => f1 q.1)])
      clear f1 f2
      go_enter Try.func18, Try.ntmps18
      go_wp2_with (go_at_call 44; go_in)
      refine calls_blks w [(w.heap.size + 1, .cells #[.int .i64 0, .int .i64 0] 31), (w.heap.size, .cells #[.int .i64 lo, .int .i64 hi] 31)] ((Blks.two w _ _).keep _) ?_
      intro W0 B0
      have B0 := hid B0
      refine (plus_long_any lo by_ _ H1.out H3.out).mono ?_
      rw [sat_no F1.out, err_no F1.out]
      rintro e w1 ⟨rfl, b1⟩
      have B1 := hid (B0.out.below b1)
      clear b1
      obtain ⟨k0, k1⟩ := B1.out.c2 mem1
      go_wp2_with fail
      clear k0 k1
      refine (plus_long_any hi by_ _ H2.out H3.out).mono ?_
      rw [sat_yes F2.out, err_yes F2.out]
      rintro e w2 ⟨rfl, b2⟩
      have B2 := hid (B1.out.below b2)
      clear b2
      obtain ⟨r0, r1⟩ := B2.out.c2 mem0
      have z0 := B2.out.fz mem0 0
      have z1 := B2.out.fz mem0 1
      go_wp2_with fail
      exact bodyPost_ret (v := .tuple #[gapV 0 0, .int .i64 12]) (by simp [results, Try.results18, go_sem, r0, r1]) rfl ⟨retge (by rw [shLo, E0.out]; rfl) (by rw [shHi, E0.out]; rfl) E0.out.symm, below_set2 B2.out.bel (by omega) _ _⟩
    · have F1 := hid f1
      have F2 := hid f2
      have E0 := hid (show shErr lo hi by_ = 12 by rw [shErr, if_pos h, if_neg (fun q => f1 q.1)])
      clear f1 f2
      go_enter Try.func18, Try.ntmps18
      go_wp2_with (go_at_call 44; go_in)
      refine calls_blks w [(w.heap.size + 1, .cells #[.int .i64 0, .int .i64 0] 31), (w.heap.size, .cells #[.int .i64 lo, .int .i64 hi] 31)] ((Blks.two w _ _).keep _) ?_
      intro W0 B0
      have B0 := hid B0
      refine (plus_long_any lo by_ _ H1.out H3.out).mono ?_
      rw [sat_no F1.out, err_no F1.out]
      rintro e w1 ⟨rfl, b1⟩
      have B1 := hid (B0.out.below b1)
      clear b1
      obtain ⟨k0, k1⟩ := B1.out.c2 mem1
      go_wp2_with fail
      clear k0 k1
      refine (plus_long_any hi by_ _ H2.out H3.out).mono ?_
      rw [sat_no F2.out, err_no F2.out]
      rintro e w2 ⟨rfl, b2⟩
      have B2 := hid (B1.out.below b2)
      clear b2
      obtain ⟨r0, r1⟩ := B2.out.c2 mem0
      have z0 := B2.out.fz mem0 0
      have z1 := B2.out.fz mem0 1
      go_wp2_with fail
      exact bodyPost_ret (v := .tuple #[gapV 0 0, .int .i64 12]) (by simp [results, Try.results18, go_sem, r0, r1]) rfl ⟨retge (by rw [shLo, E0.out]; rfl) (by rw [shHi, E0.out]; rfl) E0.out.symm, below_set2 B2.out.bel (by omega) _ _⟩
  · have E0 := hid (show shErr lo hi by_ = 10 by rw [shErr, if_neg h])
    go_enter Try.func18, Try.ntmps18
    go_wp2_with (go_at_call 44; go_in)
    exact bodyPost_ret (v := .tuple #[gapV 0 0, .int .i64 10]) (by simp [results, Try.results18, go_sem]) rfl ⟨retge (by rw [shLo, E0.out]; rfl) (by rw [shHi, E0.out]; rfl) E0.out.symm, (((Below.refl _ _).alloc (Nat.le_refl _) _).alloc (by simp) _).alloc (by simp; omega) _⟩

set_option maxRecDepth 20000 in
set_option maxHeartbeats 4000000 in
theorem refGrow_any (lo hi a b : Int) (w : World) (h1 : Fits lo) (h2 : Fits hi) (h3 : Fits a) (h4 : Fits b) :
    Calls Try.prog 20 #[gapV lo hi, .int .i64 a, .int .i64 b] w fun e w' => e = .returned (.tuple #[gapV (grLo lo hi a b) (grHi lo hi a b), .int .i64 (grErr lo hi a b)]) ∧ Below w.heap.size w w' := by
  have H1 := hid h1
  have H2 := hid h2
  have H3 := hid h3
  have H4 := hid h4
  clear h1 h2 h3 h4
  by_cases h : lo ≤ hi
  · by_cases f1 : Fits (lo - a) <;> by_cases f2 : Fits (hi + b)
    · by_cases hle : lo - a ≤ hi + b
      · have F1 := hid f1
        have F2 := hid f2
        have E0 := hid (show grErr lo hi a b = 0 by rw [grErr, if_pos h, if_pos ⟨f1, f2⟩, if_pos hle])
        clear f1 f2
        go_enter Try.func20, Try.ntmps20
        go_wp2_with (go_at_call 44; go_in)
        refine calls_blks w [(w.heap.size + 1, .cells #[.int .i64 0, .int .i64 0] 31), (w.heap.size, .cells #[.int .i64 lo, .int .i64 hi] 31)] ((Blks.two w _ _).keep _) ?_
        intro W0 B0
        have B0 := hid B0
        refine (minus_long_any lo a _ H1.out H3.out).mono ?_
        rw [sat_yes F1.out, err_yes F1.out]
        rintro e w1 ⟨rfl, b1⟩
        have B1 := hid (B0.out.below b1)
        clear b1
        obtain ⟨k0, k1⟩ := B1.out.c2 mem1
        go_wp2_with fail
        clear k0 k1
        refine (plus_long_any hi b _ H2.out H4.out).mono ?_
        rw [sat_yes F2.out, err_yes F2.out]
        rintro e w2 ⟨rfl, b2⟩
        have B2 := hid (B1.out.below b2)
        clear b2
        obtain ⟨r0, r1⟩ := B2.out.c2 mem0
        have z0 := B2.out.fz mem0 0
        have z1 := B2.out.fz mem0 1
        go_wp2_with fail
        exact bodyPost_ret (v := .tuple #[gapV (lo - a) (hi + b), .int .i64 0]) (by simp [results, Try.results20, go_sem, r0, r1]) rfl ⟨retge (by rw [grLo, E0.out]; rfl) (by rw [grHi, E0.out]; rfl) E0.out.symm, below_set2 B2.out.bel (by omega) _ _⟩
      · have F1 := hid f1
        have F2 := hid f2
        have E0 := hid (show grErr lo hi a b = 13 by rw [grErr, if_pos h, if_pos ⟨f1, f2⟩, if_neg hle])
        clear f1 f2
        have hle := Int.not_le.1 hle
        go_enter Try.func20, Try.ntmps20
        go_wp2_with (go_at_call 44; go_in)
        refine calls_blks w [(w.heap.size + 1, .cells #[.int .i64 0, .int .i64 0] 31), (w.heap.size, .cells #[.int .i64 lo, .int .i64 hi] 31)] ((Blks.two w _ _).keep _) ?_
        intro W0 B0
        have B0 := hid B0
        refine (minus_long_any lo a _ H1.out H3.out).mono ?_
        rw [sat_yes F1.out, err_yes F1.out]
        rintro e w1 ⟨rfl, b1⟩
        have B1 := hid (B0.out.below b1)
        clear b1
        obtain ⟨k0, k1⟩ := B1.out.c2 mem1
        go_wp2_with fail
        clear k0 k1
        refine (plus_long_any hi b _ H2.out H4.out).mono ?_
        rw [sat_yes F2.out, err_yes F2.out]
        rintro e w2 ⟨rfl, b2⟩
        have B2 := hid (B1.out.below b2)
        clear b2
        obtain ⟨r0, r1⟩ := B2.out.c2 mem0
        have z0 := B2.out.fz mem0 0
        have z1 := B2.out.fz mem0 1
        go_wp2_with fail
        exact bodyPost_ret (v := .tuple #[gapV 0 0, .int .i64 13]) (by simp [results, Try.results20, go_sem, r0, r1]) rfl ⟨retge (by rw [grLo, E0.out]; rfl) (by rw [grHi, E0.out]; rfl) E0.out.symm, below_set2 B2.out.bel (by omega) _ _⟩
    · have F1 := hid f1
      have F2 := hid f2
      have E0 := hid (show grErr lo hi a b = 12 by rw [grErr, if_pos h, if_neg (fun q => f2 q.2)])
      clear f1 f2
      go_enter Try.func20, Try.ntmps20
      go_wp2_with (go_at_call 44; go_in)
      refine calls_blks w [(w.heap.size + 1, .cells #[.int .i64 0, .int .i64 0] 31), (w.heap.size, .cells #[.int .i64 lo, .int .i64 hi] 31)] ((Blks.two w _ _).keep _) ?_
      intro W0 B0
      have B0 := hid B0
      refine (minus_long_any lo a _ H1.out H3.out).mono ?_
      rw [sat_yes F1.out, err_yes F1.out]
      rintro e w1 ⟨rfl, b1⟩
      have B1 := hid (B0.out.below b1)
      clear b1
      obtain ⟨k0, k1⟩ := B1.out.c2 mem1
      go_wp2_with fail
      clear k0 k1
      refine (plus_long_any hi b _ H2.out H4.out).mono ?_
      rw [sat_no F2.out, err_no F2.out]
      rintro e w2 ⟨rfl, b2⟩
      have B2 := hid (B1.out.below b2)
      clear b2
      obtain ⟨r0, r1⟩ := B2.out.c2 mem0
      have z0 := B2.out.fz mem0 0
      have z1 := B2.out.fz mem0 1
      go_wp2_with fail
      exact bodyPost_ret (v := .tuple #[gapV 0 0, .int .i64 12]) (by simp [results, Try.results20, go_sem, r0, r1]) rfl ⟨retge (by rw [grLo, E0.out]; rfl) (by rw [grHi, E0.out]; rfl) E0.out.symm, below_set2 B2.out.bel (by omega) _ _⟩
    · have F1 := hid f1
      have F2 := hid f2
      have E0 := hid (show grErr lo hi a b = 12 by rw [grErr, if_pos h, if_neg (fun q => f1 q.1)])
      clear f1 f2
      go_enter Try.func20, Try.ntmps20
      go_wp2_with (go_at_call 44; go_in)
      refine calls_blks w [(w.heap.size + 1, .cells #[.int .i64 0, .int .i64 0] 31), (w.heap.size, .cells #[.int .i64 lo, .int .i64 hi] 31)] ((Blks.two w _ _).keep _) ?_
      intro W0 B0
      have B0 := hid B0
      refine (minus_long_any lo a _ H1.out H3.out).mono ?_
      rw [sat_no F1.out, err_no F1.out]
      rintro e w1 ⟨rfl, b1⟩
      have B1 := hid (B0.out.below b1)
      clear b1
      obtain ⟨k0, k1⟩ := B1.out.c2 mem1
      go_wp2_with fail
      clear k0 k1
      refine (plus_long_any hi b _ H2.out H4.out).mono ?_
      rw [sat_yes F2.out, err_yes F2.out]
      rintro e w2 ⟨rfl, b2⟩
      have B2 := hid (B1.out.below b2)
      clear b2
      obtain ⟨r0, r1⟩ := B2.out.c2 mem0
      have z0 := B2.out.fz mem0 0
      have z1 := B2.out.fz mem0 1
      go_wp2_with fail
      exact bodyPost_ret (v := .tuple #[gapV 0 0, .int .i64 12]) (by simp [results, Try.results20, go_sem, r0, r1]) rfl ⟨retge (by rw [grLo, E0.out]; rfl) (by rw [grHi, E0.out]; rfl) E0.out.symm, below_set2 B2.out.bel (by omega) _ _⟩
    · have F1 := hid f1
      have F2 := hid f2
      have E0 := hid (show grErr lo hi a b = 12 by rw [grErr, if_pos h, if_neg (fun q => f1 q.1)])
      clear f1 f2
      go_enter Try.func20, Try.ntmps20
      go_wp2_with (go_at_call 44; go_in)
      refine calls_blks w [(w.heap.size + 1, .cells #[.int .i64 0, .int .i64 0] 31), (w.heap.size, .cells #[.int .i64 lo, .int .i64 hi] 31)] ((Blks.two w _ _).keep _) ?_
      intro W0 B0
      have B0 := hid B0
      refine (minus_long_any lo a _ H1.out H3.out).mono ?_
      rw [sat_no F1.out, err_no F1.out]
      rintro e w1 ⟨rfl, b1⟩
      have B1 := hid (B0.out.below b1)
      clear b1
      obtain ⟨k0, k1⟩ := B1.out.c2 mem1
      go_wp2_with fail
      clear k0 k1
      refine (plus_long_any hi b _ H2.out H4.out).mono ?_
      rw [sat_no F2.out, err_no F2.out]
      rintro e w2 ⟨rfl, b2⟩
      have B2 := hid (B1.out.below b2)
      clear b2
      obtain ⟨r0, r1⟩ := B2.out.c2 mem0
      have z0 := B2.out.fz mem0 0
      have z1 := B2.out.fz mem0 1
      go_wp2_with fail
      exact bodyPost_ret (v := .tuple #[gapV 0 0, .int .i64 12]) (by simp [results, Try.results20, go_sem, r0, r1]) rfl ⟨retge (by rw [grLo, E0.out]; rfl) (by rw [grHi, E0.out]; rfl) E0.out.symm, below_set2 B2.out.bel (by omega) _ _⟩
  · have E0 := hid (show grErr lo hi a b = 10 by rw [grErr, if_neg h])
    go_enter Try.func20, Try.ntmps20
    go_wp2_with (go_at_call 44; go_in)
    exact bodyPost_ret (v := .tuple #[gapV 0 0, .int .i64 10]) (by simp [results, Try.results20, go_sem]) rfl ⟨retge (by rw [grLo, E0.out]; rfl) (by rw [grHi, E0.out]; rfl) E0.out.symm, (((Below.refl _ _).alloc (Nat.le_refl _) _).alloc (by simp) _).alloc (by simp; omega) _⟩

end Go.Proofs.Ytjhekggeofalfaa
