/-
  The contracts of stat.May, of the reference's May, and of like. Conditions: the bits fit 64.
-/
import Derived.Test.YtfpmbkdijechaaaStatOf
import Derived.Test.YtfpmbkdijechaaaStatEq
import Derived.Test.YtfpmbkdijechaaaRefKind
import Derived.Test.YtfpmbkdijechaaaRefWhole
import Derived.Deep.QuietTactic
namespace Go.Proofs.Ytfpmbkdijechaaa
open Go.RowKit Flt
attribute [local go_sem] run_store_float

/-- The cells of what the reference tells. -/
def statR (c : Int) (k : Nat → Int) (wh : Int) (an : Bool) (mn mx : Nat) : Array Value := #[.int .i64 c, .int .i64 (k 0), .int .i64 (k 1), .int .i64 (k 2), .int .i64 (k 3), .int .i64 (k 4), .int .i64 (k 5), .int .i64 (k 6), .int .i64 (k 7), .int .i64 (k 8), .int .i64 wh, .bool an, .int .u64 mn, .int .u64 mx]
def St.rcells (s : St) : Array Value := statR s.c s.k s.wh s.an s.mn s.mx

/-- May a real be among them? -/
def mayOf (s : St) (b : Nat) : Bool := if kind b = 8 then decide (0 < s.k 8) else s.an && (!decide (rank b < rank s.mn) && !decide (rank s.mx < rank b))

set_option maxHeartbeats 1600000 in
theorem may_any (s : St) (b : Nat) (h1 : Fits s.mn) (h2 : Fits s.mx) (hb : Fits b) (w : World) :
    Calls Try.prog 15 #[.agg s.cells, .float .f64 b] w fun e w' => e = .returned (.bool (mayOf s b)) ∧ Keeps (fun _ => False) w w' := by
  obtain ⟨c, k, wh, an, mn, mx⟩ := s
  unfold St.cells statC mayOf
  dsimp only at h1 h2 ⊢
  obtain ⟨kd, hkd⟩ : ∃ kd, kind b = kd := ⟨_, rfl⟩
  obtain ⟨t1, ht1⟩ : ∃ t1, decide (rank b < rank mn) = t1 := ⟨_, rfl⟩
  obtain ⟨t2, ht2⟩ : ∃ t2, decide (rank mx < rank b) = t2 := ⟨_, rfl⟩
  rw [hkd, ht1, ht2]
  have HK := Lib.hid hkd
  have T1 := Lib.hid ht1
  have T2 := Lib.hid ht2
  have F1 := Lib.hid h1
  have F2 := Lib.hid h2
  have FB := Lib.hid hb
  clear hkd ht1 ht2 h1 h2 hb
  by_cases h8 : kd = 8
  · rw [if_pos h8]
    subst h8
    go_enter Try.func15, Try.ntmps15
    go_wp2_with fail
    refine (kind_any b FB.out _).mono ?_
    rw [HK.out]
    rintro e w' ⟨rfl, rfl⟩
    go_wp2
    go_ret
    exact ⟨rfl, (Keeps.refl _ _).alloc _⟩
  · rw [if_neg h8]
    have hb8 : (kd == 8) = false := by simpa using h8
    clear h8
    cases an
    · go_enter Try.func15, Try.ntmps15
      go_wp2_with fail
      refine (kind_any b FB.out _).mono ?_
      rw [HK.out]
      rintro e w' ⟨rfl, rfl⟩
      go_wp2
      go_ret
      exact ⟨rfl, (Keeps.refl _ _).alloc _⟩
    · cases t1
      · go_enter Try.func15, Try.ntmps15
        go_wp2_with fail
        refine (kind_any b FB.out _).mono ?_
        rw [HK.out]
        rintro e w' ⟨rfl, rfl⟩
        go_wp2_with fail
        refine (less_any b mn FB.out F1.out _).mono ?_
        rw [T1.out]
        rintro e w' ⟨rfl, rfl⟩
        go_wp2_with fail
        refine (less_any mx b F2.out FB.out _).mono ?_
        rw [T2.out]
        rintro e w' ⟨rfl, rfl⟩
        go_wp2
        go_ret
        exact ⟨rfl, (Keeps.refl _ _).alloc _⟩
      · go_enter Try.func15, Try.ntmps15
        go_wp2_with fail
        refine (kind_any b FB.out _).mono ?_
        rw [HK.out]
        rintro e w' ⟨rfl, rfl⟩
        go_wp2_with fail
        refine (less_any b mn FB.out F1.out _).mono ?_
        rw [T1.out]
        rintro e w' ⟨rfl, rfl⟩
        go_wp2
        go_ret
        exact ⟨rfl, (Keeps.refl _ _).alloc _⟩

set_option maxHeartbeats 1600000 in
theorem refMay_any (s : St) (b : Nat) (h1 : Fits s.mn) (h2 : Fits s.mx) (hb : Fits b) (w : World) :
    Calls Try.prog 16 #[.agg s.rcells, .int .u64 b] w fun e w' => e = .returned (.bool (mayOf s b)) ∧ Keeps (fun _ => False) w w' := by
  obtain ⟨c, k, wh, an, mn, mx⟩ := s
  unfold St.rcells statR mayOf
  dsimp only at h1 h2 ⊢
  obtain ⟨kd, hkd⟩ : ∃ kd, kind b = kd := ⟨_, rfl⟩
  obtain ⟨rb, hrb⟩ : ∃ rb, rank b = rb := ⟨_, rfl⟩
  obtain ⟨rm, hrm⟩ : ∃ rm, rank mn = rm := ⟨_, rfl⟩
  obtain ⟨rx, hrx⟩ : ∃ rx, rank mx = rx := ⟨_, rfl⟩
  rw [hkd, hrb, hrm, hrx]
  have HK := Lib.hid hkd
  have R1 := Lib.hid hrb
  have R2 := Lib.hid hrm
  have R3 := Lib.hid hrx
  have F1 := Lib.hid h1
  have F2 := Lib.hid h2
  have FB := Lib.hid hb
  clear hkd hrb hrm hrx h1 h2 hb
  by_cases h8 : kd = 8
  · rw [if_pos h8]
    subst h8
    go_enter Try.func16, Try.ntmps16
    go_wp2_with fail
    refine (refKind_any b FB.out _).mono ?_
    rw [HK.out]
    rintro e w' ⟨rfl, rfl⟩
    go_wp2
    go_ret
    exact ⟨rfl, (Keeps.refl _ _).alloc _⟩
  · rw [if_neg h8]
    have hb8 : (kd == 8) = false := by simpa using h8
    clear h8
    cases an
    · go_enter Try.func16, Try.ntmps16
      go_wp2_with fail
      refine (refKind_any b FB.out _).mono ?_
      rw [HK.out]
      rintro e w' ⟨rfl, rfl⟩
      go_wp2_with fail
      refine (refRank_any b FB.out _).mono ?_
      rw [R1.out]
      rintro e w' ⟨rfl, rfl⟩
      go_wp2
      go_ret
      exact ⟨rfl, (Keeps.refl _ _).alloc _⟩
    · by_cases ht : rb < rm
      · go_enter Try.func16, Try.ntmps16
        go_wp2_with fail
        refine (refKind_any b FB.out _).mono ?_
        rw [HK.out]
        rintro e w' ⟨rfl, rfl⟩
        go_wp2_with fail
        refine (refRank_any b FB.out _).mono ?_
        rw [R1.out]
        rintro e w' ⟨rfl, rfl⟩
        go_wp2_with fail
        refine (refRank_any mn F1.out _).mono ?_
        rw [R2.out]
        rintro e w' ⟨rfl, rfl⟩
        go_wp2
        go_ret
        refine ⟨ret_bool ?_, (Keeps.refl _ _).alloc _⟩
        simp [ht]
      · have ht' : rm ≤ rb := by omega
        go_enter Try.func16, Try.ntmps16
        go_wp2_with fail
        refine (refKind_any b FB.out _).mono ?_
        rw [HK.out]
        rintro e w' ⟨rfl, rfl⟩
        go_wp2_with fail
        refine (refRank_any b FB.out _).mono ?_
        rw [R1.out]
        rintro e w' ⟨rfl, rfl⟩
        go_wp2_with fail
        refine (refRank_any mn F1.out _).mono ?_
        rw [R2.out]
        rintro e w' ⟨rfl, rfl⟩
        go_wp2_with fail
        refine (refRank_any mx F2.out _).mono ?_
        rw [R3.out]
        rintro e w' ⟨rfl, rfl⟩
        go_wp2
        go_ret
        refine ⟨ret_bool ?_, (Keeps.refl _ _).alloc _⟩
        simp only [ht, decide_false, Bool.not_false, Bool.true_and, decide_true, Bool.and_true]
        rw [Bool.eq_iff_iff]
        simp
        try (intro _; exact ht')

set_option maxHeartbeats 1600000 in
theorem like_any {N : Int} {s : St} (hs : s.Ok N) (hN : N ≤ 1000000) (w : World) :
    Calls Try.prog 9 #[.agg s.cells, .agg s.rcells] w fun e w' => e = .returned (.bool true) ∧ Keeps (fun _ => False) w w' := by
  have hk : ∀ i, (Lit.int .i64 (s.k i)).wf = true := fun i => by
    have m1 : IntKind.i64.min = -9223372036854775808 := by decide
    have m2 : IntKind.i64.max = 9223372036854775807 := by decide
    have := hs.k i
    simp only [Lit.wf, m1, m2, Bool.and_eq_true, decide_eq_true_eq]
    omega
  have heq := kinds_eq s.k hk
  clear hk hs hN
  obtain ⟨c, k, wh, an, mn, mx⟩ := s
  have hcallb := fun b w => call_bits b w
  unfold St.cells St.rcells statC statR
  dsimp only at heq
  go_enter Try.func9, Try.ntmps9
  go_wp2_with fail
  go_quiet (fail)
  go_wp2
  go_ret
  exact ⟨rfl, (((Keeps.refl _ _).alloc _).alloc _).drewN _⟩
end Go.Proofs.Ytfpmbkdijechaaa
