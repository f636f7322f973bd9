/- package word: Cut, Fits, Sum, Less, Meet, Bucket; the document's too. -/
import Derived.Test.YtbiiggligcfklaaDoorSame
import Derived.Test.YtbiiggligcfklaaDoorWordM
import Derived.RegionTactic
import Derived.BigRegion
import Derived.IntWalk
import Derived.Laws.BitsAllLaws
namespace Go.Proofs.YtbiiggligcfklaaDoor
open Go Go.RowKit

def cutN (width : Int) (v : Nat) : Nat := if width = 32 then v % 4294967296 else if width = 64 then v else 0
def bktN (a n : Nat) : Nat := a * 11400714819323198485 % 18446744073709551616 / 4294967296 % n
theorem cutN_lt (width : Int) {v : Nat} (h : v < 18446744073709551616) : cutN width v < 18446744073709551616 := by
  unfold cutN; split; omega; split <;> omega

theorem cut_ok (width : Int) (v : Nat) (hv : v < 18446744073709551616) (w : World) :
    Calls Tryd.prog 20 #[.int .i64 width, .int .u64 v] w fun e w' => e = .returned (.int .u64 (cutN width v)) ∧ w = w' := by
  have hand : bits .and .u64 (v : Int) 4294967295 = ((v % 4294967296 : Nat) : Int) := by
    have h1 := u64_and_nat v 4294967295 hv (by omega)
    rw [show v &&& 4294967295 = v % 4294967296 from Nat.and_two_pow_sub_one_eq_mod v 32] at h1
    exact h1
  by_cases h1 : width = 32
  · subst h1
    go_enter Tryd.func20, Tryd.ntmps20
    go_wp2_with fail
    go_ret
    exact ⟨rfl, rfl⟩
  · have h1' : (width == 32) = false := by simpa using h1
    by_cases h2 : width = 64
    · subst h2
      go_enter Tryd.func20, Tryd.ntmps20
      go_wp2_with fail
      go_ret
      exact ⟨rfl, rfl⟩
    · have h2' : (width == 64) = false := by simpa using h2
      have hc : cutN width v = 0 := by unfold cutN; rw [if_neg h1, if_neg h2]
      rw [hc]
      clear h1 h2
      go_enter Tryd.func20, Tryd.ntmps20
      go_wp2_with fail
      go_ret
      exact ⟨rfl, rfl⟩

theorem rcut_ok (width : Int) (v : Nat) (hv : v < 18446744073709551616) (w : World) :
    Calls Tryd.prog 22 #[.int .i64 width, .int .u64 v] w fun e w' => e = .returned (.int .u64 (cutN width v)) ∧ w = w' := by
  have hmod : ((v : Int)).tmod 4294967296 = ((v % 4294967296 : Nat) : Int) := by
    rw [Int.tmod_eq_emod_of_nonneg (by omega)]; rfl
  by_cases h2 : width = 64
  · subst h2
    go_enter Tryd.func22, Tryd.ntmps22
    go_wp2_with fail
    go_ret
    exact ⟨rfl, rfl⟩
  · have h2' : (width == 64) = false := by simpa using h2
    by_cases h1 : width = 32
    · subst h1
      go_enter Tryd.func22, Tryd.ntmps22
      go_wp2_with fail
      go_ret
      exact ⟨rfl, rfl⟩
    · have h1' : (width == 32) = false := by simpa using h1
      have hc : cutN width v = 0 := by unfold cutN; rw [if_neg h1, if_neg h2]
      rw [hc]
      clear h1 h2
      go_enter Tryd.func22, Tryd.ntmps22
      go_wp2_with fail
      go_ret
      exact ⟨rfl, rfl⟩

theorem bkt_eq (a n : Nat) (hn : 1 ≤ n) (hn2 : n ≤ 9223372036854775807) : wrap64 ((IntKind.u64.wrap ((a : Int) * 11400714819323198485) / 4294967296).tmod (n : Int)) = (bktN a n : Int) := by
  have h1 : IntKind.u64.wrap ((a : Int) * 11400714819323198485) = ((a * 11400714819323198485 % 18446744073709551616 : Nat) : Int) := by
    rw [IntKind.wrap_u64]; omega
  have h2 : ((a * 11400714819323198485 % 18446744073709551616 : Nat) : Int) / 4294967296 = ((a * 11400714819323198485 % 18446744073709551616 / 4294967296 : Nat) : Int) := by omega
  rw [h1, h2, Int.tmod_eq_emod_of_nonneg (by omega), ← Int.natCast_emod]
  have h3 : bktN a n < n := Nat.mod_lt _ (by omega)
  unfold bktN at h3 ⊢
  exact IntWalk.wrap64_in _ ⟨by omega, by omega⟩
theorem bktN_lt (a : Nat) {n : Nat} (hn : 1 ≤ n) : bktN a n < n := Nat.mod_lt _ (by omega)

theorem bucket_ok (a n : Nat) (hn : 1 ≤ n) (hn2 : n ≤ 9223372036854775807) (w : World) :
    Calls Tryd.prog 27 #[.int .u64 a, .int .i64 n] w fun e w' => e = .returned (.int .i64 (bktN a n)) ∧ w = w' := by
  have HE := hid (bkt_eq a n hn hn2)
  go_enter Tryd.func27, Tryd.ntmps27
  go_wp2_with fail
  go_ret
  exact ⟨ret_int HE.out, rfl⟩
theorem bucket_none (a : Nat) (n : Int) (hn : n < 1) (w : World) :
    Calls Tryd.prog 27 #[.int .u64 a, .int .i64 n] w fun e w' => e = .returned (.int .i64 0) ∧ w = w' := by
  go_enter Tryd.func27, Tryd.ntmps27
  go_wp2_with fail
  go_ret
  exact ⟨rfl, rfl⟩
theorem rbucket_ok (a n : Nat) (hn : 1 ≤ n) (hn2 : n ≤ 9223372036854775807) (w : World) :
    Calls Tryd.prog 28 #[.int .u64 a, .int .i64 n] w fun e w' => e = .returned (.int .i64 (bktN a n)) ∧ w = w' := by
  have HE := hid (bkt_eq a n hn hn2)
  go_enter Tryd.func28, Tryd.ntmps28
  go_wp2_with fail
  go_ret
  exact ⟨ret_int HE.out, rfl⟩
theorem rbucket_none (a : Nat) (n : Int) (hn : n < 1) (w : World) :
    Calls Tryd.prog 28 #[.int .u64 a, .int .i64 n] w fun e w' => e = .returned (.int .i64 0) ∧ w = w' := by
  go_enter Tryd.func28, Tryd.ntmps28
  go_wp2_with fail
  go_ret
  exact ⟨rfl, rfl⟩

def sumN (width : Int) (a b : Nat) : Nat := cutN width ((cutN width a + cutN width b) % 18446744073709551616)
def lessN (width : Int) (a b : Nat) : Nat := cutN width ((cutN width a + (18446744073709551616 - cutN width b)) % 18446744073709551616)
def fitsN (width : Int) (v : Nat) : Bool := (decide (width = 32) || decide (width = 64)) && decide (cutN width v = v)

theorem sum_ok (width : Int) (a b : Nat) (ha : a < 18446744073709551616) (hb : b < 18446744073709551616) (w : World) :
    Calls Tryd.prog 18 #[.int .i64 width, .int .u64 a, .int .u64 b] w fun e w' => e = .returned (.int .u64 (sumN width a b)) ∧ w = w' := by
  have h1 := cutN_lt width ha
  have h2 := cutN_lt width hb
  have hs : IntKind.u64.wrap ((cutN width a : Int) + cutN width b) = (((cutN width a + cutN width b) % 18446744073709551616 : Nat) : Int) := by rw [IntKind.wrap_u64]; omega
  unfold sumN
  generalize hx : cutN width a = x at *
  generalize hy : cutN width b = y at *
  generalize hz : (x + y) % 18446744073709551616 = z at *
  have hz1 : z < 18446744073709551616 := by rw [← hz]; exact Nat.mod_lt _ (by omega)
  have HX := hid hx
  have HY := hid hy
  clear hx hy hz
  go_enter Tryd.func18, Tryd.ntmps18
  go_wp2_with fail
  refine (cut_ok width a ha _).mono ?_
  rintro e w' ⟨rfl, rfl⟩
  rw [HX.out]
  go_wp2_with fail
  refine (cut_ok width b hb _).mono ?_
  rintro e w' ⟨rfl, rfl⟩
  rw [HY.out]
  go_wp2_with fail
  refine (cut_ok width z hz1 _).mono ?_
  rintro e w' ⟨rfl, rfl⟩
  go_wp2_with fail
  go_ret
  exact ⟨rfl, rfl⟩

theorem less_ok (width : Int) (a b : Nat) (ha : a < 18446744073709551616) (hb : b < 18446744073709551616) (w : World) :
    Calls Tryd.prog 19 #[.int .i64 width, .int .u64 a, .int .u64 b] w fun e w' => e = .returned (.int .u64 (lessN width a b)) ∧ w = w' := by
  have h1 := cutN_lt width ha
  have h2 := cutN_lt width hb
  have hs : IntKind.u64.wrap ((cutN width a : Int) - cutN width b) = (((cutN width a + (18446744073709551616 - cutN width b)) % 18446744073709551616 : Nat) : Int) := by rw [IntKind.wrap_u64]; omega
  unfold lessN
  generalize hx : cutN width a = x at *
  generalize hy : cutN width b = y at *
  generalize hz : (x + (18446744073709551616 - y)) % 18446744073709551616 = z at *
  have hz1 : z < 18446744073709551616 := by rw [← hz]; exact Nat.mod_lt _ (by omega)
  have HX := hid hx
  have HY := hid hy
  clear hx hy hz
  go_enter Tryd.func19, Tryd.ntmps19
  go_wp2_with fail
  refine (cut_ok width a ha _).mono ?_
  rintro e w' ⟨rfl, rfl⟩
  rw [HX.out]
  go_wp2_with fail
  refine (cut_ok width b hb _).mono ?_
  rintro e w' ⟨rfl, rfl⟩
  rw [HY.out]
  go_wp2_with fail
  refine (cut_ok width z hz1 _).mono ?_
  rintro e w' ⟨rfl, rfl⟩
  go_wp2_with fail
  go_ret
  exact ⟨rfl, rfl⟩

theorem rsum_ok (width : Int) (a b : Nat) (ha : a < 18446744073709551616) (hb : b < 18446744073709551616) (w : World) :
    Calls Tryd.prog 24 #[.int .i64 width, .int .u64 a, .int .u64 b] w fun e w' => e = .returned (.int .u64 (sumN width a b)) ∧ w = w' := by
  have h1 := cutN_lt width ha
  have h2 := cutN_lt width hb
  have hs : IntKind.u64.wrap ((cutN width a : Int) + cutN width b) = (((cutN width a + cutN width b) % 18446744073709551616 : Nat) : Int) := by rw [IntKind.wrap_u64]; omega
  unfold sumN
  generalize hx : cutN width a = x at *
  generalize hy : cutN width b = y at *
  generalize hz : (x + y) % 18446744073709551616 = z at *
  have hz1 : z < 18446744073709551616 := by rw [← hz]; exact Nat.mod_lt _ (by omega)
  have HX := hid hx
  have HY := hid hy
  clear hx hy hz
  go_enter Tryd.func24, Tryd.ntmps24
  go_wp2_with fail
  refine (rcut_ok width a ha _).mono ?_
  rintro e w' ⟨rfl, rfl⟩
  rw [HX.out]
  go_wp2_with fail
  refine (rcut_ok width b hb _).mono ?_
  rintro e w' ⟨rfl, rfl⟩
  rw [HY.out]
  go_wp2_with fail
  refine (rcut_ok width z hz1 _).mono ?_
  rintro e w' ⟨rfl, rfl⟩
  go_wp2_with fail
  go_ret
  exact ⟨rfl, rfl⟩

theorem rless_ok (width : Int) (a b : Nat) (ha : a < 18446744073709551616) (hb : b < 18446744073709551616) (w : World) :
    Calls Tryd.prog 25 #[.int .i64 width, .int .u64 a, .int .u64 b] w fun e w' => e = .returned (.int .u64 (lessN width a b)) ∧ w = w' := by
  have h1 := cutN_lt width ha
  have h2 := cutN_lt width hb
  have hs : IntKind.u64.wrap ((cutN width a : Int) - cutN width b) = (((cutN width a + (18446744073709551616 - cutN width b)) % 18446744073709551616 : Nat) : Int) := by rw [IntKind.wrap_u64]; omega
  unfold lessN
  generalize hx : cutN width a = x at *
  generalize hy : cutN width b = y at *
  generalize hz : (x + (18446744073709551616 - y)) % 18446744073709551616 = z at *
  have hz1 : z < 18446744073709551616 := by rw [← hz]; exact Nat.mod_lt _ (by omega)
  have HX := hid hx
  have HY := hid hy
  clear hx hy hz
  go_enter Tryd.func25, Tryd.ntmps25
  go_wp2_with fail
  refine (rcut_ok width a ha _).mono ?_
  rintro e w' ⟨rfl, rfl⟩
  rw [HX.out]
  go_wp2_with fail
  refine (rcut_ok width b hb _).mono ?_
  rintro e w' ⟨rfl, rfl⟩
  rw [HY.out]
  go_wp2_with fail
  refine (rcut_ok width z hz1 _).mono ?_
  rintro e w' ⟨rfl, rfl⟩
  go_wp2_with fail
  go_ret
  exact ⟨rfl, rfl⟩

theorem fits_ok (width : Int) (v : Nat) (hv : v < 18446744073709551616) (w : World) :
    Calls Tryd.prog 21 #[.int .i64 width, .int .u64 v] w fun e w' => e = .returned (.bool (fitsN width v)) ∧ w = w' := by
  unfold fitsN
  by_cases h : width = 32 ∨ width = 64
  · have hf : (decide (width = 32) || decide (width = 64)) = true := by rcases h with h | h <;> simp [h]
    rw [hf, Bool.true_and]
    obtain ⟨x, hx⟩ : ∃ x, cutN width v = x := ⟨_, rfl⟩
    rw [hx]
    have HX := hid hx
    have hdec : ((x : Int) == (v : Int)) = decide (x = v) := by by_cases e : x = v <;> simp [e]; omega
    have HD := hid hdec
    clear hx hf hdec
    rcases h with h | h
    all_goals
      subst h
      go_enter Tryd.func21, Tryd.ntmps21
      go_wp2_with fail
      refine (cut_ok _ v hv _).mono ?_
      rintro e w' ⟨rfl, rfl⟩
      rw [HX.out]
      go_wp2_with fail
      go_ret
      exact ⟨ret_bool (by first | exact HD.out | (by_cases e : x = v <;> simp [e] <;> omega)), rfl⟩
  · have hf : (decide (width = 32) || decide (width = 64)) = false := by simp; exact ⟨fun e => h (.inl e), fun e => h (.inr e)⟩
    rw [hf, Bool.false_and]
    have h1' : (width == 32) = false := by simp; exact fun e => h (.inl e)
    have h2' : (width == 64) = false := by simp; exact fun e => h (.inr e)
    clear h hf
    go_enter Tryd.func21, Tryd.ntmps21
    go_wp2_with fail
    go_ret
    exact ⟨rfl, rfl⟩

theorem meet_ok (a b : Nat) (ha : a < 18446744073709551616) (hb : b < 18446744073709551616) (w : World) :
    Calls Tryd.prog 26 #[.int .u64 a, .int .u64 b] w fun e w' => e = .returned (.bool (decide (a &&& b ≠ 0))) ∧ w = w' := by
  have hand := u64_and_nat a b ha hb
  obtain ⟨x, hx⟩ : ∃ x, a &&& b = x := ⟨_, rfl⟩
  rw [hx] at hand ⊢
  clear hx
  go_enter Tryd.func26, Tryd.ntmps26
  go_wp2_with fail
  go_ret
  exact ⟨ret_bool (by by_cases e : x = 0 <;> simp [e]), rfl⟩

end Go.Proofs.YtbiiggligcfklaaDoor
