/- The law WordRings. -/
import Derived.Test.YtbiiggligcfklaaDoorWordA
namespace Go.Proofs.YtbiiggligcfklaaDoor
open Go Go.RowKit

theorem sumN_lt (width : Int) (a b : Nat) : sumN width a b < 18446744073709551616 := cutN_lt width (Nat.mod_lt _ (by omega))
theorem lessN_lt (width : Int) (a b : Nat) : lessN width a b < 18446744073709551616 := cutN_lt width (Nat.mod_lt _ (by omega))
theorem ring1 (wd : Int) (a b : Nat) : sumN wd b a = sumN wd a b := by
  unfold sumN; rw [Nat.add_comm]
theorem cut64 (v : Nat) : cutN 64 v = v := rfl
theorem cut32 (v : Nat) : cutN 32 v = v % 4294967296 := rfl
theorem ring2 {wd : Int} (h : wd = 64 ∨ wd = 32) (a b c : Nat) : sumN wd a (sumN wd b c) = sumN wd (sumN wd a b) c := by
  rcases h with rfl | rfl
  · simp only [sumN, cut64]; omega
  · simp only [sumN, cut32]; omega
theorem ring3 {wd : Int} (h : wd = 64 ∨ wd = 32) {a b : Nat} (ha : a < 18446744073709551616) (hb : b < 18446744073709551616) : lessN wd (sumN wd a b) b = cutN wd a := by
  rcases h with rfl | rfl
  · simp only [sumN, lessN, cut64]; omega
  · simp only [sumN, lessN, cut32]; omega
theorem ring4 {wd : Int} (h : wd = 64 ∨ wd = 32) {a b : Nat} (ha : a < 18446744073709551616) (hb : b < 18446744073709551616) : sumN wd (lessN wd a b) b = cutN wd a := by
  rcases h with rfl | rfl
  · simp only [sumN, lessN, cut64]; omega
  · simp only [sumN, lessN, cut32]; omega
theorem ring5 {wd : Int} (h : wd = 64 ∨ wd = 32) (a b : Nat) : fitsN wd (sumN wd a b) = true := by
  rcases h with rfl | rfl
  · simp [fitsN, sumN, cut64]
  · simp [fitsN, sumN, cut32]

set_option maxRecDepth 100000 in
set_option maxHeartbeats 2000000 in
theorem rings_law (a b c : Int) (w : World) (hg : Laid w) (ha0 : 0 ≤ a) (ha1 : a ≤ 18446744073709551615) (hb0 : 0 ≤ b) (hb1 : b ≤ 18446744073709551615) (hc0 : 0 ≤ c) (hc1 : c ≤ 18446744073709551615) :
    Calls Tryd.prog 7 #[.int .u64 a, .int .u64 b, .int .u64 c] w fun e w' => e = .returned (.bool true) ∧ Kept [] w w' := by
  obtain ⟨x, rfl⟩ : ∃ x : Nat, a = (x : Int) := ⟨a.toNat, by omega⟩
  obtain ⟨y, rfl⟩ : ∃ y : Nat, b = (y : Int) := ⟨b.toNat, by omega⟩
  obtain ⟨z, rfl⟩ : ∃ z : Nat, c = (z : Int) := ⟨c.toNat, by omega⟩
  have hx : x < 18446744073709551616 := by omega
  have hy : y < 18446744073709551616 := by omega
  have hz : z < 18446744073709551616 := by omega
  have HG := hid hg
  clear hg ha0 ha1 hb0 hb1 hc0 hc1
  go_enter Tryd.func7, Tryd.ntmps7
  go_wp2_with fail
  have hB := Blk.newA (w := w) #[.int .i64 64, .int .i64 32] 3 rfl
  generalize hw1 : World.alloc w _ = w1 at hB ⊢
  have HK1 := hid (show Kept [] w w1 by rw [← hw1]; exact (Kept.refl _ _).alloc _)
  clear hw1
  have e0 := hB.cell (o := 0) rfl
  have e1 := hB.cell (o := 1) rfl
  have HB := hid hB
  clear hB
  go_loop [8, 11] (fun _ s11 => ∃ i : Nat, i ≤ 2 ∧ s11 = .int .i64 i) (fun _ s11 => 2 - (intOf s11).toNat)
  case atStart => exact ⟨0, by omega, rfl⟩
  case round =>
    obtain ⟨i, hi, rfl⟩ := hrel
    by_cases hlt : i < 2
    · obtain ⟨wd, hwd, d0⟩ : ∃ wd : Int, (wd = 64 ∨ wd = 32) ∧ w1.cell? ⟨w.heap.size, i, none⟩ = some (.int .i64 wd) := by
        rcases (show i = 0 ∨ i = 1 by omega) with rfl | rfl
        · exact ⟨64, .inl rfl, e0⟩
        · exact ⟨32, .inr rfl, e1⟩
      have F1 := hid (sum_ok wd x y hx hy)
      have F2 := hid (sum_ok wd y x hy hx)
      have F3 := hid (sum_ok wd (sumN wd x y) z (sumN_lt _ _ _) hz)
      have F4 := hid (sum_ok wd y z hy hz)
      have F5 := hid (sum_ok wd x (sumN wd y z) hx (sumN_lt _ _ _))
      have F6 := hid (less_ok wd (sumN wd x y) y (sumN_lt _ _ _) hy)
      have F7 := hid (cut_ok wd x hx)
      have F8 := hid (less_ok wd x y hx hy)
      have F9 := hid (sum_ok wd (lessN wd x y) y (lessN_lt _ _ _) hy)
      have F10 := hid (fits_ok wd (sumN wd x y) (sumN_lt _ _ _))
      rw [ring1 wd x y] at F2
      rw [ring2 hwd x y z] at F5
      rw [ring3 hwd hx hy] at F6
      rw [ring4 hwd hx hy] at F9
      rw [ring5 hwd x y] at F10
      generalize sumN wd (sumN wd x y) z = n1 at *
      generalize sumN wd x y = n2 at *
      generalize sumN wd y z = n3 at *
      generalize lessN wd x y = n4 at *
      generalize cutN wd x = n5 at *
      have q1 : ((n1 : Int) != (n1 : Int)) = false := by simp
      have q2 : ((n2 : Int) != (n2 : Int)) = false := by simp
      have q5 : ((n5 : Int) != (n5 : Int)) = false := by simp
      clear e0 e1 hwd
      go_wp2_with fail
      refine (F1.out _).mono ?_
      rintro e w' ⟨rfl, rfl⟩
      go_wp2_with fail
      refine (F2.out _).mono ?_
      rintro e w' ⟨rfl, rfl⟩
      go_wp2_with fail
      refine (F1.out _).mono ?_
      rintro e w' ⟨rfl, rfl⟩
      go_wp2_with fail
      refine (F3.out _).mono ?_
      rintro e w' ⟨rfl, rfl⟩
      go_wp2_with fail
      refine (F4.out _).mono ?_
      rintro e w' ⟨rfl, rfl⟩
      go_wp2_with fail
      refine (F5.out _).mono ?_
      rintro e w' ⟨rfl, rfl⟩
      go_wp2_with fail
      refine (F1.out _).mono ?_
      rintro e w' ⟨rfl, rfl⟩
      go_wp2_with fail
      refine (F6.out _).mono ?_
      rintro e w' ⟨rfl, rfl⟩
      go_wp2_with fail
      refine (F7.out _).mono ?_
      rintro e w' ⟨rfl, rfl⟩
      go_wp2_with fail
      refine (F8.out _).mono ?_
      rintro e w' ⟨rfl, rfl⟩
      go_wp2_with fail
      refine (F9.out _).mono ?_
      rintro e w' ⟨rfl, rfl⟩
      go_wp2_with fail
      refine (F7.out _).mono ?_
      rintro e w' ⟨rfl, rfl⟩
      go_wp2_with fail
      refine (F1.out _).mono ?_
      rintro e w' ⟨rfl, rfl⟩
      go_wp2_with fail
      refine (F10.out _).mono ?_
      rintro e w' ⟨rfl, rfl⟩
      go_wp2_with fail
      go_round
      case rel => exact ⟨i + 1, by omega, by go_num⟩
      case measure => simp [intOf]; omega
    · obtain rfl : i = 2 := by omega
      have F1 := hid (cut_ok 64 x hx)
      have F2 := hid (cut_ok 32 x hx)
      have HAW := hid (awake_ok w1 (HG.out.keptN HK1.out))
      rw [cut64] at F1
      generalize cutN 32 x = n1 at *
      clear e0 e1
      go_wp2_with fail
      refine (F1.out _).mono ?_
      rintro e w' ⟨rfl, rfl⟩
      go_wp2_with fail
      refine (F2.out _).mono ?_
      rintro e w' ⟨rfl, rfl⟩
      go_wp2_with fail
      refine (F2.out _).mono ?_
      rintro e w' ⟨rfl, rfl⟩
      go_wp2_with fail
      refine HAW.out.mono ?_
      rintro e w' ⟨rfl, hK⟩
      go_wp2_with fail
      go_ret
      exact ⟨rfl, HK1.out.trans hK⟩

end Go.Proofs.YtbiiggligcfklaaDoor
