/- The laws WordCuts, WordRings. -/
import Derived.Test.YtbiiggligcfklaaDoorWordA
namespace Go.Proofs.YtbiiggligcfklaaDoor
open Go Go.RowKit

theorem rfits_ok (width : Int) (v : Nat) (hv : v < 18446744073709551616) (w : World) :
    Calls Tryd.prog 23 #[.int .i64 width, .int .u64 v] w fun e w' => e = .returned (.bool (fitsN width v)) ∧ w = w' := by
  unfold fitsN
  by_cases h : width = 32 ∨ width = 64
  · have hf : (decide (width = 32) || decide (width = 64)) = true := by rcases h with h | h <;> simp [h]
    rw [hf, Bool.true_and]
    obtain ⟨x, hx⟩ : ∃ x, cutN width v = x := ⟨_, rfl⟩
    rw [hx]
    have HX := hid hx
    have hdec : ((x : Int) == (v : Int)) = decide (x = v) := by by_cases e : x = v <;> simp [e]; omega
    have HD := hid hdec
    clear hx hf hdec
    rcases h with h | h
    all_goals
      subst h
      go_enter Tryd.func23, Tryd.ntmps23
      go_wp2_with fail
      refine (rcut_ok _ v hv _).mono ?_
      rintro e w' ⟨rfl, rfl⟩
      rw [HX.out]
      go_wp2_with fail
      go_ret
      exact ⟨ret_bool (by first | exact HD.out | (by_cases e : x = v <;> simp [e] <;> omega)), rfl⟩
  · have hf : (decide (width = 32) || decide (width = 64)) = false := by simp; exact ⟨fun e => h (.inl e), fun e => h (.inr e)⟩
    rw [hf, Bool.false_and]
    have h1' : (width == 32) = false := by simp; exact fun e => h (.inl e)
    have h2' : (width == 64) = false := by simp; exact fun e => h (.inr e)
    clear h hf
    go_enter Tryd.func23, Tryd.ntmps23
    go_wp2_with fail
    go_ret
    exact ⟨rfl, rfl⟩

/-- The three widths that are tried. -/
def widthAt (width : Int) (i : Nat) : Int := if i = 0 then 64 else if i = 1 then 32 else width

set_option maxRecDepth 100000 in
set_option maxHeartbeats 2000000 in
theorem cuts_law (width a b : Int) (w : World) (hg : Laid w) (ha0 : 0 ≤ a) (ha1 : a ≤ 18446744073709551615) (hb0 : 0 ≤ b) (hb1 : b ≤ 18446744073709551615) :
    Calls Tryd.prog 8 #[.int .i64 width, .int .u64 a, .int .u64 b] w fun e w' => e = .returned (.bool true) ∧ Kept [] w w' := by
  obtain ⟨x, rfl⟩ : ∃ x : Nat, a = (x : Int) := ⟨a.toNat, by omega⟩
  obtain ⟨y, rfl⟩ : ∃ y : Nat, b = (y : Int) := ⟨b.toNat, by omega⟩
  have hx : x < 18446744073709551616 := by omega
  have hy : y < 18446744073709551616 := by omega
  have HG := hid hg
  clear hg ha0 ha1 hb0 hb1
  go_enter Tryd.func8, Tryd.ntmps8
  go_wp2_with fail
  have hB := Blk.newA (w := w) #[.int .i64 64, .int .i64 32, .int .i64 width] 3 rfl
  generalize hw1 : World.alloc w _ = w1 at hB ⊢
  have HK1 := hid (show Kept [] w w1 by rw [← hw1]; exact (Kept.refl _ _).alloc _)
  clear hw1
  have e0 := hB.cell (o := 0) rfl
  have e1 := hB.cell (o := 1) rfl
  have e2 := hB.cell (o := 2) rfl
  have HB := hid hB
  clear hB
  go_loop [8, 12] (fun _ s12 => ∃ i : Nat, i ≤ 3 ∧ s12 = .int .i64 i) (fun _ s12 => 3 - (intOf s12).toNat)
  case atStart => exact ⟨0, by omega, rfl⟩
  case round =>
    obtain ⟨i, hi, rfl⟩ := hrel
    by_cases hlt : i < 3
    · have d0 : w1.cell? ⟨w.heap.size, i, none⟩ = some (.int .i64 (widthAt width i)) := by
        rcases (show i = 0 ∨ i = 1 ∨ i = 2 by omega) with rfl | rfl | rfl
        · exact e0
        · exact e1
        · exact e2
      generalize widthAt width i = wd at *
      have F1 := hid (cut_ok wd x hx)
      have F2 := hid (rcut_ok wd x hx)
      have F3 := hid (fits_ok wd x hx)
      have F4 := hid (rfits_ok wd x hx)
      have F5 := hid (sum_ok wd x y hx hy)
      have F6 := hid (rsum_ok wd x y hx hy)
      have F7 := hid (less_ok wd x y hx hy)
      have F8 := hid (rless_ok wd x y hx hy)
      generalize cutN wd x = n1 at *
      generalize fitsN wd x = n2 at *
      generalize sumN wd x y = n3 at *
      generalize lessN wd x y = n4 at *
      have q1 : ((n1 : Int) != (n1 : Int)) = false := by simp
      have q2 : (n2 != n2) = false := by simp
      have q3 : ((n3 : Int) != (n3 : Int)) = false := by simp
      have q4 : ((n4 : Int) != (n4 : Int)) = false := by simp
      clear e0 e1 e2
      go_wp2_with (first
        | (go_at_call 20; refine (F1.out _).mono ?_; rintro e w' ⟨rfl, rfl⟩)
        | (go_at_call 22; refine (F2.out _).mono ?_; rintro e w' ⟨rfl, rfl⟩)
        | (go_at_call 21; refine (F3.out _).mono ?_; rintro e w' ⟨rfl, rfl⟩)
        | (go_at_call 23; refine (F4.out _).mono ?_; rintro e w' ⟨rfl, rfl⟩)
        | (go_at_call 18; refine (F5.out _).mono ?_; rintro e w' ⟨rfl, rfl⟩)
        | (go_at_call 24; refine (F6.out _).mono ?_; rintro e w' ⟨rfl, rfl⟩)
        | (go_at_call 19; refine (F7.out _).mono ?_; rintro e w' ⟨rfl, rfl⟩)
        | (go_at_call 25; refine (F8.out _).mono ?_; rintro e w' ⟨rfl, rfl⟩))
      go_round
      case rel => exact ⟨i + 1, by omega, by go_num⟩
      case measure => simp [intOf]; omega
    · obtain rfl : i = 3 := by omega
      have hand := u64_and_nat x y hx hy
      have F9 := hid (meet_ok x y hx hy)
      generalize x &&& y = n5 at *
      have HAW := hid (awake_ok w1 (HG.out.keptN HK1.out))
      clear e0 e1 e2
      by_cases e5 : n5 = 0
      · subst e5
        go_wp2_with (first
          | (go_at_call 26; refine (F9.out _).mono ?_; rintro e w' ⟨rfl, rfl⟩)
          | (go_at_call 12; refine HAW.out.mono ?_; rintro e w' ⟨rfl, hK⟩))
        go_ret
        exact ⟨rfl, HK1.out.trans hK⟩
      · have e5' : ((n5 : Int) == 0) = false := by simp; omega
        have e5'' : ((n5 : Int) != 0) = true := by simp; omega
        go_wp2_with (first
          | (go_at_call 26; refine (F9.out _).mono ?_; rintro e w' ⟨rfl, rfl⟩)
          | (go_at_call 12; refine HAW.out.mono ?_; rintro e w' ⟨rfl, hK⟩))
        go_ret
        exact ⟨rfl, HK1.out.trans hK⟩

end Go.Proofs.YtbiiggligcfklaaDoor
