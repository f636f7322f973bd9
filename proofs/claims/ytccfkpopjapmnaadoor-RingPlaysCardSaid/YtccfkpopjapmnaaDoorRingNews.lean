/- package ring: the document's example; the laws RingNews, RingQueues. -/
import Derived.Test.YtccfkpopjapmnaaDoorRingLen
import Derived.Test.YtccfkpopjapmnaaDoorKeep
import Derived.Test.YtccfkpopjapmnaaDoorOpen
namespace Go.Proofs.YtccfkpopjapmnaaDoor
open Go Go.RowKit

set_option maxRecDepth 100000 in
set_option maxHeartbeats 4000000 in
theorem awake_ok (w : World) (hg : Laid w) : Calls Tryd.prog 10 #[] w fun e w' => e = .returned (.bool true) ∧ Kept [] w w' := by
  have HG := hid hg
  clear hg
  go_enter Tryd.func10, Tryd.ntmps10
  go_wp2_with fail
  refine (new_ok 2 (by decide) (by decide) w).mono ?_
  rintro e w1 ⟨b, bl, rfl, hb, hbl, hR, hK⟩
  have HR := hid hR
  have HK := hid hK
  clear hR hK
  go_wp2_with fail
  refine (put_ok HR.out (by decide) 5).mono ?_
  rintro e w2 ⟨rfl, hR, hK⟩
  have HR2 := hid hR
  have HK2 := hid hK
  clear hR hK
  go_wp2_with fail
  refine (put_ok HR2.out (by decide) 6).mono ?_
  rintro e w3 ⟨rfl, hR, hK⟩
  have HR3 := hid hR
  have HK3 := hid hK
  clear hR hK
  have HKa := hid ((HK.out.trans' HK2.out (by simp; omega)).trans' HK3.out (by simp; omega))
  go_wp2_with fail
  refine (put_full HR3.out rfl 7).mono ?_
  rintro e w4 ⟨v, rfl, be, rfl, -, hB, hK⟩
  have HB := hid hB
  have HK4 := hid hK
  clear hB hK
  go_wp2_with fail
  refine (no_ok _ _ _ _).mono ?_
  rintro e w5 ⟨fb, rfl, hF, hfb, hK5⟩
  have HF := hid hF
  have HK5 := hid hK5
  clear hF hK5
  go_wp2_with fail
  refine (same_hit be fb sRing 0 3 (by decide) (by decide) _ (HG.out.keptN ((HKa.out.trans HK4.out).trans HK5.out)) (HB.out.keptN HK5.out) HF.out).mono ?_
  rintro e w6 ⟨rfl, hK6⟩
  have HK6 := hid hK6
  clear hK6
  go_wp2_with fail
  refine (take_some (x := 5) (L := [6]) (HR3.out.keptN ((HK4.out.trans HK5.out).trans HK6.out))).mono ?_
  rintro e w7 ⟨rfl, hR, hK⟩
  have HR7 := hid hR
  have HK7 := hid hK
  clear hR hK
  go_wp2_with fail
  refine (len_ok HR7.out).mono ?_
  rintro e w8 ⟨rfl, hK8⟩
  rw [show [(6 : Int)].length = 1 from rfl]
  have HK8 := hid hK8
  clear hK8
  go_wp2_with fail
  go_ret
  exact ⟨rfl, ((((HKa.out.trans HK4.out).trans HK5.out).trans HK6.out).trans' HK7.out (by simp; omega)).trans HK8.out⟩

/-- The numbers from o on, m of them. -/
def seqL (o m : Nat) : List Int := (List.range m).map fun (k : Nat) => ((o + k : Nat) : Int)
theorem seqL_length (o m : Nat) : (seqL o m).length = m := by simp [seqL]
theorem seqL_snoc (o m : Nat) : seqL o m ++ [((o + m : Nat) : Int)] = seqL o (m + 1) := by simp [seqL, List.range_succ]
theorem seqL_cons (o m : Nat) : seqL o (m + 1) = (o : Int) :: seqL (o + 1) m := by
  simp only [seqL, List.range_succ_eq_map, List.map_cons, List.map_map, Nat.add_zero]
  congr 1
  apply List.map_congr_left
  intro a _
  show ((o + (a + 1) : Nat) : Int) = ((o + 1 + a : Nat) : Int)
  congr 1
  omega

set_option maxRecDepth 100000 in
set_option maxHeartbeats 4000000 in
theorem news_law (most : Int) (w : World) (hg : Laid w) (h0 : -9223372036854775808 ≤ most) (h1 : most ≤ 9223372036854775807) :
    Calls Tryd.prog 3 #[.int .i64 most] w fun e w' => e = .returned (.bool true) ∧ Kept [] w w' := by
  have HG := hid hg
  clear hg
  by_cases hb : most < 1 ∨ 4096 < most
  · have hbad := hid (new_bad most hb)
    rcases hb with hb | hb
    all_goals
      go_enter Tryd.func3, Tryd.ntmps3
      go_wp2_with fail
      refine (hbad.out _).mono ?_
      rintro e w1 ⟨v, rfl, b, rfl, hb1, hB, hK⟩
      have HB := hid hB
      have HK := hid hK
      clear hB hK
      go_wp2_with fail
      refine (no_ok _ _ _ _).mono ?_
      rintro e w2 ⟨fb, rfl, hF, hfb, hK2⟩
      have HF := hid hF
      have HK2 := hid hK2
      clear hF hK2
      go_wp2_with fail
      refine (same_hit b fb sRing 0 1 (by decide) (by decide) _ (HG.out.keptN (HK.out.trans HK2.out)) (HB.out.keptN HK2.out) HF.out).mono ?_
      rintro e w3 ⟨rfl, hK3⟩
      have HK3 := hid hK3
      clear hK3
      go_wp2_with fail
      refine (awake_ok _ (HG.out.keptN ((HK.out.trans HK2.out).trans HK3.out))).mono ?_
      rintro e w4 ⟨rfl, hK4⟩
      have HK4 := hid hK4
      clear hK4
      go_wp2_with fail
      go_ret
      exact ⟨rfl, ((HK.out.trans HK2.out).trans HK3.out).trans HK4.out⟩
  · obtain ⟨n, rfl⟩ : ∃ n : Nat, most = n := ⟨most.toNat, by omega⟩
    have hn1 : 1 ≤ n := by omega
    have hn2 : n ≤ 4096 := by omega
    clear hb
    go_enter Tryd.func3, Tryd.ntmps3
    go_wp2_with fail
    refine (new_ok n hn1 hn2 w).mono ?_
    rintro e w1 ⟨b, bl, rfl, hb, hbl, hR, hK⟩
    have HR1 := hid hR
    have HK1 := hid hK
    clear hR hK
    go_wp2_with fail
    refine (len_ok HR1.out).mono ?_
    rintro e w2 ⟨rfl, hK2⟩
    rw [show ([] : List Int).length = 0 from rfl]
    have HK2 := hid hK2
    clear hK2
    go_wp2_with fail
    go_loopw [5] (fun i wr => ∃ k : Nat, k ≤ n ∧ i = .int .i64 k ∧ RingAt wr b bl n 0 (seqL 0 k) ∧ Kept [] w wr) (fun i _ => n - (intOf i).toNat)
    case atStart => exact ⟨0, Nat.zero_le _, rfl, HR1.out.keptN HK2.out, HK1.out.trans HK2.out⟩
    case round =>
      obtain ⟨k, hk, rfl, hR, hK⟩ := hrel
      have HR := hid hR
      have HK := hid hK
      clear hR hK
      by_cases hlt : k < n
      · go_wp2_with fail
        refine (put_ok HR.out (by rw [seqL_length]; exact hlt) (k : Int)).mono ?_
        rintro e w3 ⟨rfl, hR, hK⟩
        have HR3 := hid hR
        have HK3 := hid (HK.out.trans' hK (by simp; omega))
        clear hR hK
        go_wp2_with fail
        go_roundw
        case rel => exact ⟨k + 1, by omega, by go_num, by have := HR3.out; rw [show (k : Int) = ((0 + k : Nat) : Int) by simp, seqL_snoc] at this; exact this, HK3.out⟩
        case measure => simp [intOf]; omega
      · obtain rfl : k = n := by omega
        obtain ⟨n', rfl⟩ : ∃ n', k = n' + 1 := ⟨k - 1, by omega⟩
        have hR := HR.out
        rw [seqL_cons] at hR
        have HRc := hid hR
        clear hR
        go_wp2_with fail
        refine (take_some HRc.out).mono ?_
        rintro e w3 ⟨rfl, hR, hK⟩
        have HR3 := hid hR
        have HK3 := hid (HK.out.trans' hK (by simp; omega))
        clear hR hK
        go_wp2_with fail
        refine (put_ok HR3.out (by rw [seqL_length]; omega) 9).mono ?_
        rintro e w4 ⟨rfl, hR, hK⟩
        have HR4 := hid hR
        have HK4 := hid (HK3.out.trans' hK (by simp; omega))
        clear hR hK
        go_wp2_with fail
        refine (put_full HR4.out (by rw [List.length_append, seqL_length]; rfl) 9).mono ?_
        rintro e w5 ⟨v, rfl, be, rfl, -, hB, hK⟩
        have HB := hid hB
        have HK5 := hid hK
        clear hB hK
        go_wp2_with fail
        refine (no_ok _ _ _ _).mono ?_
        rintro e w6 ⟨fb, rfl, hF, hfb, hK6⟩
        have HF := hid hF
        have HK6 := hid hK6
        clear hF hK6
        go_wp2_with fail
        refine (same_hit be fb sRing 0 3 (by decide) (by decide) _ (HG.out.keptN ((HK4.out.trans HK5.out).trans HK6.out)) (HB.out.keptN HK6.out) HF.out).mono ?_
        rintro e w7 ⟨rfl, hK7⟩
        have HK7 := hid hK7
        clear hK7
        go_wp2_with fail
        refine (len_ok (HR4.out.keptN ((HK5.out.trans HK6.out).trans HK7.out))).mono ?_
        rintro e w8 ⟨rfl, hK8⟩
        rw [show (seqL (0 + 1) n' ++ [(9 : Int)]).length = n' + 1 by rw [List.length_append, seqL_length]; rfl]
        have HK8 := hid ((((HK4.out.trans HK5.out).trans HK6.out).trans HK7.out).trans hK8)
        clear hK8
        go_wp2_with fail
        refine (awake_ok _ (HG.out.keptN HK8.out)).mono ?_
        rintro e w9 ⟨rfl, hK9⟩
        have HK9 := hid hK9
        clear hK9
        go_wp2_with fail
        go_ret
        exact ⟨rfl, HK8.out.trans HK9.out⟩

end Go.Proofs.YtccfkpopjapmnaaDoor
