/- package ring: the law RingQueues. -/
import Derived.Test.YtccfkpopjapmnaaDoorRingNews
namespace Go.Proofs.YtccfkpopjapmnaaDoor
open Go Go.RowKit

set_option maxRecDepth 100000 in
set_option maxHeartbeats 4000000 in
theorem queues_law (most : Int) (a : Option Addr) (len cap : Nat) (g : Nat → Bool) (w : World) (hg : Laid w) (hm0 : -9223372036854775808 ≤ most) (hm1 : most ≤ 9223372036854775807) (hA : BoolsAt w a len g) :
    Calls Tryd.prog 4 #[.int .i64 most, .slice a len cap] w fun e w' => e = .returned (.bool true) ∧ Kept [] w w' := by
  have HG := hid hg
  have HAR := hid hA
  have hlen : len ≤ 9223372036854775807 := by have := hA.small; unfold maxLen at this; omega
  clear hg hA
  go_enter Tryd.func4, Tryd.ntmps4
  go_wp2_with fail
  refine (within_ok most 9 (by decide) hm0 hm1 (by decide) _).mono ?_
  rintro e w0 ⟨rfl, rfl⟩
  have hp0 := Int.emod_nonneg most (show (9 : Int) ≠ 0 by decide)
  have hp1 := Int.emod_lt_of_pos most (show (0 : Int) < 9 by decide)
  generalize most % 9 = q0 at *
  go_wp2_with fail
  obtain ⟨n, hnq⟩ : ∃ n : Nat, 1 + q0 = (n : Int) := ⟨(1 + q0).toNat, by omega⟩
  rw [hnq]
  have hn1 : 1 ≤ n := by omega
  have hn6 : n ≤ 9 := by omega
  clear hnq hp0 hp1
  refine (new_ok n hn1 (by omega) w).mono ?_
  rintro e w1 ⟨b, bl, rfl, hb, hbl, hR, hK⟩
  have HR1 := hid hR
  have HK1 := hid hK
  clear hR hK
  go_wp2_with fail
  go_loopw [8, 9, 10] (fun s8 s9 i wr => ∃ k o m fr : Nat, k ≤ len ∧ o + m ≤ k ∧ k ≤ 300 ∧ m ≤ n ∧ s8 = .int .u64 ((o : Int) + m) ∧ s9 = .int .u64 o ∧ i = .int .i64 k ∧ RingAt wr b bl n fr (seqL o m) ∧ Kept [] w wr) (fun _ _ i _ => len - (intOf i).toNat)
  case atStart => exact ⟨0, 0, 0, 0, Nat.zero_le _, by omega, by omega, by omega, rfl, rfl, rfl, HR1.out, HK1.out⟩
  case round =>
    obtain ⟨k, o, m, fr, hk, hom, hk3, hmn, rfl, rfl, rfl, hR, hK⟩ := hrel
    have HR := hid hR
    have HK := hid hK
    clear hR hK
    by_cases hlt : k < len
    · by_cases hlt3 : k < 300
      · obtain ⟨ba, offa, rfl, hba, hca⟩ := HAR.out.cell k hlt
        have hc0 := HK.out.cellSome hca (by simp)
        clear hca
        cases hgk : g k with
        | true =>
          rw [hgk] at hc0
          clear hgk
          by_cases hf : m = n
          · subst hf
            have hmm : ((o : Int) + m - o == (m : Int)) = true := by simp; omega
            go_wp2_with fail
            refine (put_full HR.out (seqL_length o m) _).mono ?_
            rintro e w3 ⟨v, rfl, be, rfl, -, -, hK⟩
            have HK3 := hid hK
            clear hK
            go_wp2_with fail
            go_roundw
            case rel => exact ⟨k + 1, o, m, fr, by omega, by omega, by omega, by omega, rfl, rfl, by go_num, HR.out.keptN HK3.out, HK.out.trans HK3.out⟩
            case measure => simp [intOf]; omega
          · have hmm : ((o : Int) + m - o == (n : Int)) = false := by simp; omega
            have hmm2 : ((m : Int) == (n : Int)) = false := by simp; omega
            go_wp2_with fail
            refine (put_ok HR.out (by rw [seqL_length]; omega) _).mono ?_
            rintro e w3 ⟨rfl, hR, hK⟩
            rw [show (o : Int) + m = ((o + m : Nat) : Int) by omega, seqL_snoc] at hR
            have HR3 := hid hR
            have HK3 := hid (HK.out.trans' hK (by simp; omega))
            clear hR hK
            go_wp2_with fail
            go_roundw
            case rel => exact ⟨k + 1, o, m + 1, fr, by omega, by omega, by omega, by omega, by congr 1 <;> omega, rfl, by go_num, HR3.out, HK3.out⟩
            case measure => simp [intOf]; omega
        | false =>
          rw [hgk] at hc0
          clear hgk
          by_cases hm0 : m = 0
          · subst hm0
            go_wp2_with fail
            refine (take_none (show RingAt wr b bl n fr [] from HR.out)).mono ?_
            rintro e w3 ⟨rfl, rfl⟩
            go_wp2_with fail
            go_roundw
            case rel => exact ⟨k + 1, o, 0, fr, by omega, by omega, by omega, by omega, rfl, rfl, by go_num, HR.out, HK.out⟩
            case measure => simp [intOf]; omega
          · obtain ⟨m', rfl⟩ : ∃ m', m = m' + 1 := ⟨m - 1, by omega⟩
            have hR := HR.out
            rw [seqL_cons] at hR
            have HR2 := hid hR
            clear hR
            go_wp2_with fail
            refine (take_some HR2.out).mono ?_
            rintro e w3 ⟨rfl, hR, hK⟩
            have HR3 := hid hR
            have HK3 := hid (HK.out.trans' hK (by simp; omega))
            clear hR hK
            have hgt : (o : Int) < (o : Int) + ((m' + 1 : Nat) : Int) := by omega
            go_wp2_with fail
            go_roundw
            case rel => exact ⟨k + 1, o + 1, m', _, by omega, by omega, by omega, by omega, by congr 1 <;> omega, by go_num, by go_num, HR3.out, HK3.out⟩
            case measure => simp [intOf]; omega
      · obtain rfl : k = 300 := by omega
        go_wp2_with fail
        refine (len_ok HR.out).mono ?_
        rintro e w6 ⟨rfl, hK6⟩
        rw [seqL_length]
        have HK6 := hid hK6
        clear hK6
        have hmm : ((m : Int) == (o : Int) + m - o) = true := by simp; omega
        go_wp2_with fail
        refine (awake_ok _ (HG.out.keptN (HK.out.trans HK6.out))).mono ?_
        rintro e w7 ⟨rfl, hK7⟩
        have HK7 := hid hK7
        clear hK7
        go_wp2_with fail
        go_ret
        exact ⟨rfl, (HK.out.trans HK6.out).trans HK7.out⟩
    · go_wp2_with fail
      refine (len_ok HR.out).mono ?_
      rintro e w6 ⟨rfl, hK6⟩
      rw [seqL_length]
      have HK6 := hid hK6
      clear hK6
      have hmm : ((m : Int) == (o : Int) + m - o) = true := by simp; omega
      go_wp2_with fail
      refine (awake_ok _ (HG.out.keptN (HK.out.trans HK6.out))).mono ?_
      rintro e w7 ⟨rfl, hK7⟩
      have HK7 := hid hK7
      clear hK7
      go_wp2_with fail
      go_ret
      exact ⟨rfl, (HK.out.trans HK6.out).trans HK7.out⟩

end Go.Proofs.YtccfkpopjapmnaaDoor
