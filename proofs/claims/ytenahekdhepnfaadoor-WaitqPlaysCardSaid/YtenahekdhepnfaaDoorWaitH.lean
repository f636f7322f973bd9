/- package waitq: the law WaitqPlays. -/
import Derived.Test.YtenahekdhepnfaaDoorWaitJ
namespace Go.Proofs.YtenahekdhepnfaaDoor
open Go Go.RowKit

set_option maxRecDepth 100000 in
set_option maxHeartbeats 4000000 in
theorem plays_law (buckets : Int) (a : Option Addr) (len cap : Nat) (g : Nat → Nat → Int) (w : World) (hg : Laid w) (hA : IntRows w a len [.i64, .u64, .u64, .u64, .u64] g) (d0 : -9223372036854775808 ≤ buckets) (d1 : buckets ≤ 9223372036854775807) :
    Calls Tryd.prog 5 #[.int .i64 buckets, .slice a len cap] w fun e w' => e = .returned (.bool true) ∧ Kept [] w w' := by
  have HG := hid hg
  have HAR := hid hA
  have hlen : len ≤ 9223372036854775807 := by have := hA.small; unfold maxLen at this; omega
  have HWI := hid (within_ok buckets 9 (by decide) d0 d1 (by decide) w)
  obtain ⟨dd, hdd⟩ : ∃ dd : Nat, buckets % 9 = (dd : Int) := ⟨(buckets % 9).toNat, by omega⟩
  have hdl : dd < 9 := by omega
  rw [hdd] at HWI
  obtain ⟨n, hn⟩ : ∃ n : Nat, 1 + dd = n := ⟨_, rfl⟩
  have hnI : (1 : Int) + (dd : Int) = (n : Int) := by omega
  have hn1 : 1 ≤ n := by omega
  have hn2 : n ≤ 64 := by omega
  have HNE := hid (new_ok n hn1 hn2 w)
  have HNR := hid (fun W => rnew_ok n hn1 hn2 W)
  clear hg hA d0 d1 hdd hn
  go_enter Tryd.func5, Tryd.ntmps5
  go_wp2_with fail
  refine HWI.out.mono ?_
  rintro e w1 ⟨rfl, rfl⟩
  go_wp2_with fail
  refine HNE.out.mono ?_
  rintro e w1 ⟨qb, lb, mb, rfl, hqb, hO1, hW1, hK1⟩
  have HW1 := hid hW1
  have HO1 := hid hO1
  have HK1 := hid hK1
  clear hW1 hO1 hK1
  go_wp2_with fail
  refine (HNR.out _).mono ?_
  rintro e w2 ⟨rb, rfl, hrb, hR2, hK2⟩
  have hsz := HK1.out.size
  have HB0 := hid (show BothQ w qb lb mb rb n [] w2 from
    ⟨⟨[rb], HW1.out.keptN hK2, hR2, fun x hx hm => by have := HW1.out.all_lt x hx; have := List.mem_singleton.1 hm; omega,
      fun x hx => by
        rcases List.mem_cons.1 hx with rfl | hx
        · exact hqb
        · exact HO1.out x hx,
      fun x hx => by rw [List.mem_singleton.1 hx]; omega⟩, HK1.out.trans hK2⟩)
  clear hR2 hK2 hrb HW1 HO1 HK1 hsz
  go_wp2_with fail
  go_loopw [10] (fun s10 wr => ∃ (k : Nat) (Q : List Slp), k ≤ len ∧ k ≤ 100 ∧ Q.length ≤ k ∧ s10 = .int .i64 k ∧ BothQ w qb lb mb rb n Q wr) (fun s10 _ => len - (intOf s10).toNat)
  case atStart => exact ⟨0, [], Nat.zero_le _, by omega, Nat.zero_le _, rfl, HB0.out⟩
  case round =>
    obtain ⟨k, Q, hk, hk2, hQk, rfl, hB⟩ := hrel
    have HB := hid hB
    clear hB
    by_cases hlt : k < len
    · by_cases hlt1 : k < 100
      · obtain ⟨ba, offa, rfl, hba, hca⟩ := HAR.out.cell k hlt
        have hc0 := HB.out.kept.cellSome (hca 0 .i64 rfl) (by simp)
        have hc1 := HB.out.kept.cellSome (hca 1 .u64 rfl) (by simp)
        have hc2 := HB.out.kept.cellSome (hca 2 .u64 rfl) (by simp)
        have hc3 := HB.out.kept.cellSome (hca 3 .u64 rfl) (by simp)
        have hc4 := HB.out.kept.cellSome (hca 4 .u64 rfl) (by simp)
        simp only [List.length_cons, List.length_nil, Nat.zero_add, Nat.add_zero, Nat.reduceAdd] at hc0 hc1 hc2 hc3 hc4
        obtain ⟨b00, b01⟩ := bounds_i64 (HAR.out.wf k 0 .i64 hlt rfl)
        obtain ⟨b10, b11⟩ := bounds_u64 (HAR.out.wf k 1 .u64 hlt rfl)
        obtain ⟨b20, b21⟩ := bounds_u64 (HAR.out.wf k 2 .u64 hlt rfl)
        obtain ⟨b30, b31⟩ := bounds_u64 (HAR.out.wf k 3 .u64 hlt rfl)
        obtain ⟨b40, b41⟩ := bounds_u64 (HAR.out.wf k 4 .u64 hlt rfl)
        generalize g k 0 = x0 at *
        obtain ⟨x1, hx1⟩ : ∃ x : Nat, g k 1 = (x : Int) := ⟨(g k 1).toNat, by omega⟩
        obtain ⟨x2, hx2⟩ : ∃ x : Nat, g k 2 = (x : Int) := ⟨(g k 2).toNat, by omega⟩
        obtain ⟨x3, hx3⟩ : ∃ x : Nat, g k 3 = (x : Int) := ⟨(g k 3).toNat, by omega⟩
        obtain ⟨x4, hx4⟩ : ∃ x : Nat, g k 4 = (x : Int) := ⟨(g k 4).toNat, by omega⟩
        rw [hx1] at hc1 b11
        rw [hx2] at hc2
        rw [hx3] at hc3
        rw [hx4] at hc4 b41
        have HDO := hid (qdo_ok HB.out (HG.out.keptN HB.out.kept) hn1 hn2 hQk (by omega) x0 b00 b01 x1 x2 x3 x4 (by omega) (by omega))
        clear hca hx1 hx2 hx3 hx4 b10 b11 b20 b21 b30 b31 b40 b41 b00 b01
        go_wp2_with fail
        refine HDO.out.mono ?_
        rintro e w4 ⟨rfl, Q', hQ', hB4⟩
        have HB4 := hid hB4
        have HSA := hid (by
          obtain ⟨U, hW, hR, -⟩ := hB4.ex
          exact qsame_ok hW hR hn1 hn2 (by omega))
        clear hB4
        go_wp2_with fail
        refine HSA.out.mono ?_
        rintro e w5 ⟨rfl, hK5⟩
        have HB5 := hid (HB4.out.keptN hK5)
        clear hK5
        go_wp2_with fail
        go_roundw
        case rel => exact ⟨k + 1, Q', by omega, by omega, by omega, by go_num, HB5.out⟩
        case measure => simp [intOf]; omega
      · obtain rfl : k = 100 := by omega
        go_wp2_with fail
        refine (awake_ok _).mono ?_
        rintro e w5 ⟨rfl, hK5⟩
        have HK5 := hid hK5
        clear hK5
        go_wp2_with fail
        go_ret
        exact ⟨rfl, HB.out.kept.trans HK5.out⟩
    · go_wp2_with fail
      refine (awake_ok _).mono ?_
      rintro e w5 ⟨rfl, hK5⟩
      have HK5 := hid hK5
      clear hK5
      go_wp2_with fail
      go_ret
      exact ⟨rfl, HB.out.kept.trans HK5.out⟩

end Go.Proofs.YtenahekdhepnfaaDoor
