/- package clock: the law ClockOwn. -/
import Derived.Test.YtcaikpfdhdbioaaClockA
import Derived.Test.YtcaikpfdhdbioaaKeep
import Derived.Test.YtcaikpfdhdbioaaSpoil
namespace Go.Proofs.Ytcaikpfdhdbioaa
open Go Go.RowKit

theorem ins_at {t : Th} : ∀ {A B : List Th}, (∀ a, a ∈ A → ¬ Ah t a) → (∀ b, b ∈ B → Ah t b) → insT t (A ++ B) = A ++ t :: B
  | [], [], _, _ => rfl
  | [], b :: B, _, hB => by
    rw [List.nil_append, insT, if_pos (ahB_true (hB b (List.mem_cons_self ..)))]
    rfl
  | a :: A, B, hA, hB => by
    rw [List.cons_append, insT, if_neg (by rw [ahB_false (hA a (List.mem_cons_self ..))]; simp), ins_at (fun x hx => hA x (List.mem_cons_of_mem _ hx)) hB]
    rfl

def ownA (n : Nat) : List Th := (List.range n).map fun i => ⟨1, i + 1, 2 * i + 1⟩
def ownB (n : Nat) : List Th := (List.range n).map fun i => ⟨2, i + 51, 2 * i + 2⟩
theorem ownA_mem {n : Nat} {t : Th} (h : t ∈ ownA n) : ∃ i, i < n ∧ t = ⟨1, i + 1, 2 * i + 1⟩ := by
  obtain ⟨i, hi, rfl⟩ := List.mem_map.1 h
  exact ⟨i, by simpa using hi, rfl⟩
theorem ownB_mem {n : Nat} {t : Th} (h : t ∈ ownB n) : ∃ i, i < n ∧ t = ⟨2, i + 51, 2 * i + 2⟩ := by
  obtain ⟨i, hi, rfl⟩ := List.mem_map.1 h
  exact ⟨i, by simpa using hi, rfl⟩
theorem ownA_succ (n : Nat) : ownA (n + 1) = ownA n ++ [⟨1, n + 1, 2 * n + 1⟩] := by simp [ownA, List.range_succ]
theorem ownB_succ (n : Nat) : ownB (n + 1) = ownB n ++ [⟨2, n + 51, 2 * n + 2⟩] := by simp [ownB, List.range_succ]
theorem ownA_len (n : Nat) : (ownA n).length = n := by simp [ownA]
theorem ownB_len (n : Nat) : (ownB n).length = n := by simp [ownB]
theorem own_ins1 (n : Nat) : insT ⟨1, n + 1, 2 * n + 1⟩ (ownA n ++ ownB n) = ownA (n + 1) ++ ownB n := by
  rw [ins_at, ownA_succ]
  · simp
  · intro a ha
    obtain ⟨i, hi, rfl⟩ := ownA_mem ha
    simp [Ah]
    omega
  · intro b hb
    obtain ⟨i, hi, rfl⟩ := ownB_mem hb
    simp [Ah]
theorem own_ins2 (n : Nat) : insT ⟨2, n + 51, 2 * n + 2⟩ (ownA (n + 1) ++ ownB n) = ownA (n + 1) ++ ownB (n + 1) := by
  have h := ins_at (t := ⟨2, n + 51, 2 * n + 2⟩) (A := ownA (n + 1) ++ ownB n) (B := []) ?_ (by simp)
  · rw [List.append_nil] at h
    rw [h, ownB_succ, List.append_assoc]
  · intro a ha
    rcases List.mem_append.1 ha with ha | ha
    · obtain ⟨i, hi, rfl⟩ := ownA_mem ha
      simp [Ah]
    · obtain ⟨i, hi, rfl⟩ := ownB_mem ha
      simp [Ah]
      omega

theorem arm_ok' {w : World} {cb : Nat} {T : List Nat} {S : List Th} {last now : Nat} (h : ClockIs w cb T S last now) (hS : S.length ≤ 100000) (hla : last ≤ 1000000) (id d : Nat) (h0 : id ≠ 0) (hi : id < 18446744073709551616) (hd : d < 18446744073709551615) (hno : ∀ t, t ∈ S → t.x ≠ id) (iv dv : Int) (e1 : iv = id) (e2 : dv = d) :
    Calls Try.prog 8 #[.pointer (some ⟨cb, 0, none⟩), .int .u64 iv, .int .u64 dv] w fun e w' => e = .returned .nilIface ∧ ∃ T', ClockIs w' cb T' (insT ⟨d, id, last + 1⟩ S) (last + 1) now ∧ (∀ x, x ∈ T' → x ∈ T ∨ w.heap.size ≤ x) ∧ Kept T w w' := by
  subst e1; subst e2
  exact arm_ok h hS hla id d h0 hi hd hno

set_option maxRecDepth 100000 in
set_option maxHeartbeats 4000000 in
theorem own_law (n : Int) (w : World) (n0 : -9223372036854775808 ≤ n) (n1 : n ≤ 9223372036854775807) :
    Calls Try.prog 3 #[.int .i64 n] w fun e w' => e = .returned (.bool true) ∧ Kept [] w w' := by
  have HW := hid (within_ok n 20 (by decide) n0 n1 (by decide))
  obtain ⟨k, hk⟩ : ∃ k : Nat, n % 20 = (k : Int) := ⟨(n % 20).toNat, by have := Int.emod_nonneg n (show (20 : Int) ≠ 0 by decide); omega⟩
  have hk20 : k < 20 := by have := Int.emod_lt_of_pos n (show (0 : Int) < 20 by decide); omega
  rw [hk] at HW
  clear hk n0 n1
  go_enter Try.func3, Try.ntmps3
  go_wp2_with fail
  refine (newclock_ok w).mono ?_
  rintro e w1 ⟨cb, T1, rfl, hT1, hC1, hK1⟩
  have HC1 := hid hC1
  have HT1 := hid hT1
  have HK1 := hid hK1
  clear hC1 hK1 hT1
  go_wp2_with fail
  refine (HW.out _).mono ?_
  rintro e w1 ⟨rfl, rfl⟩
  clear HW
  go_wp2_with fail
  go_loopw [5] (fun s5 wr => ∃ (i : Nat) (T : List Nat), i ≤ k ∧ s5 = .int .i64 i ∧ ClockIs wr cb T (ownA i ++ ownB i) (2 * i) 0 ∧ (∀ x, x ∈ T → w.heap.size ≤ x) ∧ Kept [] w wr) (fun s5 _ => k - (intOf s5).toNat)
  case atStart => exact ⟨0, T1, Nat.zero_le _, rfl, HC1.out, HT1.out, HK1.out⟩
  case round =>
    obtain ⟨i, T, hi, rfl, hC, hT, hK⟩ := hrel
    have HC := hid hC
    have HT := hid hT
    have HK := hid hK
    have hlen : (ownA i ++ ownB i).length ≤ 100000 := by rw [List.length_append, ownA_len, ownB_len]; omega
    clear hC hT hK
    by_cases hlt : i < k
    · have HA1 := hid (arm_ok' HC.out hlen (by omega) (i + 1) 1 (by omega) (by omega) (by decide) (fun t ht => by
        rcases List.mem_append.1 ht with ht | ht
        · obtain ⟨j, hj, rfl⟩ := ownA_mem ht; simp; omega
        · obtain ⟨j, hj, rfl⟩ := ownB_mem ht; simp; omega) ((i : Int) + 1) 1 (by omega) rfl)
      rw [own_ins1] at HA1
      clear hlen
      go_wp2_with fail
      refine HA1.out.mono ?_
      rintro e w2 ⟨rfl, T2, hC2, hT2, hK2⟩
      have HC2 := hid hC2
      have HT2 := hid (fresh_trans HT.out HK.out hT2)
      have HK2 := hid (HK.out.trans' hK2 (fun x hx => .inr (HT.out x hx)))
      have hlen2 : (ownA (i + 1) ++ ownB i).length ≤ 100000 := by rw [List.length_append, ownA_len, ownB_len]; omega
      have HA2 := hid (arm_ok' HC2.out hlen2 (by omega) (i + 51) 2 (by omega) (by omega) (by decide) (fun t ht => by
        rcases List.mem_append.1 ht with ht | ht
        · obtain ⟨j, hj, rfl⟩ := ownA_mem ht; simp; omega
        · obtain ⟨j, hj, rfl⟩ := ownB_mem ht; simp; omega) ((i : Int) + 51) 2 (by omega) rfl)
      rw [show 2 * i + 1 + 1 = 2 * i + 2 by omega, own_ins2] at HA2
      clear hC2 hT2 hK2 hlen2 HA1
      go_wp2_with fail
      refine HA2.out.mono ?_
      rintro e w3 ⟨rfl, T3, hC3, hT3, hK3⟩
      have HC3 := hid hC3
      have HT3 := hid (fresh_trans HT2.out HK2.out hT3)
      have HK3 := hid (HK2.out.trans' hK3 (fun x hx => .inr (HT2.out x hx)))
      clear hC3 hT3 hK3 HA2
      go_wp2_with fail
      go_roundw
      case rel => exact ⟨i + 1, T3, by omega, by go_num, by rw [show 2 * (i + 1) = 2 * i + 2 by omega]; exact HC3.out, HT3.out, HK3.out⟩
      case measure => simp [intOf]; omega
    · obtain rfl : i = k := by omega
      have HTI := hid (tick_ok HC.out hlen (by omega) (by decide) (fun s hs => by obtain ⟨j, hj, rfl⟩ := ownA_mem hs; simp) (fun s hs => by obtain ⟨j, hj, rfl⟩ := ownB_mem hs; simp))
      rw [ownA_len] at HTI
      clear hlen hlt
      go_wp2_with fail
      refine HTI.out.mono ?_
      rintro e w2 ⟨v2, T2, rfl, hC2, hT2, hR2, hK2⟩
      obtain ⟨a2, c2, rfl⟩ := own_form' hR2
      have HC2 := hid hC2
      have HT2 := hid (fun x (hx : x ∈ T2) => HT.out x (hT2 x hx))
      have HK2 := hid (HK.out.trans' hK2 (fun x hx => .inr (HT.out x hx)))
      have HSP := hid (spoil_ok hR2)
      have HNE := hid (fun x (hx : x ∈ T2) (hm : x ∈ (Value.slice a2 i c2).ownBlock.toList) => (show False by
        have h1 := HC.out.lt x (hT2 x hx)
        have h2 := own_ge hR2 x hm
        omega))
      have HGE := hid (fun x (hm : x ∈ (Value.slice a2 i c2).ownBlock.toList) => Nat.le_trans HK.out.size (own_ge hR2 x hm))
      clear hC2 hT2 hK2 hR2 HTI
      go_wp2_with fail
      refine HSP.out.mono ?_
      rintro e w3 ⟨rfl, hK3⟩
      have HC3 := hid (show ClockIs w3 cb T2 (ownB i ++ []) (2 * i) 1 by rw [List.append_nil]; exact HC2.out.kept hK3 (fun x hx hm => HNE.out x hx hm))
      have HK3 := hid (HK2.out.trans' hK3 (fun x hx => .inr (HGE.out x hx)))
      have HTI := hid (tick_ok HC3.out (by rw [List.append_nil, ownB_len]; omega) (by omega) (by decide) (fun s hs => by obtain ⟨j, hj, rfl⟩ := ownB_mem hs; simp) (fun s hs => by cases hs))
      rw [ownB_len] at HTI
      clear hK3 HSP HNE HGE
      go_wp2_with fail
      refine HTI.out.mono ?_
      rintro e w4 ⟨v4, T4, rfl, hC4, hT4, hR4, hK4⟩
      obtain ⟨a4, c4, rfl⟩ := own_form' hR4
      have HR4 := hid hR4
      have HK4 := hid (HK3.out.trans' hK4 (fun x hx => .inr (HT2.out x hx)))
      clear hC4 hT4 hK4 hR4 HTI
      go_wp2_with fail
      go_loop [8] (fun s8 => ∃ j : Nat, j ≤ i ∧ s8 = .int .i64 j) (fun s8 => i - (intOf s8).toNat)
      case atStart => exact ⟨0, Nat.zero_le _, rfl⟩
      case round =>
        obtain ⟨j, hj, rfl⟩ := hrel
        by_cases hlt : j < i
        · obtain ⟨m, hm⟩ : ∃ m, i = m + 1 := ⟨i - 1, by omega⟩
          have HR := HR4.out
          have hcell : ∃ g, a4 = some ⟨g, 0, none⟩ ∧ w4.cell? ⟨g, j, none⟩ = some (.int .u64 ((j : Int) + 51)) := by
            obtain ⟨g, cap, e, -⟩ := own_form (n := m) (by rw [← hm]; exact HR)
            cases e
            exact ⟨g, rfl, own_cell HR (by simp [ownB, numV, hlt])⟩
          obtain ⟨g, rfl, hc⟩ := hcell
          clear HR hm
          go_wp2_with fail
          go_round
          case rel => exact ⟨j + 1, by omega, by go_num⟩
          case measure => simp [intOf]; omega
        · go_wp2_with fail
          refine (awake_ok _).mono ?_
          rintro e w5 ⟨rfl, hK5⟩
          have HK5 := hid hK5
          clear hK5
          go_wp2_with fail
          go_ret
          exact ⟨rfl, HK4.out.trans HK5.out⟩

end Go.Proofs.Ytcaikpfdhdbioaa
