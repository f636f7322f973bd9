/- package ring: the law RingPlays. -/
import Derived.Test.YtccfkpopjapmnaaDoorRingRef
import Derived.Test.YtccfkpopjapmnaaDoorRingNews
import Derived.Test.YtccfkpopjapmnaaDoorRingDrops
import Derived.Deep.DeepCutAuto
import Derived.Deep.CutBlock
import Derived.Deep.RegionHeld3
namespace Go.Proofs.YtccfkpopjapmnaaDoor
open Go Go.RowKit

/-- Both rings hold the same. -/
structure BothR (w0 : World) (b bl rb n : Nat) (L : List Int) (w : World) : Prop where
  ring : ∃ fr, RingAt w b bl n fr L
  ref : RRing w rb n (rb + 1) L
  kept : Kept [] w0 w

theorem BothR.keptN {w0 w w' : World} {b bl rb n : Nat} {L : List Int} (h : BothR w0 b bl rb n L w) (k : Kept [] w w') : BothR w0 b bl rb n L w' := by
  obtain ⟨fr, hr⟩ := h.ring
  exact ⟨⟨fr, hr.keptN k⟩, h.ref.keptN k, h.kept.trans k⟩

/-- 's[:h]' of []uint64. -/
theorem run_cut_to (a : Option Addr) (n c h : Nat) (hh : h ≤ c) (W : World) : (Instr.slice 49 (.slice a n c) none (Option.some (.int .i64 (h : Int))) none).run Tryd.prog W = .ok (.slice a h c) W := by
  obtain ⟨i, h1, h2, h3, h4⟩ := info_parts info_u64
  have e0 : ∀ x : Addr, x.add 0 = x := fun x => by simp [Addr.add]
  simp [Instr.slice, run_underlying Tryd.underlying49, Instr.sliceBounds, Instr.sliceBound, asIntOf, sizeOf, typeInfo, h1, hh, e0, Result.andThen]

theorem words_k (a b : Value) (n : Nat) (l : List Int) (hn : n ≤ 1000000000) (w : World) (ha : Src w a n 1 (GV l)) (hb : Src w b n 1 (GV l)) :
    Calls Tryd.prog 21 #[a, b] w fun e w' => e = .returned (.bool true) ∧ Kept [] w w' :=
  (words_same a b n l hn w ha hb).mono fun _ _ h => ⟨h.1, Kept.drawn h.2⟩

set_option maxRecDepth 100000 in
set_option maxHeartbeats 8000000 in
theorem plays_law (most some : Int) (a : Option Addr) (len cap : Nat) (g : Nat → Nat → Int) (w : World) (hg : Laid w) (hm0 : -9223372036854775808 ≤ most) (hm1 : most ≤ 9223372036854775807) (hs0 : -9223372036854775808 ≤ some) (hs1 : some ≤ 9223372036854775807)
    (hA : IntRows w a len [.i64, .u64] g) :
    Calls Tryd.prog 5 #[.int .i64 most, .slice a len cap, .int .i64 some] w fun e w' => e = .returned (.bool true) ∧ Kept [] w w' := by
  have HG := hid hg
  have HAR := hid hA
  have hlen : len ≤ 9223372036854775807 := by have := hA.small; unfold maxLen at this; omega
  clear hg hA
  go_enter Tryd.func5, Tryd.ntmps5
  go_wp2_with fail
  refine (within_ok most 12 (by decide) hm0 hm1 (by decide) _).mono ?_
  rintro e w0 ⟨rfl, rfl⟩
  have hp0 := Int.emod_nonneg most (show (12 : Int) ≠ 0 by decide)
  have hp1 := Int.emod_lt_of_pos most (show (0 : Int) < 12 by decide)
  generalize most % 12 = q0 at *
  go_wp2_with fail
  obtain ⟨n, hnq⟩ : ∃ n : Nat, 1 + q0 = (n : Int) := ⟨(1 + q0).toNat, by omega⟩
  rw [hnq]
  have hn1 : 1 ≤ n := by omega
  have hn6 : n ≤ 12 := by omega
  clear hnq hp0 hp1
  refine (new_ok n hn1 (by omega) w).mono ?_
  rintro e w1 ⟨b, bl, rfl, hb, hbl, hR, hK⟩
  have HR1 := hid hR
  have HK1 := hid hK
  have hblt := hR.head.lt
  have hbllt : bl < w1.heap.size := by
    obtain ⟨C, hC, _⟩ := hR.cells
    exact hC.lt
  clear hR hK
  go_wp2_with fail
  refine (rnewring_ok n hn1 (by omega) w1).mono ?_
  rintro e w2 ⟨rb, rfl, hrb, hRR, hK2⟩
  have HRR2 := hid hRR
  have HK2 := hid hK2
  have hbr : b < rb := by omega
  have hblr : bl < rb := by omega
  have hrw : w.heap.size ≤ rb := by have := HK1.out.size; omega
  clear hRR hK2
  have HB0 := hid (show BothR w b bl rb n [] w2 from ⟨⟨0, HR1.out.keptN HK2.out⟩, HRR2.out, HK1.out.trans HK2.out⟩)
  go_wp2_with fail
  go_loopw [12] (fun i wr => ∃ (k : Nat) (L : List Int), k ≤ len ∧ k ≤ 120 ∧ L.length ≤ n ∧ i = .int .i64 k ∧ BothR w b bl rb n L wr) (fun i _ => len - (intOf i).toNat)
  case atStart => exact ⟨0, [], Nat.zero_le _, by omega, Nat.zero_le _, rfl, HB0.out⟩
  case round =>
    obtain ⟨k, L, hk, hk2, hLn, rfl, hB⟩ := hrel
    have HB := hid hB
    clear hB
    by_cases hlt : k < len
    · by_cases hlt120 : k < 120
      · obtain ⟨ba, offa, rfl, hba, hca⟩ := HAR.out.cell k hlt
        have hc0 := HB.out.kept.cellSome (hca 0 .i64 rfl) (by simp)
        have hc1 := HB.out.kept.cellSome (hca 1 .u64 rfl) (by simp)
        simp only [List.length_cons, List.length_nil, Nat.zero_add, Nat.add_zero, Nat.reduceAdd] at hc0 hc1
        obtain ⟨b00, b01⟩ := bounds_i64 (HAR.out.wf k 0 .i64 hlt rfl)
        obtain ⟨b10, b11⟩ := bounds_u64 (HAR.out.wf k 1 .u64 hlt rfl)
        generalize g k 0 = x0 at *
        generalize g k 1 = x1 at *
        clear hca
        go_wp2_with fail
        refine (within_ok x0 5 (by decide) b00 b01 (by decide) _).mono ?_
        rintro e w3 ⟨rfl, rfl⟩
        have hz0 := Int.emod_nonneg x0 (show (5 : Int) ≠ 0 by decide)
        have hz1 := Int.emod_lt_of_pos x0 (show (0 : Int) < 5 by decide)
        generalize x0 % 5 = dd at *
        obtain ⟨w3, hw3⟩ : ∃ w3, wr.alloc (.cells #[.int .i64 x0, .int .u64 x1] 46) = w3 := ⟨_, rfl⟩
        have hX : Blk w3 wr.heap.size [.int .i64 x0, .int .u64 x1] := by rw [← hw3]; exact Blk.newA #[.int .i64 x0, .int .u64 x1] _ rfl
        have hK3 : Kept [] wr w3 := by rw [← hw3]; exact (Kept.refl [] wr).alloc _
        have d0 := hX.cell (o := 0) rfl
        have d1 := hX.cell (o := 1) rfl
        have HK3 := hid hK3
        have HX := hid hX
        have HB3 := hid (HB.out.keptN hK3)
        have hxr : rb < wr.heap.size := by obtain ⟨v, hv, _⟩ := HB.out.ref.head; exact hv.lt
        rw [hw3]
        clear hX hK3 hw3 hc0 hc1
        have HG3 := hid (HG.out.keptN HB3.out.kept)
        go_upto_block 2 with fail
        go_cut [12] (fun s12 wx => s12 = .int .i64 k ∧ ∃ L', L'.length ≤ n ∧ BothR w b bl rb n L' wx)
        case first =>
          obtain ⟨⟨fr, hR3⟩, hRR3, hK0⟩ := HB3.out
          have HR3 := hid hR3
          have HRR3 := hid hRR3
          have HK0 := hid hK0
          clear hR3 hRR3 hK0
          by_cases e23 : dd = 2 ∨ dd = 3
          · have HE := hid e23
            rcases e23 with e23 | e23
            all_goals
              subst e23
              cases L with
              | nil =>
                go_wp2_with fail
                refine (take_none HR3.out).mono ?_
                rintro e w4 ⟨rfl, rfl⟩
                go_wp2_with fail
                refine (rtake_none HRR3.out).mono ?_
                rintro e w4 ⟨rfl, rfl⟩
                go_wp2_with fail
                go_meet
                exact ⟨rfl, [], hLn, HB3.out⟩
              | cons x L =>
                have hLn' : L.length ≤ n := by simp at hLn; omega
                go_wp2_with fail
                refine (take_some HR3.out).mono ?_
                rintro e w4 ⟨rfl, hR4, hK4⟩
                have HR4 := hid hR4
                have HK4 := hid hK4
                clear hR4 hK4
                go_wp2_with fail
                refine (rtake_some (HRR3.out.kept HK4.out (by simp; omega) (by simp; omega)) (by omega)).mono ?_
                rintro e w5 ⟨rfl, hR5, hK5⟩
                have HR5 := hid hR5
                have HK5 := hid hK5
                clear hR5 hK5
                go_wp2_with fail
                go_meet
                exact ⟨rfl, L, hLn', ⟨⟨_, HR4.out.kept HK5.out (by simp; omega) (by simp; omega)⟩, HR5.out, (HK0.out.trans' HK4.out (by simp; omega)).trans' HK5.out (by simp; omega)⟩⟩
          · have hd2 : (dd == 2) = false := by simpa using (fun h => e23 (.inl h))
            have hd3 : (dd == 3) = false := by simpa using (fun h => e23 (.inr h))
            clear e23
            by_cases e4 : dd = 4
            · subst e4
              have hnb : wr.heap.size ∉ [b, bl] := by simp; omega
              have hnr : wr.heap.size ∉ [rb] := by simp; omega
              have hdd : (decide (x1 ∈ L) != decide (x1 ∈ L)) = false := by simp
              go_wp2_with fail
              go_region_held3 (fun w' => w'.cell? ⟨wr.heap.size, 1, none⟩ = Option.some (.int .u64 x1)) (first | exact d1 | exact hK4.cellSome d1 hnb | exact hK5.cellSome (hK4.cellSome d1 hnb) hnr) (first
                | (go_at_call 17; refine (drop_ok (HR3.out.keptN ((Kept.refl [] _).drew)) x1).mono ?_; rintro e w4 ⟨rfl, hR4, hK4⟩)
                | (go_at_call 18; refine (rdrop_ok ((HRR3.out.keptN ((Kept.refl [] _).drew)).kept hK4 (by simp; omega) (by simp; omega)) (by omega) x1).mono ?_; rintro e w5 ⟨rfl, hR5, hK5⟩))
              have HR4 := hid hR4
              have HK4 := hid hK4
              have HR5 := hid hR5
              have HK5 := hid hK5
              clear hR4 hK4 hR5 hK5
              go_wp2_with fail
              go_meet
              exact ⟨rfl, L.erase x1, Nat.le_trans (List.length_erase_le) hLn, ⟨⟨_, HR4.out.kept HK5.out (by simp; omega) (by simp; omega)⟩, HR5.out, (HK0.out.trans' (((Kept.refl [b, bl] w3).drew).trans HK4.out) (by simp; omega)).trans' HK5.out (by simp; omega)⟩⟩
            · have hd4 : (dd == 4) = false := by simpa using e4
              have hnb : wr.heap.size ∉ [b, bl] := by simp; omega
              have hnr : wr.heap.size ∉ [rb] := by simp; omega
              clear e4
              by_cases hroom : L.length < n
              · go_wp2_with fail
                go_region_held3 (fun w' => w'.cell? ⟨wr.heap.size, 1, none⟩ = Option.some (.int .u64 x1)) (first | exact d1 | exact hK4.cellSome d1 hnb | exact hK5.cellSome (hK4.cellSome d1 hnb) hnr) (first
                  | (go_at_call 12; refine (put_ok (HR3.out.keptN ((Kept.refl [] _).drew)) hroom x1).mono ?_; rintro e w4 ⟨rfl, hR4, hK4⟩)
                  | (go_at_call 19; refine (rput_ok ((HRR3.out.keptN ((Kept.refl [] _).drew)).kept hK4 (by simp; omega) (by simp; omega)) hroom (by omega) x1).mono ?_; rintro e w5 ⟨rfl, hR5, hK5⟩)
                  | (go_at_call 8; refine (same_nil_nil _).mono ?_; rintro e w6 ⟨rfl, rfl⟩))
                have HR4 := hid hR4
                have HK4 := hid hK4
                have HR5 := hid hR5
                have HK5 := hid hK5
                clear hR4 hK4 hR5 hK5
                go_wp2_with fail
                go_meet
                exact ⟨rfl, L ++ [x1], by simp; omega, ⟨⟨_, HR4.out.kept HK5.out (by simp; omega) (by simp; omega)⟩, HR5.out, (HK0.out.trans' (((Kept.refl [b, bl] w3).drew).trans HK4.out) (by simp; omega)).trans' HK5.out (by simp; omega)⟩⟩
              · have hfull : L.length = n := by omega
                go_wp2_with fail
                go_region_held3 (fun w' => w'.cell? ⟨wr.heap.size, 1, none⟩ = Option.some (.int .u64 x1)) (first | exact d1 | exact hK4.cellSome d1 (by simp) | exact hK5.cellSome (hK4.cellSome d1 (by simp)) (by simp) | exact hK6.cellSome (hK5.cellSome (hK4.cellSome d1 (by simp)) (by simp)) (by simp)) (first
                  | (go_at_call 12; refine (put_full (HR3.out.keptN ((Kept.refl [] _).drew)) hfull x1).mono ?_; rintro e w4 ⟨v4, rfl, be, rfl, hbe, hB4, hK4⟩)
                  | (go_at_call 19; refine (rput_full ((HRR3.out.keptN ((Kept.refl [] _).drew)).keptN hK4) (by omega) x1).mono ?_; rintro e w5 ⟨fb, rfl, hF5, hK5⟩)
                  | (go_at_call 8; refine (same_hit be fb sRing 0 3 (by decide) (by decide) _ ((HG3.out.keptN ((Kept.refl [] _).drew)).keptN (hK4.trans hK5)) (hB4.keptN hK5) hF5).mono ?_; rintro e w6 ⟨rfl, hK6⟩))
                have HKK := hid (((Kept.refl [] w3).drew.trans (hK4.trans hK5)).trans hK6)
                clear hB4 hK4 hF5 hK5 hK6
                go_wp2_with fail
                go_meet
                exact ⟨rfl, L, hLn, HB3.out.keptN HKK.out⟩
        case rest =>
          obtain ⟨rfl, L', hL', hB5⟩ := hcut
          have HB5 := hid hB5
          clear hB5
          obtain ⟨⟨fr, hR5⟩, hRR5, hK05⟩ := HB5.out
          have HR5 := hid hR5
          have HRR5 := hid hRR5
          have HK05 := hid hK05
          clear hR5 hRR5 hK05
          go_wp2_with fail
          refine (all_ok HR5.out 1000 (by decide)).mono ?_
          rintro e w6 ⟨v6, rfl, hV6, hK6⟩
          rw [List.take_of_length_le (by have : (1000 : Int).toNat = 1000 := rfl; omega)] at hV6
          obtain ⟨a6, c6, rfl⟩ := own_form' hV6
          have HV6 := hid hV6
          have HK6 := hid hK6
          have HRR6 := hid (HRR5.out.keptN hK6)
          obtain ⟨rv, hrv, hro⟩ := HRR6.out.head
          obtain ⟨ar, cr, rfl⟩ := own_form' hro
          obtain ⟨m5, hm5⟩ : ∃ m5, L'.length = m5 := ⟨_, rfl⟩
          rw [hm5] at hrv hro HV6 hL' ⊢
          have dr := hrv.cell (o := 0) rfl
          have HM5 := hid hm5
          have HRV := hid hrv
          have HRO := hid hro
          clear hV6 hK6 hrv hro hm5
          have hne : ((m5 : Int) != (m5 : Int)) = false := by simp
          go_wp2_with fail
          go_region_held3 (fun w' => w'.cell? ⟨rb, 0, none⟩ = Option.some (.slice ar m5 cr)) (first | exact dr | exact hK7.cellSome dr (by simp) | exact hK8.cellSome (hK7.cellSome dr (by simp)) (by simp)) (first
            | (go_at_call 21; refine (words_k (.slice a6 m5 c6) (.slice ar m5 cr) m5 L' (by omega) _ ((own_src HV6.out).keptN ((Kept.refl [] _).drew)) ((own_src HRO.out).keptN ((Kept.refl [] _).drew))).mono ?_; rintro e w7 ⟨rfl, hK7⟩)
            | (go_at_call 11; refine (len_ok (((HR5.out.keptN HK6.out).keptN ((Kept.refl [] _).drew)).keptN hK7)).mono ?_; rintro e w8 ⟨rfl, hK8⟩; rw [HM5.out]))
          have HK68 := hid (HK6.out.trans (((Kept.refl [] w6).drew.trans hK7).trans hK8))
          clear hK7 hK8
          go_wp2_with fail
          go_roundw
          case rel => exact ⟨k + 1, L', by omega, by omega, by have := HM5.out; omega, by go_num, HB5.out.keptN HK68.out⟩
          case measure => simp [intOf]; omega
      · obtain rfl : k = 120 := by omega
        go_wp2_with fail
        refine (within_ok some 9 (by decide) hs0 hs1 (by decide) _).mono ?_
        rintro e w0 ⟨rfl, rfl⟩
        have hp0 := Int.emod_nonneg some (show (9 : Int) ≠ 0 by decide)
        have hp1 := Int.emod_lt_of_pos some (show (0 : Int) < 9 by decide)
        generalize some % 9 = qq at *
        obtain ⟨kk, hkq⟩ : ∃ kk : Nat, 1 + qq = (kk : Int) := ⟨(1 + qq).toNat, by omega⟩
        have hk1 : 1 ≤ kk := by omega
        have hk9 : kk ≤ 9 := by omega
        go_wp2_with fail
        clear hkq hp0 hp1
        obtain ⟨⟨fr, hR5⟩, hRR5, hK05⟩ := HB.out
        have HR5 := hid hR5
        have HRR5 := hid hRR5
        have HK05 := hid hK05
        clear hR5 hRR5 hK05
        refine (all_ok HR5.out kk (by omega)).mono ?_
        rintro e w6 ⟨v6, rfl, hV6, hK6⟩
        rw [Int.toNat_natCast] at hV6
        obtain ⟨a6, c6, rfl⟩ := own_form' hV6
        have HV6 := hid hV6
        have HK6 := hid hK6
        have HRR6 := hid (HRR5.out.keptN hK6)
        obtain ⟨rv, hrv, hro⟩ := HRR6.out.head
        obtain ⟨ar, cr, rfl⟩ := own_form' hro
        obtain ⟨m5, hm5⟩ : ∃ m5, L.length = m5 := ⟨_, rfl⟩
        have htl : (L.take kk).length = min kk m5 := by rw [List.length_take, hm5]
        rw [hm5] at hrv hro
        rw [htl] at HV6
        have dr := hrv.cell (o := 0) rfl
        have HM5 := hid hm5
        have HRV := hid hrv
        have HRO := hid hro
        clear hV6 hK6 hrv hro hm5
        go_wp2_with fail
        have hG27 := hid (HG.out.keptN (HB.out.kept.trans HK6.out))
        have HKa := hid (HB.out.kept.trans HK6.out)
        have hsrcA := hid (own_src HV6.out)
        obtain ⟨mm, hmm⟩ : ∃ mm, min kk m5 = mm := ⟨_, rfl⟩
        have hmI : (if (m5 : Int) < (kk : Int) then (m5 : Int) else (kk : Int)) = (mm : Int) := by rw [← hmm]; split <;> omega
        have hmJ : (if m5 < kk then (m5 : Int) else (kk : Int)) = (mm : Int) := by rw [← hmm]; split <;> omega
        have hmle : mm ≤ m5 := by omega
        rw [hmm] at hsrcA HV6 ⊢
        have hcr : mm ≤ cr := by
          rcases HRO.out.2 with ⟨h1, h2⟩ | ⟨g', cap', cur, h1, _, _, h3, h4, _⟩
          · cases h1
            omega
          · cases h1
            omega
        have hsrcB := hid (show Src w6 (.slice ar mm cr) mm 1 (GV (L.take kk)) by
          have htk : GV ((L.drop 0).take mm) = GV (L.take kk) := by
            rw [List.drop_zero, ← hmm]
            congr 1
            rw [List.take_eq_take_iff]
            rw [HM5.out]
            omega
          rw [← htk]
          rcases HRO.out.2 with ⟨h1, h2⟩ | ⟨g', cap', cur, h1, _, _, h3, h4, _⟩
          · cases h1
            obtain rfl : mm = 0 := by omega
            simpa [GV] using Src.nil _ 1
          · cases h1
            exact src_piece HRO.out 0 mm cr (by omega) HM5.out)
        have hm1 : (mm : Int) ≤ (cr : Int) := by omega
        have hm2 : (0 : Int) ≤ (mm : Int) := by omega
        clear hmm
        have hsl := run_cut_to ar m5 cr mm hcr
        go_region_held3 (fun w' => w'.cell? ⟨rb, 0, none⟩ = Option.some (.slice ar m5 cr)) (first | exact dr | exact hK7.cellSome dr (by simp) | exact hK8.cellSome (hK7.cellSome dr (by simp)) (by simp)) (first
          | (go_at_call 21; refine (words_k (.slice a6 mm c6) (.slice ar mm cr) mm (L.take kk) (by omega) _ (hsrcA.out.keptN ((Kept.refl [] _).drew)) (hsrcB.out.keptN ((Kept.refl [] _).drew))).mono ?_; rintro e w7 ⟨rfl, hK7⟩)
          | (go_at_call 10; refine (awake_ok _ (hG27.out.keptN ((Kept.refl [] w6).drew.trans hK7))).mono ?_; rintro e w8 ⟨rfl, hK8⟩))
        have HKz := hid (HKa.out.trans ((((Kept.refl [] w6).drew).trans hK7).trans hK8))
        clear hK7 hK8
        go_wp2_with fail
        go_ret
        exact ⟨rfl, HKz.out⟩
    · go_wp2_with fail
      refine (within_ok some 9 (by decide) hs0 hs1 (by decide) _).mono ?_
      rintro e w0 ⟨rfl, rfl⟩
      have hp0 := Int.emod_nonneg some (show (9 : Int) ≠ 0 by decide)
      have hp1 := Int.emod_lt_of_pos some (show (0 : Int) < 9 by decide)
      generalize some % 9 = qq at *
      obtain ⟨kk, hkq⟩ : ∃ kk : Nat, 1 + qq = (kk : Int) := ⟨(1 + qq).toNat, by omega⟩
      have hk1 : 1 ≤ kk := by omega
      have hk9 : kk ≤ 9 := by omega
      go_wp2_with fail
      clear hkq hp0 hp1
      obtain ⟨⟨fr, hR5⟩, hRR5, hK05⟩ := HB.out
      have HR5 := hid hR5
      have HRR5 := hid hRR5
      have HK05 := hid hK05
      clear hR5 hRR5 hK05
      refine (all_ok HR5.out kk (by omega)).mono ?_
      rintro e w6 ⟨v6, rfl, hV6, hK6⟩
      rw [Int.toNat_natCast] at hV6
      obtain ⟨a6, c6, rfl⟩ := own_form' hV6
      have HV6 := hid hV6
      have HK6 := hid hK6
      have HRR6 := hid (HRR5.out.keptN hK6)
      obtain ⟨rv, hrv, hro⟩ := HRR6.out.head
      obtain ⟨ar, cr, rfl⟩ := own_form' hro
      obtain ⟨m5, hm5⟩ : ∃ m5, L.length = m5 := ⟨_, rfl⟩
      have htl : (L.take kk).length = min kk m5 := by rw [List.length_take, hm5]
      rw [hm5] at hrv hro
      rw [htl] at HV6
      have dr := hrv.cell (o := 0) rfl
      have HM5 := hid hm5
      have HRV := hid hrv
      have HRO := hid hro
      clear hV6 hK6 hrv hro hm5
      go_wp2_with fail
      have hG27 := hid (HG.out.keptN (HB.out.kept.trans HK6.out))
      have HKa := hid (HB.out.kept.trans HK6.out)
      have hsrcA := hid (own_src HV6.out)
      obtain ⟨mm, hmm⟩ : ∃ mm, min kk m5 = mm := ⟨_, rfl⟩
      have hmI : (if (m5 : Int) < (kk : Int) then (m5 : Int) else (kk : Int)) = (mm : Int) := by rw [← hmm]; split <;> omega
      have hmJ : (if m5 < kk then (m5 : Int) else (kk : Int)) = (mm : Int) := by rw [← hmm]; split <;> omega
      have hmle : mm ≤ m5 := by omega
      rw [hmm] at hsrcA HV6 ⊢
      have hcr : mm ≤ cr := by
        rcases HRO.out.2 with ⟨h1, h2⟩ | ⟨g', cap', cur, h1, _, _, h3, h4, _⟩
        · cases h1
          omega
        · cases h1
          omega
      have hsrcB := hid (show Src w6 (.slice ar mm cr) mm 1 (GV (L.take kk)) by
        have htk : GV ((L.drop 0).take mm) = GV (L.take kk) := by
          rw [List.drop_zero, ← hmm]
          congr 1
          rw [List.take_eq_take_iff]
          rw [HM5.out]
          omega
        rw [← htk]
        rcases HRO.out.2 with ⟨h1, h2⟩ | ⟨g', cap', cur, h1, _, _, h3, h4, _⟩
        · cases h1
          obtain rfl : mm = 0 := by omega
          simpa [GV] using Src.nil _ 1
        · cases h1
          exact src_piece HRO.out 0 mm cr (by omega) HM5.out)
      have hm1 : (mm : Int) ≤ (cr : Int) := by omega
      have hm2 : (0 : Int) ≤ (mm : Int) := by omega
      clear hmm
      have hsl := run_cut_to ar m5 cr mm hcr
      go_region_held3 (fun w' => w'.cell? ⟨rb, 0, none⟩ = Option.some (.slice ar m5 cr)) (first | exact dr | exact hK7.cellSome dr (by simp) | exact hK8.cellSome (hK7.cellSome dr (by simp)) (by simp)) (first
        | (go_at_call 21; refine (words_k (.slice a6 mm c6) (.slice ar mm cr) mm (L.take kk) (by omega) _ (hsrcA.out.keptN ((Kept.refl [] _).drew)) (hsrcB.out.keptN ((Kept.refl [] _).drew))).mono ?_; rintro e w7 ⟨rfl, hK7⟩)
        | (go_at_call 10; refine (awake_ok _ (hG27.out.keptN ((Kept.refl [] w6).drew.trans hK7))).mono ?_; rintro e w8 ⟨rfl, hK8⟩))
      have HKz := hid (HKa.out.trans ((((Kept.refl [] w6).drew).trans hK7).trans hK8))
      clear hK7 hK8
      go_wp2_with fail
      go_ret
      exact ⟨rfl, HKz.out⟩

end Go.Proofs.YtccfkpopjapmnaaDoor
