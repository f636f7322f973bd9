/- package clock: the law ClockPlays. -/
import Derived.Test.YtcaikpfdhdbioaaDoorClockV
import Derived.Test.YtcaikpfdhdbioaaDoorClockF
import Derived.Test.YtcaikpfdhdbioaaDoorWords
namespace Go.Proofs.YtcaikpfdhdbioaaDoor
open Go Go.RowKit

/-- Both clocks tell the same. -/
structure BothC (w0 : World) (cb rb : Nat) (S : List Th) (last now : Nat) (w : World) : Prop where
  ex : ∃ T U, ClockIs w cb T S last now ∧ RefIs w rb U S last now ∧ (∀ x, x ∈ T → x ∉ U) ∧ (∀ x, x ∈ T → w0.heap.size ≤ x) ∧ ∀ x, x ∈ U → w0.heap.size ≤ x
  kept : Kept [] w0 w
theorem BothC.keptN {w0 w w' : World} {cb rb : Nat} {S : List Th} {last now : Nat} (h : BothC w0 cb rb S last now w) (k : Kept [] w w') : BothC w0 cb rb S last now w' := by
  obtain ⟨T, U, h1, h2, h3⟩ := h.ex
  exact ⟨⟨T, U, h1.keptN k, h2.keptN k, h3⟩, h.kept.trans k⟩
/-- A call of the clock, then the like one of the document's. -/
theorem BothC.step {w0 w w1 w2 : World} {cb rb : Nat} {T U T' U' : List Nat} {S' : List Th} {last' now' : Nat} (hk : Kept [] w0 w) (hU : ∀ x, x ∈ U → x < w.heap.size) (hTU : ∀ x, x ∈ T → x ∉ U) (hT0 : ∀ x, x ∈ T → w0.heap.size ≤ x) (hU0 : ∀ x, x ∈ U → w0.heap.size ≤ x)
    (c1 : ClockIs w1 cb T' S' last' now') (hT' : ∀ x, x ∈ T' → x ∈ T ∨ w.heap.size ≤ x) (k1 : Kept T w w1) (c2 : RefIs w2 rb U' S' last' now') (hU' : ∀ x, x ∈ U' → x ∈ U ∨ w1.heap.size ≤ x) (k2 : Kept U w1 w2) : BothC w0 cb rb S' last' now' w2 := by
  have hs := hk.size
  have hs1 := k1.size
  have hd : ∀ x, x ∈ T' → x ∉ U := fun x hx hu => by
    rcases hT' x hx with h1 | h1
    · exact hTU x h1 hu
    · have := hU x hu; omega
  refine ⟨⟨T', U', c1.kept k2 hd, c2, fun x hx hu => ?_, fun x hx => ?_, fun x hx => ?_⟩, (hk.trans' k1 (fun x hx => .inr (hT0 x hx))).trans' k2 (fun x hx => .inr (hU0 x hx))⟩
  · rcases hU' x hu with h1 | h1
    · exact hd x hx h1
    · have := c1.lt x hx; omega
  · rcases hT' x hx with h1 | h1
    · exact hT0 x h1
    · omega
  · rcases hU' x hx with h1 | h1
    · exact hU0 x h1
    · omega
theorem ClockIs.facts {w : World} {cb : Nat} {T : List Nat} {S : List Th} {last now : Nat} (h : ClockIs w cb T S last now) : (S.map (·.x)).Nodup ∧ (S.map (·.h)).Nodup ∧ (∀ s, s ∈ S → s.h ≤ last) ∧ S.Pairwise Ah := by
  obtain ⟨hb, mb, bb, base, v, rfl, h⟩ := h
  exact ⟨h.ids, h.heap.nodup, h.heap.less, h.heap.sorted⟩

theorem arm_zero_x {w : World} {cb : Nat} {T : List Nat} {S : List Th} {last now : Nat} (h : ClockIs w cb T S last now) (x d : Nat) (hx : x = 0) :
    Calls Tryd.prog 6 #[.pointer (some ⟨cb, 0, none⟩), .int .u64 x, .int .u64 d] w fun e w' => ∃ v, e = .returned v ∧ ErrOut sClock 0 1 w v w' := by
  subst hx
  exact arm_zero h d
theorem rarm_zero_x {w : World} {rb : Nat} {U : List Nat} {S : List Th} {last now : Nat} (h : RefIs w rb U S last now) (x d : Nat) (hx : x = 0) :
    Calls Tryd.prog 19 #[.pointer (some ⟨rb, 0, none⟩), .int .u64 x, .int .u64 d] w fun e w' => ∃ b, e = .returned (.pointer (some ⟨b, 0, none⟩)) ∧ FailAt w' b sClock 0 1 ∧ Kept [] w w' := by
  subst hx
  exact rarm_zero h d
theorem arm_never_x {w : World} {cb : Nat} {T : List Nat} {S : List Th} {last now : Nat} (h : ClockIs w cb T S last now) (id d : Nat) (h0 : id ≠ 0) (hi : id < 18446744073709551616) (hno : ∀ t, t ∈ S → t.x ≠ id) (hd : d = 18446744073709551615) :
    Calls Tryd.prog 6 #[.pointer (some ⟨cb, 0, none⟩), .int .u64 id, .int .u64 d] w fun e w' => e = .returned .nilIface ∧ Kept [] w w' := by
  subst hd
  exact arm_never h id h0 hi hno
theorem rarm_never_x {w : World} {rb : Nat} {U : List Nat} {S : List Th} {last now : Nat} (h : RefIs w rb U S last now) (hS : S.length ≤ 100000) (x d : Nat) (h0 : x ≠ 0) (hx : ∀ t, t ∈ S → t.x ≠ x) (hd : d = 18446744073709551615) :
    Calls Tryd.prog 19 #[.pointer (some ⟨rb, 0, none⟩), .int .u64 x, .int .u64 d] w fun e w' => e = .returned (.pointer none) ∧ Kept [] w w' := by
  subst hd
  exact rarm_never h hS x h0 hx

set_option maxRecDepth 100000 in
set_option maxHeartbeats 8000000 in
theorem plays_law (a : Option Addr) (len cap : Nat) (g : Nat → Nat → Int) (w : World) (hg : Laid w) (hA : IntRows w a len [.i64, .u64, .u64] g) :
    Calls Tryd.prog 4 #[.slice a len cap] w fun e w' => e = .returned (.bool true) ∧ Kept [] w w' := by
  have HG := hid hg
  have HAR := hid hA
  have hlen : len ≤ 9223372036854775807 := by have := hA.small; unfold maxLen at this; omega
  clear hg hA
  go_enter Tryd.func4, Tryd.ntmps4
  go_wp2_with fail
  refine (newclock_ok w).mono ?_
  rintro e w1 ⟨cb, T1, rfl, hT1, hC1, hK1⟩
  have HC1 := hid hC1
  have HT1 := hid hT1
  have HK1 := hid hK1
  clear hC1 hK1 hT1
  go_wp2_with fail
  have hszw := HK1.out.size
  obtain ⟨rb, hrb⟩ : ∃ rb, w1.heap.size = rb := ⟨_, rfl⟩
  have HB0 := hid (show BothC w cb rb [] 0 0 (w1.alloc (.cells #[.int .u64 0, .slice none 0 0, .int .i64 0] 46)) from by
    refine ⟨⟨T1, [rb], HC1.out.keptN ((Kept.refl _ _).alloc _), ⟨.slice none 0 0, by simp [Value.ownBlock], Blk.newA _ _ hrb.symm, World.ownsRow_nil _ _ _ _, by simp [Value.ownBlock]⟩, fun x hx hm => ?_, HT1.out, fun x hx => ?_⟩, HK1.out.alloc _⟩
    · have h1 := HC1.out.lt x hx
      simp at hm
      omega
    · simp at hx
      omega)
  rw [hrb]
  have hwr : w.heap.size ≤ rb := by omega
  clear hrb HC1 HT1 HK1 hszw
  go_loopw [5] (fun s5 wr => ∃ (k : Nat) (S : List Th) (last now : Nat), k ≤ len ∧ k ≤ 120 ∧ S.length ≤ k ∧ last ≤ k ∧ now ≤ k ∧ s5 = .int .i64 k ∧ BothC w cb rb S last now wr) (fun s5 _ => len - (intOf s5).toNat)
  case atStart => exact ⟨0, [], 0, 0, Nat.zero_le _, by omega, Nat.zero_le _, Nat.le_refl _, Nat.le_refl _, rfl, HB0.out⟩
  case round =>
    obtain ⟨k, S, last, now, hk, hk2, hSk, hlk, hnk, rfl, hB⟩ := hrel
    have HB := hid hB
    clear hB
    by_cases hlt : k < len
    · by_cases hlt120 : k < 120
      · obtain ⟨ba, offa, rfl, hba, hca⟩ := HAR.out.cell k hlt
        have hc0 := HB.out.kept.cellSome (hca 0 .i64 rfl) (by simp)
        have hc1 := HB.out.kept.cellSome (hca 1 .u64 rfl) (by simp)
        have hc2 := HB.out.kept.cellSome (hca 2 .u64 rfl) (by simp)
        simp only [List.length_cons, List.length_nil, Nat.zero_add, Nat.add_zero, Nat.reduceAdd] at hc0 hc1 hc2
        obtain ⟨b00, b01⟩ := bounds_i64 (HAR.out.wf k 0 .i64 hlt rfl)
        obtain ⟨b10, b11⟩ := bounds_u64 (HAR.out.wf k 1 .u64 hlt rfl)
        obtain ⟨b20, b21⟩ := bounds_u64 (HAR.out.wf k 2 .u64 hlt rfl)
        generalize g k 0 = x0 at *
        obtain ⟨x, hx⟩ : ∃ x : Nat, g k 1 = (x : Int) := ⟨(g k 1).toNat, by omega⟩
        obtain ⟨d, hd⟩ : ∃ d : Nat, g k 2 = (d : Int) := ⟨(g k 2).toNat, by omega⟩
        rw [hx] at hc1 b11
        rw [hd] at hc2 b21
        have hxb : x < 18446744073709551616 := by omega
        have hdb : d < 18446744073709551616 := by omega
        have HXB := hid hxb
        have HDB := hid hdb
        clear hca hx hd b10 b11 b20 b21 hxb hdb
        go_wp2_with fail
        refine (within_ok x0 7 (by decide) b00 b01 (by decide) _).mono ?_
        rintro e w3 ⟨rfl, rfl⟩
        have hz0 := Int.emod_nonneg x0 (show (7 : Int) ≠ 0 by decide)
        have hz1 := Int.emod_lt_of_pos x0 (show (0 : Int) < 7 by decide)
        generalize x0 % 7 = dd at *
        obtain ⟨w3, hw3⟩ : ∃ w3, wr.alloc (.cells #[.int .i64 x0, .int .u64 x, .int .u64 d] 48) = w3 := ⟨_, rfl⟩
        have hX : Blk w3 wr.heap.size [.int .i64 x0, .int .u64 x, .int .u64 d] := by rw [← hw3]; exact Blk.newA #[.int .i64 x0, .int .u64 x, .int .u64 d] _ rfl
        have hK3 : Kept [] wr w3 := by rw [← hw3]; exact (Kept.refl [] wr).alloc _
        have d0 := hX.cell (o := 0) rfl
        have d1 := hX.cell (o := 1) rfl
        have d2 := hX.cell (o := 2) rfl
        have HB3 := hid (HB.out.keptN hK3)
        have HXL := hid (show ∀ T U, ClockIs wr cb T S last now → RefIs wr rb U S last now → wr.heap.size ∉ T ∧ wr.heap.size ∉ U from fun T U h1 h2 => ⟨fun hm => by have := h1.lt _ hm; omega, fun hm => by have := h2.lt _ hm; omega⟩)
        rw [hw3]
        have HG3 := hid (HG.out.keptN HB3.out.kept)
        obtain ⟨⟨T, U, hC, hR, hTU, hT0, hU0⟩, hK0⟩ := HB.out
        obtain ⟨hnT, hnU⟩ := HXL.out T U hC hR
        have HC := hid (hC.keptN hK3)
        have HR := hid (hR.keptN hK3)
        have HTU := hid hTU
        have HT0 := hid hT0
        have HU0 := hid hU0
        have HUL := hid (fun x (hx : x ∈ U) => Nat.lt_of_lt_of_le (hR.lt x hx) hK3.size)
        have HK0 := hid (hK0.trans hK3)
        obtain ⟨f1, f2, f3, f4⟩ := hC.facts
        have F1 := hid f1
        have F2 := hid f2
        have F3 := hid f3
        have F4 := hid f4
        clear hX hK3 hw3 hc0 hc1 hc2 HXL hC hR hTU hT0 hU0 hK0 f1 f2 f3 f4
        go_upto_block 2 with fail
        go_cut [5] (fun s5 wx => s5 = .int .i64 k ∧ ∃ (S' : List Th) (last' now' : Nat), S'.length ≤ k + 1 ∧ last' ≤ k + 1 ∧ now' ≤ k + 1 ∧ BothC w cb rb S' last' now' wx)
        case first =>
          by_cases e3 : dd = 3
          · subst e3
            by_cases hm : ∃ t, t ∈ S ∧ t.x = x
            · obtain ⟨t, ht, rfl⟩ := hm
              have HT := hid ht
              clear ht
              go_wp2_with fail
              go_region_held3 (fun w' => w'.cell? ⟨wr.heap.size, 1, none⟩ = Option.some (.int .u64 t.x)) (first | exact d1 | exact hK4.cellSome d1 hnT | exact hK5.cellSome (hK4.cellSome d1 hnT) hnU) (first
                | (go_at_call 9; refine (off_some (HC.out.keptN ((Kept.refl [] _).drew)) (by omega) (by omega) HT.out).mono ?_; rintro e w4 ⟨rfl, T4, hC4, hT4, hK4⟩)
                | (go_at_call 14; refine (roff_some ((HR.out.keptN ((Kept.refl [] _).drew)).kept hK4 (fun y hy hy2 => HTU.out y hy2 hy)) (by omega) F1.out F2.out HT.out).mono ?_; rintro e w5 ⟨rfl, U5, hR5, hU5, hK5⟩))
              have HST := hid (BothC.step (HK0.out.trans (Kept.refl [] w3).drew) HUL.out HTU.out HT0.out HU0.out hC4 (fun y hy => .inl (hT4 y hy)) hK4 hR5 hU5 hK5)
              have hol := out_length F2.out HT.out
              clear hC4 hT4 hK4 hR5 hU5 hK5
              go_wp2_with fail
              go_meet
              exact ⟨rfl, _, _, _, by omega, by omega, by omega, HST.out⟩
            · have HNO := hid (fun (t : Th) (ht : t ∈ S) (e : t.x = x) => hm ⟨t, ht, e⟩)
              clear hm
              go_wp2_with fail
              go_region_held3 (fun w' => w'.cell? ⟨wr.heap.size, 1, none⟩ = Option.some (.int .u64 x)) (first | exact d1 | exact hK4.cellSome d1 (by simp) | exact hK5.cellSome (hK4.cellSome d1 (by simp)) (by simp)) (first
                | (go_at_call 9; refine (off_none (HC.out.keptN ((Kept.refl [] _).drew)) x HXB.out HNO.out).mono ?_; rintro e w4 ⟨rfl, hK4⟩)
                | (go_at_call 14; refine (roff_none ((HR.out.keptN ((Kept.refl [] _).drew)).keptN hK4) (by omega) x HNO.out).mono ?_; rintro e w5 ⟨rfl, hK5⟩))
              have HKK := hid (((Kept.refl [] w3).drew.trans hK4).trans hK5)
              clear hK4 hK5
              go_wp2_with fail
              go_meet
              exact ⟨rfl, S, last, now, by omega, by omega, by omega, HB3.out.keptN HKK.out⟩
          · have hd3 : (dd == 3) = false := by simpa using e3
            clear e3
            by_cases e4 : dd = 4
            · subst e4
              by_cases hm : ∃ t, t ∈ S ∧ t.x = x
              · obtain ⟨t, ht, rfl⟩ := hm
                have HDS := hid (dead_some HC.out ht)
                have HDR := hid (fun (W : World) (hW : Kept [] w3 W) => rdead_some (HR.out.keptN hW) (by omega) F1.out ht)
                clear ht
                go_wp2_with fail
                refine HDS.out.mono ?_
                rintro e w4 ⟨rfl, hK4⟩
                have HK4 := hid hK4
                have d1' := hK4.cellSome d1 (by simp)
                clear hK4
                go_wp2_with fail
                refine (HDR.out _ HK4.out).mono ?_
                rintro e w5 ⟨rfl, hK5⟩
                have HK5 := hid (HK4.out.trans hK5)
                clear hK5
                go_wp2_with fail
                go_meet
                exact ⟨rfl, S, last, now, by omega, by omega, by omega, HB3.out.keptN HK5.out⟩
              · have HDS := hid (dead_none HC.out x HXB.out (fun (t : Th) (ht : t ∈ S) (e : t.x = x) => hm ⟨t, ht, e⟩))
                have HDR := hid (fun (W : World) (hW : Kept [] w3 W) => rdead_none (HR.out.keptN hW) (by omega) x (fun (t : Th) (ht : t ∈ S) (e : t.x = x) => hm ⟨t, ht, e⟩))
                clear hm
                go_wp2_with fail
                refine HDS.out.mono ?_
                rintro e w4 ⟨rfl, hK4⟩
                have HK4 := hid hK4
                have d1' := hK4.cellSome d1 (by simp)
                clear hK4
                go_wp2_with fail
                refine (HDR.out _ HK4.out).mono ?_
                rintro e w5 ⟨rfl, hK5⟩
                have HK5 := hid (HK4.out.trans hK5)
                clear hK5
                go_wp2_with fail
                go_meet
                exact ⟨rfl, S, last, now, by omega, by omega, by omega, HB3.out.keptN HK5.out⟩
            · have hd4 : (dd == 4) = false := by simpa using e4
              clear e4
              by_cases e56 : dd = 5 ∨ dd = 6
              · have hsp := split_sorted (now + 1) F4.out
                obtain ⟨A, hA⟩ : ∃ A, (S.filter fun s => decide (s.d ≤ now + 1)) = A := ⟨_, rfl⟩
                obtain ⟨B, hB⟩ : ∃ B, (S.filter fun s => decide (now + 1 < s.d)) = B := ⟨_, rfl⟩
                have hAd : ∀ s, s ∈ A → s.d ≤ now + 1 := fun s hs => by rw [← hA] at hs; simpa using (List.mem_filter.1 hs).2
                have hBd : ∀ s, s ∈ B → now + 1 < s.d := fun s hs => by rw [← hB] at hs; simpa using (List.mem_filter.1 hs).2
                rw [hA, hB] at hsp
                have hAB : A.length + B.length ≤ 120 := by rw [← List.length_append, ← hsp]; omega
                have hBl : B.length ≤ k := by have : S.length = A.length + B.length := by rw [hsp, List.length_append]
                                              omega
                have HCA := hid HC.out
                have HRA := hid HR.out
                rw [hsp] at HCA HRA
                have HTI := hid (tick_ok HCA.out (by rw [List.length_append]; omega) (by omega) (by omega) hAd hBd)
                have HRI := hid (fun (W : World) (hW : Kept T w3 W) => rtick_ok (HRA.out.kept hW (fun y hy hy2 => HTU.out y hy2 hy)) (by rw [List.length_append]; omega) (by omega) hAd hBd)
                have HMAP := hid (show A.map numV = (A.map fun t => (t.x : Int)).map (.int .u64) by simp [numV])
                clear hsp hA hB hAd hBd HCA HRA
                rcases e56 with e56 | e56
                all_goals
                  subst e56
                  go_wp2_with fail
                  refine HTI.out.mono ?_
                  rintro e w4 ⟨v4, T4, rfl, hC4, hT4, hR4, hK4⟩
                  obtain ⟨a4, c4, rfl⟩ := own_form' hR4
                  have HC4 := hid hC4
                  have HT4 := hid hT4
                  have HR4 := hid hR4
                  have HK4 := hid hK4
                  clear hC4 hT4 hR4 hK4
                  go_wp2_with fail
                  refine (HRI.out _ HK4.out).mono ?_
                  rintro e w5 ⟨v5, U5, rfl, hC5, hU5, hR5, hK5⟩
                  obtain ⟨a5, c5, rfl⟩ := own_form' hR5
                  have HST := hid (BothC.step HK0.out HUL.out HTU.out HT0.out HU0.out HC4.out (fun y hy => .inl (HT4.out y hy)) HK4.out hC5 hU5 hK5)
                  have hR4' := own_kept HR4.out hK5 (fun b hb1 hb2 => by
                    have h1 := own_ge HR4.out b hb1
                    have h2 := HUL.out b hb2
                    omega)
                  have hs4 := own_src hR4'
                  have hs5 := own_src hR5
                  rw [HMAP.out] at hs4 hs5
                  have HWO := hid (words_ok (.slice a4 A.length c4) (.slice a5 A.length c5) A.length _ (by omega) _ hs4 hs5)
                  clear hC5 hU5 hR5 hK5 hR4' hs4 hs5
                  go_wp2_with fail
                  refine HWO.out.mono ?_
                  rintro e w6 ⟨rfl, hK6⟩
                  have HST6 := hid (HST.out.keptN hK6)
                  clear hK6
                  go_wp2_with fail
                  go_meet
                  exact ⟨rfl, _, _, _, by omega, by omega, by omega, HST6.out⟩
              · have hd5 : (dd == 5) = false := by simpa using (fun h => e56 (.inl h))
                have hd6 : (dd == 6) = false := by simpa using (fun h => e56 (.inr h))
                clear e56
                by_cases hx0 : x = 0
                · have HX0 := hid hx0
                  clear hx0
                  go_wp2_with fail
                  go_region_held3 (fun w' => w'.cell? ⟨wr.heap.size, 1, none⟩ = Option.some (.int .u64 x) ∧ w'.cell? ⟨wr.heap.size, 2, none⟩ = Option.some (.int .u64 d)) (first | exact ⟨d1, d2⟩ | exact ⟨hK4.cellSome d1 (by simp), hK4.cellSome d2 (by simp)⟩ | exact ⟨hK5.cellSome (hK4.cellSome d1 (by simp)) (by simp), hK5.cellSome (hK4.cellSome d2 (by simp)) (by simp)⟩ | exact ⟨hK6.cellSome (hK5.cellSome (hK4.cellSome d1 (by simp)) (by simp)) (by simp), hK6.cellSome (hK5.cellSome (hK4.cellSome d2 (by simp)) (by simp)) (by simp)⟩) (first
                    | (go_at_call 6; refine (arm_zero_x (HC.out.keptN ((Kept.refl [] _).drew)) x d HX0.out).mono ?_; rintro e w4 ⟨v4, rfl, be, rfl, hbe, hB4, hK4⟩)
                    | (go_at_call 19; refine (rarm_zero_x ((HR.out.keptN ((Kept.refl [] _).drew)).keptN hK4) x d HX0.out).mono ?_; rintro e w5 ⟨fb, rfl, hF5, hK5⟩)
                    | (go_at_call 7; refine (same_hit be fb sClock 0 1 (by decide) (by decide) _ ((HG3.out.keptN ((Kept.refl [] _).drew)).keptN (hK4.trans hK5)) (hB4.keptN hK5) hF5).mono ?_; rintro e w6 ⟨rfl, hK6⟩))
                  have HKK := hid (((Kept.refl [] w3).drew.trans (hK4.trans hK5)).trans hK6)
                  clear hB4 hK4 hF5 hK5 hK6
                  go_wp2_with fail
                  go_meet
                  exact ⟨rfl, S, last, now, by omega, by omega, by omega, HB3.out.keptN HKK.out⟩
                · by_cases hm : ∃ t, t ∈ S ∧ t.x = x
                  · obtain ⟨t, ht, rfl⟩ := hm
                    have HT := hid ht
                    have HX0 := hid hx0
                    clear ht hx0
                    go_wp2_with fail
                    go_region_held3 (fun w' => w'.cell? ⟨wr.heap.size, 1, none⟩ = Option.some (.int .u64 t.x) ∧ w'.cell? ⟨wr.heap.size, 2, none⟩ = Option.some (.int .u64 d)) (first | exact ⟨d1, d2⟩ | exact ⟨hK4.cellSome d1 (by simp), hK4.cellSome d2 (by simp)⟩ | exact ⟨hK5.cellSome (hK4.cellSome d1 (by simp)) (by simp), hK5.cellSome (hK4.cellSome d2 (by simp)) (by simp)⟩ | exact ⟨hK6.cellSome (hK5.cellSome (hK4.cellSome d1 (by simp)) (by simp)) (by simp), hK6.cellSome (hK5.cellSome (hK4.cellSome d2 (by simp)) (by simp)) (by simp)⟩) (first
                      | (go_at_call 6; refine (arm_twice (HC.out.keptN ((Kept.refl [] _).drew)) HT.out HX0.out d).mono ?_; rintro e w4 ⟨v4, rfl, be, rfl, hbe, hB4, hK4⟩)
                      | (go_at_call 19; refine (rarm_twice ((HR.out.keptN ((Kept.refl [] _).drew)).keptN hK4) (by omega) F1.out HT.out HX0.out d).mono ?_; rintro e w5 ⟨fb, rfl, hF5, hK5⟩)
                      | (go_at_call 7; refine (same_hit be fb sClock 0 8 (by decide) (by decide) _ ((HG3.out.keptN ((Kept.refl [] _).drew)).keptN (hK4.trans hK5)) (hB4.keptN hK5) hF5).mono ?_; rintro e w6 ⟨rfl, hK6⟩))
                    have HKK := hid (((Kept.refl [] w3).drew.trans (hK4.trans hK5)).trans hK6)
                    clear hB4 hK4 hF5 hK5 hK6
                    go_wp2_with fail
                    go_meet
                    exact ⟨rfl, S, last, now, by omega, by omega, by omega, HB3.out.keptN HKK.out⟩
                  · have HNO := hid (fun (t : Th) (ht : t ∈ S) (e : t.x = x) => hm ⟨t, ht, e⟩)
                    have HX0 := hid hx0
                    clear hm hx0
                    by_cases hdn : d = 18446744073709551615
                    · have HDN := hid hdn
                      clear hdn
                      go_wp2_with fail
                      go_region_held3 (fun w' => w'.cell? ⟨wr.heap.size, 1, none⟩ = Option.some (.int .u64 x) ∧ w'.cell? ⟨wr.heap.size, 2, none⟩ = Option.some (.int .u64 d)) (first | exact ⟨d1, d2⟩ | exact ⟨hK4.cellSome d1 (by simp), hK4.cellSome d2 (by simp)⟩ | exact ⟨hK5.cellSome (hK4.cellSome d1 (by simp)) (by simp), hK5.cellSome (hK4.cellSome d2 (by simp)) (by simp)⟩) (first
                        | (go_at_call 6; refine (arm_never_x (HC.out.keptN ((Kept.refl [] _).drew)) x d HX0.out HXB.out HNO.out HDN.out).mono ?_; rintro e w4 ⟨rfl, hK4⟩)
                        | (go_at_call 19; refine (rarm_never_x ((HR.out.keptN ((Kept.refl [] _).drew)).keptN hK4) (by omega) x d HX0.out HNO.out HDN.out).mono ?_; rintro e w5 ⟨rfl, hK5⟩)
                        | (go_at_call 7; refine (same_nil_nil _).mono ?_; rintro e w6 ⟨rfl, rfl⟩))
                      have HKK := hid ((Kept.refl [] w3).drew.trans (hK4.trans hK5))
                      clear hK4 hK5
                      go_wp2_with fail
                      go_meet
                      exact ⟨rfl, S, last, now, by omega, by omega, by omega, HB3.out.keptN HKK.out⟩
                    · have HDN := hid (show d < 18446744073709551615 by have := HDB.out; omega)
                      clear hdn
                      go_wp2_with fail
                      go_region_held3 (fun w' => w'.cell? ⟨wr.heap.size, 1, none⟩ = Option.some (.int .u64 x) ∧ w'.cell? ⟨wr.heap.size, 2, none⟩ = Option.some (.int .u64 d)) (first | exact ⟨d1, d2⟩ | exact ⟨hK4.cellSome d1 hnT, hK4.cellSome d2 hnT⟩ | exact ⟨hK5.cellSome (hK4.cellSome d1 hnT) hnU, hK5.cellSome (hK4.cellSome d2 hnT) hnU⟩) (first
                        | (go_at_call 6; refine (arm_ok (HC.out.keptN ((Kept.refl [] _).drew)) (by omega) (by omega) x d HX0.out HXB.out HDN.out HNO.out).mono ?_; rintro e w4 ⟨rfl, T4, hC4, hT4, hK4⟩)
                        | (go_at_call 19; refine (rarm_ok ((HR.out.keptN ((Kept.refl [] _).drew)).kept hK4 (fun y hy hy2 => HTU.out y hy2 hy)) (by omega) (by omega) F3.out x d HX0.out HDN.out HNO.out).mono ?_; rintro e w5 ⟨rfl, U5, hR5, hU5, hK5⟩)
                        | (go_at_call 7; refine (same_nil_nil _).mono ?_; rintro e w6 ⟨rfl, rfl⟩))
                      have HST := hid (BothC.step (HK0.out.trans (Kept.refl [] w3).drew) HUL.out HTU.out HT0.out HU0.out hC4 hT4 hK4 hR5 hU5 hK5)
                      have hil : (insT ⟨d, x, last + 1⟩ S).length = S.length + 1 := by rw [(insT_perm _ _).length_eq]; rfl
                      clear hC4 hT4 hK4 hR5 hU5 hK5
                      go_wp2_with fail
                      go_meet
                      exact ⟨rfl, _, _, _, by omega, by omega, by omega, HST.out⟩
        case rest =>
          obtain ⟨rfl, S', last', now', hS', hl', hn', hB5⟩ := hcut
          have HB5 := hid hB5
          clear hB5
          obtain ⟨⟨T5, U5, hC5, hR5, -⟩, hK5⟩ := HB5.out
          have HC5 := hid hC5
          obtain ⟨v5, -, hv5⟩ := hR5
          obtain ⟨a5, c5, rfl⟩ := own_form' hv5.row
          have r0 := hv5.head.cell (o := 0) rfl
          have r1 := hv5.head.cell (o := 1) rfl
          obtain ⟨m5, hm5⟩ : ∃ m5, S'.length = m5 := ⟨_, rfl⟩
          have HAR5 := hid (fun (W : World) (hW : Kept [] wc W) => armed_ok (HC5.out.keptN hW))
          rw [hm5] at r1 HAR5 hS'
          have HM5 := hid hm5
          clear hC5 hv5 hK5 hm5
          have hne : ((m5 : Int) != (m5 : Int)) = false := by simp
          have hne2 : ((now' : Int) != (now' : Int)) = false := by simp
          go_wp2_with fail
          go_region_held3 (fun w' => w'.cell? ⟨rb, 0, none⟩ = Option.some (.int .u64 now') ∧ w'.cell? ⟨rb, 1, none⟩ = Option.some (.slice a5 m5 c5)) (first | exact ⟨r0, r1⟩) (first
            | (go_at_call 20; refine (now_ok (HC5.out.keptN ((Kept.refl [] _).drew))).mono ?_; rintro e w6 ⟨rfl, rfl⟩)
            | (go_at_call 12; refine (HAR5.out _ ((Kept.refl [] _).drew)).mono ?_; rintro e w6 ⟨rfl, rfl⟩))
          go_wp2_with fail
          go_roundw
          case rel => exact ⟨k + 1, S', last', now', by omega, by omega, by rw [HM5.out]; omega, by omega, by omega, by go_num, HB5.out.keptN ((Kept.refl [] _).drew)⟩
          case measure => simp [intOf]; omega
      · obtain rfl : k = 120 := by omega
        go_wp2_with fail
        refine (awake_ok _).mono ?_
        rintro e w5 ⟨rfl, hK5⟩
        have HK5 := hid hK5
        clear hK5
        go_wp2_with fail
        go_ret
        exact ⟨rfl, HB.out.kept.trans HK5.out⟩
    · go_wp2_with fail
      refine (awake_ok _).mono ?_
      rintro e w5 ⟨rfl, hK5⟩
      have HK5 := hid hK5
      clear hK5
      go_wp2_with fail
      go_ret
      exact ⟨rfl, HB.out.kept.trans HK5.out⟩

end Go.Proofs.YtcaikpfdhdbioaaDoor
