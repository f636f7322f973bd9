/- package objects: the law ObjectsPlays. -/
import Derived.Test.YtecagnhffgajhaaDoorObjSame
import Derived.Test.YtecagnhffgajhaaDoorOpen
import Derived.Deep.DeepCutAuto
import Derived.Deep.CutBlock
namespace Go.Proofs.YtecagnhffgajhaaDoor
open Go Go.RowKit

/-- What both sides hold. -/
structure Both (w1 : World) (bo bl ro rl rt n i : Nat) (f : Nat → Row) (wr : World) : Prop where
  objs : Objs wr bo bl n f
  ref : RObjs wr ro rl rt n f
  rows : ∀ p, p < n → 0 ≤ (f p).times ∧ (f p).times ≤ i ∧ 0 ≤ (f p).handle ∧ (f p).handle ≤ 64 + 64 * i ∧ ((f p).handle ≠ 0 → ((f p).handle - 1) % 64 = (p : Int))
  size : w1.heap.size ≤ wr.heap.size

theorem Both.good {w1 : World} {bo bl ro rl rt n i : Nat} {f : Nat → Row} {wr : World} (h : Both w1 bo bl ro rl rt n i f wr) : GoodF f n := fun p hp => ⟨(h.rows p hp).2.2.1, (h.rows p hp).2.2.2.2⟩
theorem Both.keptN {w1 : World} {bo bl ro rl rt n i : Nat} {f : Nat → Row} {wr w' : World} (h : Both w1 bo bl ro rl rt n i f wr) (k : Kept [] wr w') : Both w1 bo bl ro rl rt n i f w' :=
  ⟨h.objs.keptN k, h.ref.keptN k, h.rows, Nat.le_trans h.size k.size⟩

theorem Both.mono {w1 : World} {bo bl ro rl rt n i : Nat} {f : Nat → Row} {wr : World} (h : Both w1 bo bl ro rl rt n i f wr) : Both w1 bo bl ro rl rt n (i + 1) f wr :=
  ⟨h.objs, h.ref, fun p hp => by obtain ⟨h1, h2, h3, h4, h5⟩ := h.rows p hp; exact ⟨h1, by omega, h3, by omega, h5⟩, h.size⟩
theorem Both.refKept {w1 : World} {bo bl ro rl rt n i : Nat} {f : Nat → Row} {wr w' : World} (h : Both w1 bo bl ro rl rt n i f wr) (hbl : bl < w1.heap.size) (hro : w1.heap.size ≤ ro) (hrl : w1.heap.size ≤ rl) (hrt : w1.heap.size ≤ rt) (k : Kept [bl] wr w') : RObjs w' ro rl rt n f :=
  h.ref.kept k (by simp; omega) (by simp; omega) (by simp; omega)
theorem Both.step {w1 : World} {bo bl ro rl rt n i : Nat} {f f' : Nat → Row} {wr w' w'' : World} (h : Both w1 bo bl ro rl rt n i f wr) (hbo : bo < w1.heap.size) (hbl : bl < w1.heap.size) (hrl : w1.heap.size ≤ rl) (hrt : w1.heap.size ≤ rt)
    (hO : Objs w' bo bl n f') (hK : Kept [bl] wr w') (hR : RObjs w'' ro rl rt n f') (hK2 : Kept [rl, rt] w' w'')
    (hrows : ∀ p, p < n → 0 ≤ (f' p).times ∧ (f' p).times ≤ (i + 1 : Nat) ∧ 0 ≤ (f' p).handle ∧ (f' p).handle ≤ 64 + 64 * ((i + 1 : Nat) : Int) ∧ ((f' p).handle ≠ 0 → ((f' p).handle - 1) % 64 = (p : Int))) : Both w1 bo bl ro rl rt n (i + 1) f' w'' :=
  ⟨hO.kept hK2 (by simp; omega) (by simp; omega), hR, hrows, Nat.le_trans h.size (Nat.le_trans hK.size hK2.size)⟩
theorem Both.made {w1 : World} {bo bl ro rl rt n i p : Nat} {f : Nat → Row} {wr : World} (h : Both w1 bo bl ro rl rt n i f wr) (hn : n ≤ 64) (hpn : p < n) (kind addr : Int) :
    ∀ q, q < n → 0 ≤ ((fun q => if q = p then givenRow p (f p) kind addr else f q) q).times ∧ ((fun q => if q = p then givenRow p (f p) kind addr else f q) q).times ≤ (i + 1 : Nat) ∧ 0 ≤ ((fun q => if q = p then givenRow p (f p) kind addr else f q) q).handle ∧ ((fun q => if q = p then givenRow p (f p) kind addr else f q) q).handle ≤ 64 + 64 * ((i + 1 : Nat) : Int) ∧ (((fun q => if q = p then givenRow p (f p) kind addr else f q) q).handle ≠ 0 → (((fun q => if q = p then givenRow p (f p) kind addr else f q) q).handle - 1) % 64 = (q : Int)) := by
  intro q hq
  obtain ⟨h1, h2, h3, h4, h5⟩ := h.rows q hq
  by_cases e : q = p
  · subst e
    simp only [if_true, givenRow]
    refine ⟨by omega, by omega, by omega, by omega, fun _ => by omega⟩
  · simp only [e, if_false]
    exact ⟨h1, by omega, h3, by omega, h5⟩
theorem Both.went {w1 : World} {bo bl ro rl rt n i p : Nat} {f : Nat → Row} {wr : World} (h : Both w1 bo bl ro rl rt n i f wr) :
    ∀ q, q < n → 0 ≤ ((fun q => if q = p then goneRow (f p) else f q) q).times ∧ ((fun q => if q = p then goneRow (f p) else f q) q).times ≤ (i + 1 : Nat) ∧ 0 ≤ ((fun q => if q = p then goneRow (f p) else f q) q).handle ∧ ((fun q => if q = p then goneRow (f p) else f q) q).handle ≤ 64 + 64 * ((i + 1 : Nat) : Int) ∧ (((fun q => if q = p then goneRow (f p) else f q) q).handle ≠ 0 → (((fun q => if q = p then goneRow (f p) else f q) q).handle - 1) % 64 = (q : Int)) := by
  intro q hq
  obtain ⟨h1, h2, h3, h4, h5⟩ := h.rows q hq
  by_cases e : q = p
  · subst e
    simp only [if_true, goneRow]
    refine ⟨by omega, by omega, by omega, by omega, fun h => absurd rfl h⟩
  · simp only [e, if_false]
    exact ⟨h1, by omega, h3, by omega, h5⟩

theorem gone_none' {w : World} {bo bl n : Nat} {f : Nat → Row} (hO : Objs w bo bl n f) (h : Int) (h0 : 0 ≤ h) (hh : h < 18446744073709551616) (hp : placeOf f n h = none) :
    Calls Tryd.prog 18 #[.pointer (some ⟨bo, 0, none⟩), .int .u64 h] w fun e w' => ∃ v, e = .returned v ∧ ErrOut sObjects 0 7 w v w' := by
  refine (gone_ok hO h h0 hh).mono ?_
  rintro e w' ⟨v, rfl, hM⟩
  unfold GoneOut at hM
  rw [hp] at hM
  exact ⟨v, rfl, hM⟩
theorem rgone_none {w : World} {ro rl rt n : Nat} {f : Nat → Row} (hO : RObjs w ro rl rt n f) (hG : GoodF f n) (h : Int) (h0 : 0 ≤ h) (hh : h < 18446744073709551616) (hp : placeOf f n h = none) :
    Calls Tryd.prog 19 #[.pointer (some ⟨ro, 0, none⟩), .int .u64 h] w fun e w' => ∃ v, e = .returned v ∧ FailOut sObjects 0 7 w v w' := by
  refine (rgone_ok hO hG h h0 hh).mono ?_
  rintro e w' ⟨v, rfl, hM⟩
  unfold RGoneOut at hM
  rw [hp] at hM
  exact ⟨v, rfl, hM⟩
theorem rgone_some {w : World} {ro rl rt n : Nat} {f : Nat → Row} (hO : RObjs w ro rl rt n f) (hG : GoodF f n) (h : Int) (h0 : 0 ≤ h) (hh : h < 18446744073709551616) {p : Nat} (hp : placeOf f n h = some p) :
    Calls Tryd.prog 19 #[.pointer (some ⟨ro, 0, none⟩), .int .u64 h] w fun e w' => e = .returned (.pointer none) ∧ RObjs w' ro rl rt n (fun q => if q = p then goneRow (f p) else f q) ∧ Kept [rl, rt] w w' := by
  refine (rgone_ok hO hG h h0 hh).mono ?_
  rintro e w' ⟨v, rfl, hM⟩
  unfold RGoneOut at hM
  rw [hp] at hM
  obtain ⟨rfl, h⟩ := hM
  exact ⟨rfl, h⟩
theorem rfind_none {w : World} {ro rl rt n : Nat} {f : Nat → Row} (hO : RObjs w ro rl rt n f) (hG : GoodF f n) (h kind : Int) (h0 : 0 ≤ h) (hh : h < 18446744073709551616) (hp : placeOf f n h = none) :
    Calls Tryd.prog 17 #[.pointer (some ⟨ro, 0, none⟩), .int .u64 h, .int .i64 kind] w fun e w' => ∃ v, e = .returned (.tuple #[.int .u64 0, v]) ∧ FailOut sObjects 0 7 w v w' := by
  refine (rfind_ok hO hG h kind h0 hh).mono ?_
  rintro e w' ⟨v, rfl, hM⟩
  unfold RFindOut at hM
  rw [hp] at hM
  obtain ⟨x, rfl, h⟩ := hM
  exact ⟨x, rfl, h⟩
theorem rfind_other {w : World} {ro rl rt n : Nat} {f : Nat → Row} (hO : RObjs w ro rl rt n f) (hG : GoodF f n) (h kind : Int) (h0 : 0 ≤ h) (hh : h < 18446744073709551616) {p : Nat} (hp : placeOf f n h = some p) (hk : (f p).kind ≠ kind) :
    Calls Tryd.prog 17 #[.pointer (some ⟨ro, 0, none⟩), .int .u64 h, .int .i64 kind] w fun e w' => ∃ v, e = .returned (.tuple #[.int .u64 0, v]) ∧ FailOut sObjects 0 1 w v w' := by
  refine (rfind_ok hO hG h kind h0 hh).mono ?_
  rintro e w' ⟨v, rfl, hM⟩
  unfold RFindOut at hM
  rw [hp] at hM
  change if (f p).kind = kind then _ else _ at hM
  rw [if_neg hk] at hM
  obtain ⟨x, rfl, h⟩ := hM
  exact ⟨x, rfl, h⟩
theorem rfind_some {w : World} {ro rl rt n : Nat} {f : Nat → Row} (hO : RObjs w ro rl rt n f) (hG : GoodF f n) (h kind : Int) (h0 : 0 ≤ h) (hh : h < 18446744073709551616) {p : Nat} (hp : placeOf f n h = some p) (hk : (f p).kind = kind) {a : Int} (ha : (f p).addr = a) :
    Calls Tryd.prog 17 #[.pointer (some ⟨ro, 0, none⟩), .int .u64 h, .int .i64 kind] w fun e w' => e = .returned (.tuple #[.int .u64 a, .pointer none]) ∧ w = w' := by
  refine (rfind_ok hO hG h kind h0 hh).mono ?_
  rintro e w' ⟨v, rfl, hM⟩
  unfold RFindOut at hM
  rw [hp] at hM
  change if (f p).kind = kind then _ else _ at hM
  rw [if_pos hk] at hM
  subst ha
  exact ⟨congrArg _ hM.1, hM.2⟩
theorem rmake_none {w : World} {ro rl rt n : Nat} {f : Nat → Row} (hO : RObjs w ro rl rt n f) (kind addr : Int) (h1 : 1 ≤ kind) (h6 : kind ≤ 6) (hs : ∀ p, p < n → 0 ≤ (f p).times ∧ (f p).times ≤ 1000000) (hp : freeOf f n = none) :
    Calls Tryd.prog 22 #[.pointer (some ⟨ro, 0, none⟩), .int .i64 kind, .int .u64 addr] w fun e w' => ∃ v, e = .returned (.tuple #[.int .u64 0, v]) ∧ FailOut sObjects 0 3 w v w' := by
  refine (rmake_ok hO kind addr h1 h6 hs).mono ?_
  rintro e w' ⟨v, rfl, hM⟩
  unfold RMakeOut at hM
  rw [hp] at hM
  obtain ⟨x, rfl, h⟩ := hM
  exact ⟨x, rfl, h⟩
theorem rmake_some {w : World} {ro rl rt n : Nat} {f : Nat → Row} (hO : RObjs w ro rl rt n f) (kind addr : Int) (h1 : 1 ≤ kind) (h6 : kind ≤ 6) (hs : ∀ p, p < n → 0 ≤ (f p).times ∧ (f p).times ≤ 1000000) {p : Nat} (hp : freeOf f n = some p) {r : Int} (hr : p + 1 + 64 * (f p).times = r) :
    Calls Tryd.prog 22 #[.pointer (some ⟨ro, 0, none⟩), .int .i64 kind, .int .u64 addr] w fun e w' =>
      e = .returned (.tuple #[.int .u64 r, .pointer none]) ∧ RObjs w' ro rl rt n (fun q => if q = p then givenRow p (f p) kind addr else f q) ∧ Kept [rl, rt] w w' := by
  refine (rmake_ok hO kind addr h1 h6 hs).mono ?_
  rintro e w' ⟨v, rfl, hM⟩
  unfold RMakeOut at hM
  rw [hp] at hM
  obtain ⟨rfl, h⟩ := hM
  subst hr
  exact ⟨rfl, h⟩
/-- Same of what both sides answer when both fail. -/
theorem same_outs {layer : ByteArray} {n k : Int} (hk1 : 1 ≤ k) (hk2 : k ≤ 10) {w0 w1 w2 : World} {v1 v2 : Value} (hg : Laid w0) (h1 : ErrOut layer n k w0 v1 w1) (h2 : FailOut layer n k w1 v2 w2) :
    Calls Tryd.prog 8 #[v1, v2] w2 fun e w' => e = .returned (.bool true) ∧ Kept [] w2 w' := by
  obtain ⟨b, rfl, -, hb, k1⟩ := h1
  obtain ⟨fb, rfl, hf, -, k2⟩ := h2
  exact same_hit b fb layer n k hk1 hk2 w2 ((hg.keptN k1).keptN k2) (hb.keptN k2) hf

set_option maxRecDepth 100000 in
set_option maxHeartbeats 8000000 in
theorem plays_law (most : Int) (a : Option Addr) (len cap : Nat) (g : Nat → Nat → Int) (w : World) (hg : Laid w) (hm0 : -9223372036854775808 ≤ most) (hm1 : most ≤ 9223372036854775807) (hA : IntRows w a len [.i64, .i64, .i64, .u64, .u64] g) :
    Calls Tryd.prog 4 #[.int .i64 most, .slice a len cap] w fun e w' => e = .returned (.bool true) ∧ Kept [] w w' := by
  have HGL := hid hg
  have HAR := hid hA
  have hlen : len ≤ 9223372036854775807 := by have := hA.small; unfold maxLen at this; omega
  clear hg hA
  go_enter Tryd.func4, Tryd.ntmps4
  go_wp2_with fail
  refine (within_ok most 6 (by decide) hm0 hm1 (by decide) _).mono ?_
  rintro e w0 ⟨rfl, rfl⟩
  have hp0 := Int.emod_nonneg most (show (6 : Int) ≠ 0 by decide)
  have hp1 := Int.emod_lt_of_pos most (show (0 : Int) < 6 by decide)
  generalize most % 6 = q0 at *
  go_wp2_with fail
  obtain ⟨n, hnq⟩ : ∃ n : Nat, 1 + q0 = (n : Int) := ⟨(1 + q0).toNat, by omega⟩
  rw [hnq]
  have hn1 : 1 ≤ n := by omega
  have hn6 : n ≤ 64 := by omega
  clear hnq hp0 hp1
  refine (new_ok n hn1 hn6 w).mono ?_
  rintro e w1 ⟨bo, bl, rfl, hbo, hbl, hO, hK⟩
  have HO1 := hid hO
  have HK1 := hid hK
  have hbo1 := hO.head.lt
  have hbl1 := hO.rows.lt
  clear hO hK
  go_wp2_with fail
  refine (rnew_ok n hn1 hn6 w1).mono ?_
  rintro e w2 ⟨ro, rl, rt, rfl, hro, hrl, hrt, hR, hK⟩
  have HR2 := hid hR
  have HK2 := hid hK
  clear hR hK
  go_wp2_with fail
  go_loopw [10] (fun i wr => ∃ k : Nat, k ≤ len ∧ k ≤ 100 ∧ i = .int .i64 k ∧ ∃ f, Both w1 bo bl ro rl rt n k f wr ∧ Kept [] w wr) (fun i _ => len - (intOf i).toNat)
  case atStart => exact ⟨0, Nat.zero_le _, by decide, rfl, fun _ => row0, ⟨HO1.out.keptN HK2.out, HR2.out, fun p _ => by simp [row0], HK2.out.size⟩, HK1.out.trans HK2.out⟩
  case round =>
    obtain ⟨k, hk, hk100, rfl, f, hB, hK⟩ := hrel
    have HB := hid hB
    have HK := hid hK
    clear hB hK
    by_cases hlt : k < len
    · by_cases hlt100 : k < 100
      · obtain ⟨ba, offa, rfl, hba, hca⟩ := HAR.out.cell k hlt
        have hc0 := HK.out.cellSome (hca 0 .i64 rfl) (by simp)
        have hc1 := HK.out.cellSome (hca 1 .i64 rfl) (by simp)
        have hc2 := HK.out.cellSome (hca 2 .i64 rfl) (by simp)
        have hc3 := HK.out.cellSome (hca 3 .u64 rfl) (by simp)
        have hc4 := HK.out.cellSome (hca 4 .u64 rfl) (by simp)
        simp only [List.length_cons, List.length_nil, Nat.zero_add, Nat.add_zero, Nat.reduceAdd] at hc0 hc1 hc2 hc3 hc4
        obtain ⟨b00, b01⟩ := bounds_i64 (HAR.out.wf k 0 .i64 hlt rfl)
        obtain ⟨b10, b11⟩ := bounds_i64 (HAR.out.wf k 1 .i64 hlt rfl)
        obtain ⟨b20, b21⟩ := bounds_i64 (HAR.out.wf k 2 .i64 hlt rfl)
        obtain ⟨b30, b31⟩ := bounds_u64 (HAR.out.wf k 3 .u64 hlt rfl)
        obtain ⟨b40, b41⟩ := bounds_u64 (HAR.out.wf k 4 .u64 hlt rfl)
        generalize g k 0 = x0 at *
        generalize g k 1 = x1 at *
        generalize g k 2 = x2 at *
        generalize g k 3 = x3 at *
        generalize g k 4 = x4 at *
        clear hca
        go_wp2_with fail
        refine (rAll_ok (w := World.alloc wr _) (HB.out.ref.keptN ((Kept.refl [] wr).alloc _))).mono ?_
        rintro e w3 ⟨vl, rfl, hV, hK⟩
        have hX := (Blk.newA (w := wr) #[.int .i64 x0, .int .i64 x1, .int .i64 x2, .int .u64 x3, .int .u64 x4] 43 rfl).keptN hK
        have d0 := hX.cell (o := 0) rfl
        have d1 := hX.cell (o := 1) rfl
        have d2 := hX.cell (o := 2) rfl
        have d3 := hX.cell (o := 3) rfl
        have d4 := hX.cell (o := 4) rfl
        have HX := hid hX
        have HV := hid hV
        have HK3 := hid (((Kept.refl [] wr).alloc _).trans hK)
        have HB3 := hid (HB.out.keptN HK3.out)
        obtain ⟨aV, cV, rfl⟩ := own_form' HV.out
        have hnl := aliveR_length_le f n
        obtain ⟨nl, hnle⟩ : ∃ nl, (aliveR f n).length = nl := ⟨_, rfl⟩
        rw [hnle] at HV hnl ⊢
        have HNL := hid hnle
        clear hX hV hK hc0 hc1 hc2 hc3 hc4 hnle
        go_upto_region 12 with fail
        go_cut [67] (fun s67 wx => s67 = .bool (decide (0 ≤ x1 ∧ 0 < nl)) ∧ w3 = wx)
        case first =>
          by_cases hx1 : 0 ≤ x1
          · by_cases hnl0 : 0 < nl
            · go_wp2_with fail
              go_meet
              exact ⟨congrArg Value.bool (decide_eq_true (p := 0 ≤ x1 ∧ 0 < nl) ⟨hx1, hnl0⟩).symm, rfl⟩
            · go_wp2_with fail
              go_meet
              exact ⟨congrArg Value.bool (decide_eq_false (p := 0 ≤ x1 ∧ 0 < nl) (fun h => hnl0 h.2)).symm, rfl⟩
          · go_wp2_with fail
            go_meet
            exact ⟨congrArg Value.bool (decide_eq_false (p := 0 ≤ x1 ∧ 0 < nl) (fun h => absurd h.1 (by omega))).symm, rfl⟩
        case rest =>
          obtain ⟨rfl, rfl⟩ := hcut
          go_upto_if 67 with fail
          go_cut [12] (fun s12 wx => ∃ hv : Int, 0 ≤ hv ∧ hv < 18446744073709551616 ∧ s12 = .int .u64 hv ∧ w3 = wx)
          case first =>
            by_cases hcond : 0 ≤ x1 ∧ 0 < nl
            · have HCD := hid hcond
              have hnl0 : 0 < nl := hcond.2
              have hx10 : 0 ≤ x1 := hcond.1
              rw [decide_eq_true hcond]
              obtain ⟨qq, hqq⟩ : ∃ qq : Nat, x1.tmod (nl : Int) = (qq : Int) := ⟨(x1.tmod (nl : Int)).toNat, by
                have := Int.tmod_eq_emod_of_nonneg hx10 (b := (nl : Int))
                have := Int.emod_nonneg x1 (show (nl : Int) ≠ 0 by omega)
                omega⟩
              have hqn : qq < nl := by
                have := Int.tmod_eq_emod_of_nonneg hx10 (b := (nl : Int))
                have := Int.emod_lt_of_pos x1 (show (0 : Int) < (nl : Int) by omega)
                omega
              obtain ⟨r, hr⟩ : ∃ r, (aliveR f n)[qq]? = some r := ⟨_, List.getElem?_eq_getElem (by rw [HNL.out]; exact hqn)⟩
              obtain ⟨gV, eV, dV⟩ : ∃ gV, aV = some ⟨gV, 0, none⟩ ∧ w3.cell? ⟨gV, qq * 3, none⟩ = some (.int .u64 r.handle) := by
                obtain ⟨l', rfl⟩ : ∃ l', nl = l' + 1 := ⟨nl - 1, by omega⟩
                obtain ⟨gV, c, e1, -⟩ := own_form HV.out
                cases e1
                exact ⟨gV, rfl, own_cell HV.out (objsV_get _ _ _ hr).1⟩
              subst eV
              have hrb : 0 ≤ r.handle ∧ r.handle < 18446744073709551616 := by
                have hm := List.mem_of_getElem? hr
                simp only [aliveR, List.mem_map, List.mem_filter, List.mem_range] at hm
                obtain ⟨p, ⟨hp, -⟩, rfl⟩ := hm
                have := HB3.out.rows p hp
                omega
              have HRB := hid hrb
              clear hr hcond hrb
              go_wp2_with fail
              go_meet
              exact ⟨r.handle, HRB.out.1, HRB.out.2, rfl, rfl⟩
            · have HCD := hid hcond
              rw [decide_eq_false hcond]
              clear hcond
              go_wp2_with fail
              go_meet
              exact ⟨x3, by omega, by omega, rfl, rfl⟩
          case rest =>
            obtain ⟨hv, hv0, hv1, rfl, rfl⟩ := hcut
            go_wp2_with fail
            refine (within_ok x0 7 (by decide) b00 b01 (by decide) _).mono ?_
            rintro e w4 ⟨rfl, rfl⟩
            have hz0 := Int.emod_nonneg x0 (show (7 : Int) ≠ 0 by decide)
            have hz1 := Int.emod_lt_of_pos x0 (show (0 : Int) < 7 by decide)
            generalize x0 % 7 = dd at *
            have HKw := hid (HK.out.trans HK3.out)
            have HG3 := hid (HGL.out.keptN HKw.out)
            go_upto_block 2 with fail
            go_cut [14] (fun s14 wx => s14 = .bool true ∧ ∃ f', Both w1 bo bl ro rl rt n (k + 1) f' wx ∧ Kept [] w wx)
            case first =>
              by_cases e3 : dd = 3
              · subst e3
                cases hp : placeOf f n hv with
                | none =>
                  have HP := hid hp
                  clear hp
                  go_wp2_with fail
                  refine (find_none HB3.out.objs hv x2 hv0 hv1 HP.out).mono ?_
                  rintro e w4 ⟨v1, rfl, hE⟩
                  have HE := hid hE
                  have HK4 := hid (show Kept [] w3 w4 by obtain ⟨_, _, _, _, h⟩ := hE; exact h)
                  clear hE
                  have d2' := HK4.out.cellSome d2 (by simp)
                  have d4' := HK4.out.cellSome d4 (by simp)
                  clear d0 d1 d2 d3 d4
                  go_wp2_with fail
                  refine (rfind_none (HB3.out.ref.keptN HK4.out) HB3.out.good hv x2 hv0 hv1 HP.out).mono ?_
                  rintro e w5 ⟨v2, rfl, hE⟩
                  have HE2 := hid hE
                  have HK5 := hid (show Kept [] w4 w5 by obtain ⟨_, _, _, _, h⟩ := hE; exact h)
                  clear hE
                  go_wp2_with fail
                  refine (same_outs (by decide) (by decide) HG3.out HE.out HE2.out).mono ?_
                  rintro e w6 ⟨rfl, hK6⟩
                  have HK6 := hid hK6
                  clear hK6
                  go_wp2_with fail
                  go_meet
                  exact ⟨rfl, f, (((HB3.out.keptN HK4.out).keptN HK5.out).keptN HK6.out).mono, ((HKw.out.trans HK4.out).trans HK5.out).trans HK6.out⟩
                | some p =>
                  have HP := hid hp
                  clear hp
                  by_cases hkd : (f p).kind = x2
                  · have HKD := hid hkd
                    clear hkd
                    go_wp2_with fail
                    refine (find_some HB3.out.objs hv x2 hv0 hv1 HP.out HKD.out (a := (f p).addr) rfl).mono ?_
                    rintro e w4 ⟨rfl, rfl⟩
                    go_wp2_with fail
                    refine (rfind_some HB3.out.ref HB3.out.good hv x2 hv0 hv1 HP.out HKD.out (a := (f p).addr) rfl).mono ?_
                    rintro e w4 ⟨rfl, rfl⟩
                    go_wp2_with fail
                    refine (same_nil_nil _).mono ?_
                    rintro e w4 ⟨rfl, rfl⟩
                    go_wp2_with fail
                    go_meet
                    exact ⟨rfl, f, HB3.out.mono, HKw.out⟩
                  · have HKD := hid hkd
                    clear hkd
                    go_wp2_with fail
                    refine (find_other HB3.out.objs hv x2 hv0 hv1 HP.out HKD.out).mono ?_
                    rintro e w4 ⟨v1, rfl, hE⟩
                    have HE := hid hE
                    have HK4 := hid (show Kept [] w3 w4 by obtain ⟨_, _, _, _, h⟩ := hE; exact h)
                    clear hE
                    have d2' := HK4.out.cellSome d2 (by simp)
                    have d4' := HK4.out.cellSome d4 (by simp)
                    clear d0 d1 d2 d3 d4
                    go_wp2_with fail
                    refine (rfind_other (HB3.out.ref.keptN HK4.out) HB3.out.good hv x2 hv0 hv1 HP.out HKD.out).mono ?_
                    rintro e w5 ⟨v2, rfl, hE⟩
                    have HE2 := hid hE
                    have HK5 := hid (show Kept [] w4 w5 by obtain ⟨_, _, _, _, h⟩ := hE; exact h)
                    clear hE
                    go_wp2_with fail
                    refine (same_outs (by decide) (by decide) HG3.out HE.out HE2.out).mono ?_
                    rintro e w6 ⟨rfl, hK6⟩
                    have HK6 := hid hK6
                    clear hK6
                    go_wp2_with fail
                    go_meet
                    exact ⟨rfl, f, (((HB3.out.keptN HK4.out).keptN HK5.out).keptN HK6.out).mono, ((HKw.out.trans HK4.out).trans HK5.out).trans HK6.out⟩
              · have hd3 : (dd == 3) = false := by simpa using e3
                by_cases e4 : dd = 4 ∨ dd = 5
                · have HE4 := hid e4
                  rcases e4 with e4 | e4
                  all_goals
                    subst e4
                    cases hp : placeOf f n hv with
                    | none =>
                      have HP := hid hp
                      clear hp
                      go_wp2_with fail
                      refine (gone_none' HB3.out.objs hv hv0 hv1 HP.out).mono ?_
                      rintro e w4 ⟨v1, rfl, hE⟩
                      have HE := hid hE
                      have HK4 := hid (show Kept [] w3 w4 by obtain ⟨_, _, _, _, h⟩ := hE; exact h)
                      clear hE
                      have d2' := HK4.out.cellSome d2 (by simp)
                      have d4' := HK4.out.cellSome d4 (by simp)
                      clear d0 d1 d2 d3 d4
                      go_wp2_with fail
                      refine (rgone_none (HB3.out.ref.keptN HK4.out) HB3.out.good hv hv0 hv1 HP.out).mono ?_
                      rintro e w5 ⟨v2, rfl, hE⟩
                      have HE2 := hid hE
                      have HK5 := hid (show Kept [] w4 w5 by obtain ⟨_, _, _, _, h⟩ := hE; exact h)
                      clear hE
                      go_wp2_with fail
                      refine (same_outs (by decide) (by decide) HG3.out HE.out HE2.out).mono ?_
                      rintro e w6 ⟨rfl, hK6⟩
                      have HK6 := hid hK6
                      clear hK6
                      go_wp2_with fail
                      go_meet
                      exact ⟨rfl, f, (((HB3.out.keptN HK4.out).keptN HK5.out).keptN HK6.out).mono, ((HKw.out.trans HK4.out).trans HK5.out).trans HK6.out⟩
                    | some p =>
                      have HP := hid hp
                      clear hp
                      go_wp2_with fail
                      refine (gone_some HB3.out.objs hv hv0 hv1 HP.out).mono ?_
                      rintro e w4 ⟨rfl, hO, hK⟩
                      have HO4 := hid hO
                      have HK4 := hid hK
                      clear hO hK
                      go_wp2_with fail
                      refine (rgone_some (HB3.out.refKept hbl1 hro hrl hrt HK4.out) HB3.out.good hv hv0 hv1 HP.out).mono ?_
                      rintro e w5 ⟨rfl, hO, hK⟩
                      have HO5 := hid hO
                      have HK5 := hid hK
                      clear hO hK
                      go_wp2_with fail
                      refine (same_nil_nil _).mono ?_
                      rintro e w6 ⟨rfl, rfl⟩
                      go_wp2_with fail
                      go_meet
                      exact ⟨rfl, _, HB3.out.step hbo1 hbl1 hrl hrt HO4.out HK4.out HO5.out HK5.out HB3.out.went, (HKw.out.trans' HK4.out (fun x hx => .inr (by rw [List.mem_singleton.1 hx]; exact hbl))).trans' HK5.out (fun x hx => .inr (by have := HK1.out.size; simp at hx; omega))⟩
                · have hd4 : (dd == 4) = false := by simpa using (fun h => e4 (.inl h))
                  have hd5 : (dd == 5) = false := by simpa using (fun h => e4 (.inr h))
                  clear e4
                  by_cases e6 : dd = 6
                  · subst e6
                    go_wp2_with fail
                    refine (kind_ok HB3.out.objs hv hv0 hv1).mono ?_
                    rintro e w4 ⟨rfl, rfl⟩
                    go_wp2_with fail
                    refine (rkind_ok HB3.out.ref HB3.out.good hv hv0 hv1).mono ?_
                    rintro e w4 ⟨rfl, rfl⟩
                    go_wp2_with fail
                    go_meet
                    exact ⟨rfl, f, HB3.out.mono, HKw.out⟩
                  · have hd6 : (dd == 6) = false := by simpa using e6
                    have HE3 := hid e3
                    have HE6 := hid e6
                    clear e3 e6
                    by_cases hbad : x2 < 1 ∨ 6 < x2
                    · have HBAD := hid hbad
                      clear hbad
                      go_wp2_with fail
                      refine (make_bad bo x2 x4 HBAD.out _).mono ?_
                      rintro e w4 ⟨v1, rfl, hE⟩
                      have HE := hid hE
                      have HK4 := hid (show Kept [] w3 w4 by obtain ⟨_, _, _, _, h⟩ := hE; exact h)
                      clear hE
                      have d2' := HK4.out.cellSome d2 (by simp)
                      have d4' := HK4.out.cellSome d4 (by simp)
                      clear d0 d1 d2 d3 d4
                      go_wp2_with fail
                      refine (rmake_bad ro x2 x4 HBAD.out _).mono ?_
                      rintro e w5 ⟨v2, rfl, hE⟩
                      have HE2 := hid hE
                      have HK5 := hid (show Kept [] w4 w5 by obtain ⟨_, _, _, _, h⟩ := hE; exact h)
                      clear hE
                      go_wp2_with fail
                      refine (same_outs (by decide) (by decide) HG3.out HE.out HE2.out).mono ?_
                      rintro e w6 ⟨rfl, hK6⟩
                      have HK6 := hid hK6
                      clear hK6
                      go_wp2_with fail
                      go_meet
                      exact ⟨rfl, f, (((HB3.out.keptN HK4.out).keptN HK5.out).keptN HK6.out).mono, ((HKw.out.trans HK4.out).trans HK5.out).trans HK6.out⟩
                    · have hk1 : 1 ≤ x2 := by omega
                      have hk6 : x2 ≤ 6 := by omega
                      clear hbad
                      have HT := hid (fun q (hq : q < n) => (show 0 ≤ (f q).times ∧ (f q).times ≤ 1000000 from ⟨(HB3.out.rows q hq).1, by have := (HB3.out.rows q hq).2.1; omega⟩))
                      cases hfree : freeOf f n with
                      | none =>
                        have HFR := hid hfree
                        clear hfree
                        go_wp2_with fail
                        refine (make_none HB3.out.objs x2 x4 hk1 hk6 HT.out HFR.out).mono ?_
                        rintro e w4 ⟨v1, rfl, hE⟩
                        have HE := hid hE
                        have HK4 := hid (show Kept [] w3 w4 by obtain ⟨_, _, _, _, h⟩ := hE; exact h)
                        clear hE
                        have d2' := HK4.out.cellSome d2 (by simp)
                        have d4' := HK4.out.cellSome d4 (by simp)
                        clear d0 d1 d2 d3 d4
                        go_wp2_with fail
                        refine (rmake_none (HB3.out.ref.keptN HK4.out) x2 x4 hk1 hk6 HT.out HFR.out).mono ?_
                        rintro e w5 ⟨v2, rfl, hE⟩
                        have HE2 := hid hE
                        have HK5 := hid (show Kept [] w4 w5 by obtain ⟨_, _, _, _, h⟩ := hE; exact h)
                        clear hE
                        go_wp2_with fail
                        refine (same_outs (by decide) (by decide) HG3.out HE.out HE2.out).mono ?_
                        rintro e w6 ⟨rfl, hK6⟩
                        have HK6 := hid hK6
                        clear hK6
                        go_wp2_with fail
                        go_meet
                        exact ⟨rfl, f, (((HB3.out.keptN HK4.out).keptN HK5.out).keptN HK6.out).mono, ((HKw.out.trans HK4.out).trans HK5.out).trans HK6.out⟩
                      | some p =>
                        have HFR := hid hfree
                        obtain ⟨hpn, -⟩ := freeOf_lt hfree
                        obtain ⟨r, hr⟩ : ∃ r, (p : Int) + 1 + 64 * (f p).times = r := ⟨_, rfl⟩
                        have HRR := hid hr
                        clear hfree hr
                        go_wp2_with fail
                        refine (make_some HB3.out.objs x2 x4 hk1 hk6 HT.out HFR.out HRR.out).mono ?_
                        rintro e w4 ⟨rfl, hO, hK⟩
                        have HO4 := hid hO
                        have HK4 := hid hK
                        have HB4 := hid (HB3.out.refKept hbl1 hro hrl hrt hK)
                        have hsz := HB3.out.size
                        have hlx := HX.out.lt
                        have hbx : wr.heap.size ∉ [bl] := by have := HB.out.size; simp; omega
                        clear hO hK
                        have d2' := HK4.out.cellSome d2 hbx
                        have d4' := HK4.out.cellSome d4 hbx
                        clear d0 d1 d2 d3 d4
                        go_wp2_with fail
                        refine (rmake_some HB4.out x2 x4 hk1 hk6 HT.out HFR.out HRR.out).mono ?_
                        rintro e w5 ⟨rfl, hO, hK⟩
                        have HO5 := hid hO
                        have HK5 := hid hK
                        clear hO hK
                        go_wp2_with fail
                        refine (same_nil_nil _).mono ?_
                        rintro e w6 ⟨rfl, rfl⟩
                        go_wp2_with fail
                        go_meet
                        exact ⟨rfl, _, HB3.out.step hbo1 hbl1 hrl hrt HO4.out HK4.out HO5.out HK5.out (HB3.out.made hn6 hpn x2 x4), (HKw.out.trans' HK4.out (fun x hx => .inr (by rw [List.mem_singleton.1 hx]; exact hbl))).trans' HK5.out (fun x hx => .inr (by have := HK1.out.size; simp at hx; omega))⟩
            case rest =>
              obtain ⟨rfl, f5, hB, hK⟩ := hcut
              have HB5 := hid hB
              have HK5 := hid hK
              have hnl5 := alive_length_le f5 n
              have htake := hid (show (alive f5 n).take (1000 : Int).toNat = (aliveR f5 n).map (fun r => (r.handle, r.addr)) by rw [List.take_of_length_le (by have : (1000 : Int).toNat = 1000 := rfl; omega), alive_aliveR])
              obtain ⟨nl5, hnl5'⟩ : ∃ nl5, (aliveR f5 n).length = nl5 := ⟨_, rfl⟩
              have HNL5 := hid hnl5'
              have hle5 := aliveR_length_le f5 n
              rw [hnl5'] at hle5
              clear hB hK hnl5' hnl5
              go_wp2_with fail
              refine (all_ok HB5.out.objs hn1 1000 (by decide)).mono ?_
              rintro e w6 ⟨v6, rfl, hV6, hK6⟩
              rw [htake.out, List.length_map, HNL5.out] at hV6
              have HV6 := hid hV6
              have HK6 := hid hK6
              clear hV6 hK6
              go_wp2_with fail
              refine (rAll_ok (HB5.out.ref.keptN HK6.out)).mono ?_
              rintro e w7 ⟨v7, rfl, hV7, hK7⟩
              rw [HNL5.out] at hV7
              have HV7 := hid hV7
              have HK7 := hid hK7
              clear hV7 hK7
              go_wp2_with fail
              refine (lsame_ok (aliveR f5 n) nl5 HNL5.out (by omega) (own_keptN HV6.out HK7.out) HV7.out).mono ?_
              rintro e w8 ⟨rfl, hK8⟩
              have HK8 := hid hK8
              clear hK8
              go_wp2_with fail
              refine (len_ok (HB5.out.objs.keptN ((HK6.out.trans HK7.out).trans HK8.out)) hn1).mono ?_
              rintro e w9 ⟨rfl, hK9⟩
              have HK9 := hid hK9
              have hal := hid (show (alive f5 n).length = nl5 by rw [alive_aliveR, List.length_map]; exact HNL5.out)
              rw [hal.out]
              clear hK9 hal
              go_wp2_with fail
              have HKs := hid (((HK6.out.trans HK7.out).trans HK8.out).trans HK9.out)
              refine (rAll_ok (HB5.out.ref.keptN HKs.out)).mono ?_
              rintro e w10 ⟨v10, rfl, hV10, hK10⟩
              rw [HNL5.out] at hV10
              obtain ⟨a10, c10, rfl⟩ := own_form' hV10
              have HK10 := hid hK10
              clear hV10 hK10
              go_wp2_with fail
              go_roundw
              case rel => exact ⟨k + 1, by omega, by omega, by go_num, f5, HB5.out.keptN (HKs.out.trans HK10.out), (HK5.out.trans HKs.out).trans HK10.out⟩
              case measure => simp [intOf]; omega
      · obtain rfl : k = 100 := by omega
        go_wp2_with fail
        refine (awake_ok _).mono ?_
        rintro e w6 ⟨rfl, hK6⟩
        have HK6 := hid hK6
        clear hK6
        go_wp2_with fail
        go_ret
        exact ⟨rfl, HK.out.trans HK6.out⟩
    · go_wp2_with fail
      refine (awake_ok _).mono ?_
      rintro e w6 ⟨rfl, hK6⟩
      have HK6 := hid hK6
      clear hK6
      go_wp2_with fail
      go_ret
      exact ⟨rfl, HK.out.trans HK6.out⟩


end Go.Proofs.YtecagnhffgajhaaDoor
