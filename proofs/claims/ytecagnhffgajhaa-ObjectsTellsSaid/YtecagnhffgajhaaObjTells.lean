/- package objects: the document's example; the law ObjectsTells. -/
import Derived.Test.YtecagnhffgajhaaObjLen
import Derived.IntWalk
import Derived.Deep.DeepMust
import Derived.Deep.QuietTactic
import Derived.BigQuiet
namespace Go.Proofs.Ytecagnhffgajhaa
open Go Go.RowKit

theorem make_some {w : World} {bo bl n : Nat} {f : Nat → Row} (hO : Objs w bo bl n f) (kind addr : Int) (h1 : 1 ≤ kind) (h6 : kind ≤ 6) (hs : ∀ p, p < n → 0 ≤ (f p).times ∧ (f p).times ≤ 1000000) {p : Nat} (hp : freeOf f n = some p) {r : Int} (hr : p + 1 + 64 * (f p).times = r) :
    Calls Try.prog 5 #[.pointer (some ⟨bo, 0, none⟩), .int .i64 kind, .int .u64 addr] w fun e w' =>
      e = .returned (.tuple #[.int .u64 r, .nilIface]) ∧ Objs w' bo bl n (fun q => if q = p then givenRow p (f p) kind addr else f q) ∧ Kept [bl] w w' := by
  refine (make_ok hO kind addr h1 h6 hs).mono ?_
  rintro e w' ⟨v, rfl, hM⟩
  unfold MakeOut at hM
  rw [hp] at hM
  obtain ⟨rfl, h⟩ := hM
  subst hr
  exact ⟨rfl, h⟩

theorem gone_some {w : World} {bo bl n : Nat} {f : Nat → Row} (hO : Objs w bo bl n f) (h : Int) (h0 : 0 ≤ h) (hh : h < 18446744073709551616) {p : Nat} (hp : placeOf f n h = some p) :
    Calls Try.prog 6 #[.pointer (some ⟨bo, 0, none⟩), .int .u64 h] w fun e w' => e = .returned .nilIface ∧ Objs w' bo bl n (fun q => if q = p then goneRow (f p) else f q) ∧ Kept [bl] w w' := by
  refine (gone_ok hO h h0 hh).mono ?_
  rintro e w' ⟨v, rfl, hM⟩
  unfold GoneOut at hM
  rw [hp] at hM
  obtain ⟨rfl, h⟩ := hM
  exact ⟨rfl, h⟩

set_option maxRecDepth 100000 in
set_option maxHeartbeats 4000000 in
theorem awake_ok (w : World) : Calls Try.prog 10 #[] w fun e w' => e = .returned (.bool true) ∧ Kept [] w w' := by
  go_enter Try.func10, Try.ntmps10
  go_wp2_with fail
  refine (new_ok 5 (by decide) (by decide) w).mono ?_
  rintro e w1 ⟨bo, bl, rfl, hbo, hbl, hO, hK⟩
  have HO := hid hO
  have HK := hid hK
  clear hO hK
  go_wp2_with fail
  refine (make_some HO.out 1 50 (by decide) (by decide) (by intro p hp; simp [row0]) (p := 0) rfl (r := 1) rfl).mono ?_
  rintro e w2 ⟨rfl, hO, hK⟩
  have HO2 := hid hO
  have HK2 := hid hK
  clear hO hK
  go_wp2_with fail
  refine (make_some HO2.out 2 60 (by decide) (by decide) (by intro p hp; split <;> simp [row0, givenRow]) (p := 1) rfl (r := 2) rfl).mono ?_
  rintro e w3 ⟨rfl, hO, hK⟩
  have HO3 := hid hO
  have HK3 := hid hK
  clear hO hK
  go_wp2_with fail
  refine (gone_some HO3.out 1 (by decide) (by decide) (p := 0) rfl).mono ?_
  rintro e w4 ⟨rfl, hO, hK⟩
  have HO4 := hid hO
  have HK4 := hid hK
  clear hO hK
  go_wp2_with fail
  refine (make_some HO4.out 3 70 (by decide) (by decide) (by intro p hp; repeat' split; all_goals simp [row0, givenRow, goneRow]) (p := 0) rfl (r := 65) rfl).mono ?_
  rintro e w5 ⟨rfl, hO, hK⟩
  have HO5 := hid hO
  have HK5 := hid hK
  clear hO hK
  go_wp2_with fail
  refine (len_ok HO5.out (by decide)).mono ?_
  rintro e w6 ⟨rfl, hK⟩
  have HK6 := hid hK
  clear hK
  rw [show (alive _ 5).length = 2 from rfl]
  go_wp2_with fail
  go_ret
  refine ⟨rfl, ?_⟩
  exact (((((HK.out.trans' HK2.out (by simp; omega)).trans' HK3.out (by simp; omega)).trans' HK4.out (by simp; omega)).trans' HK5.out (by simp; omega)).trans HK6.out)

theorem Objs.congr {w : World} {bo bl n : Nat} {f f' : Nat → Row} (h : Objs w bo bl n f) (e : ∀ p, p < n → f p = f' p) : Objs w bo bl n f' :=
  ⟨h.head, h.rows.eq (rowsOf_congr fun p j hp _ => by rw [e p hp]), h.small, h.ne⟩

theorem info_u64 : (Try.prog.info? 29).map (fun i => (i.zero, i.size, i.bytes)) = some (some (.int .u64 0), 1, 8) := by kernel_rfl

/-- Rows behind k makes. -/
def madeF (k : Nat) (p : Nat) : Row := if p < k then ⟨1, p + 1, 3, p⟩ else row0
theorem madeF_free {k : Nat} (hk : k < 20) : freeOf (madeF k) 20 = some k :=
  freeOf_some hk (by simp [madeF, row0]) (fun q hq => by simp [madeF, hq]; omega)
theorem madeF_succ (k : Nat) (p : Nat) : (if p = k then givenRow k (madeF k k) 3 k else madeF k p) = madeF (k + 1) p := by
  by_cases e : p = k
  · subst e; simp [madeF, givenRow, row0]
  · have : p < k ↔ p < k + 1 := by omega
    simp [madeF, e, this]
/-- Rows behind k further places gone through. -/
def goneF (fl : Nat → Bool) (k : Nat) (p : Nat) : Row := if p < k ∧ fl p = true then ⟨1, 0, 0, 0⟩ else ⟨1, p + 1, 3, p⟩
theorem goneF_place {fl : Nat → Bool} {k : Nat} (hk : k < 20) : placeOf (goneF fl k) 20 ((k : Int) + 1) = some k := by
  have h1 : (((k : Int) + 1 - 1) % 64).toNat = k := by omega
  have h2 : (goneF fl k k).handle = (k : Int) + 1 := by simp [goneF]
  unfold placeOf
  rw [if_neg (by omega), h1, if_pos ⟨hk, h2⟩]
theorem goneF_succ_yes {fl : Nat → Bool} {k : Nat} (h : fl k = true) (p : Nat) : (if p = k then goneRow (goneF fl k k) else goneF fl k p) = goneF fl (k + 1) p := by
  by_cases e : p = k
  · subst e; simp [goneF, goneRow, h]
  · have : p < k ↔ p < k + 1 := by omega
    simp [goneF, e, this]
theorem goneF_succ_no {fl : Nat → Bool} {k : Nat} (h : fl k = false) (p : Nat) : goneF fl k p = goneF fl (k + 1) p := by
  by_cases e : p = k
  · subst e; simp [goneF, h]
  · have : p < k ↔ p < k + 1 := by omega
    simp [goneF, this]
/-- Who stays, among the first k. -/
def stays (fl : Nat → Bool) (k : Nat) : List Nat := (List.range k).filter fun i => !fl i
theorem stays_succ_yes {fl : Nat → Bool} {k : Nat} (h : fl k = true) : stays fl (k + 1) = stays fl k := by simp [stays, List.range_succ, List.filter_append, h]
theorem stays_succ_no {fl : Nat → Bool} {k : Nat} (h : fl k = false) : stays fl (k + 1) = stays fl k ++ [k] := by simp [stays, List.range_succ, List.filter_append, h]
theorem stays_le (fl : Nat → Bool) (k : Nat) : (stays fl k).length ≤ k := Nat.le_trans (List.length_filter_le _ _) (by simp)
def wantV (fl : Nat → Bool) (k : Nat) : List Value := (stays fl k).map fun i : Nat => .int .u64 ((i : Int) + 1)
theorem wantV_snoc {fl : Nat → Bool} {k : Nat} (h : fl k = false) : wantV fl (k + 1) = wantV fl k ++ [.int .u64 ((k : Int) + 1)] := by simp [wantV, stays_succ_no h]
theorem alive_goneF (fl : Nat → Bool) : alive (goneF fl 20) 20 = (stays fl 20).map fun i : Nat => ((i : Int) + 1, (i : Int)) := by
  have : ∀ k, k ≤ 20 → alive (goneF fl 20) k = (stays fl k).map fun i : Nat => ((i : Int) + 1, (i : Int)) := by
    intro k
    induction k with
    | zero => intro _; rfl
    | succ k ih =>
      intro hk
      have h20 : k < 20 := by omega
      cases hf : fl k with
      | true => rw [alive_succ_no (by simp [goneF, hf, h20]), stays_succ_yes hf, ih (by omega)]
      | false => rw [alive_succ_yes (by simp [goneF, hf]; omega), stays_succ_no hf, ih (by omega)]; simp [goneF, hf]
  exact this 20 (Nat.le_refl _)

theorem pairsV_get (l : List (Int × Int)) : ∀ (k : Nat) (x : Int × Int), l[k]? = some x → (pairsV l)[k * 2]? = some (.int .u64 x.1) ∧ (pairsV l)[k * 2 + 1]? = some (.int .u64 x.2) := by
  induction l with
  | nil => intro k x h; simp at h
  | cons y l ih =>
    intro k x h
    cases k with
    | zero =>
      simp at h
      subst h
      exact ⟨rfl, rfl⟩
    | succ k =>
      have h' : l[k]? = some x := by simpa using h
      obtain ⟨h1, h2⟩ := ih k x h'
      have e : pairsV (y :: l) = .int .u64 y.1 :: .int .u64 y.2 :: pairsV l := rfl
      rw [e]
      constructor
      · rw [show (k + 1) * 2 = k * 2 + 1 + 1 by omega, List.getElem?_cons_succ, List.getElem?_cons_succ]; exact h1
      · rw [show (k + 1) * 2 + 1 = k * 2 + 1 + 1 + 1 by omega, List.getElem?_cons_succ, List.getElem?_cons_succ]; exact h2

/-- The argument: a slice of bools. -/
def Bools (w : World) (a : Option Addr) (len : Nat) (g : Nat → Bool) : Prop := ∀ i, i < len → ∃ b off, a = some ⟨b, off, none⟩ ∧ w.cell? ⟨b, off + i, none⟩ = some (.bool (g i))
theorem Bools.kept {w w' : World} {a : Option Addr} {len : Nat} {g : Nat → Bool} (h : Bools w a len g) (k : Kept [] w w') : Bools w' a len g := fun i hi => by
  obtain ⟨b, off, e, hc⟩ := h i hi
  exact ⟨b, off, e, k.cellSome hc (by simp)⟩

set_option maxRecDepth 100000 in
set_option maxHeartbeats 4000000 in
theorem tells_law (a : Option Addr) (len cap : Nat) (g : Nat → Bool) (most : Int) (w : World) (hB : Bools w a len g) (hm0 : -9223372036854775808 ≤ most) (hm1 : most ≤ 9223372036854775807) (_hlen : len ≤ 9223372036854775807) :
    Calls Try.prog 3 #[.slice a len cap, .int .i64 most] w fun e w' => e = .returned (.bool true) ∧ Kept [] w w' := by
  obtain ⟨i0, hi, hz0, hz1, hz2⟩ := info_parts info_u64
  have HB := hid hB
  obtain ⟨fl, hfl⟩ : ∃ fl : Nat → Bool, fl = fun i => decide (i < len) && g i := ⟨_, rfl⟩
  have HFL := hid hfl
  clear hfl
  clear hB
  go_enter Try.func3, Try.ntmps3
  go_wp2_with fail
  refine (new_ok 20 (by decide) (by decide) w).mono ?_
  rintro e w1 ⟨bo, bl, rfl, hbo, hbl, hO, hK⟩
  have hbo1 := hO.head.lt
  have hbl1 := hO.rows.lt
  have HO := hid (hO.congr (f' := madeF 0) (fun p _ => by simp [madeF]))
  have HK := hid hK
  clear hO hK
  go_wp2_with fail
  go_loopw [7, 8] (fun v i wr => ∃ k : Nat, k ≤ 20 ∧ i = .int .i64 k ∧ Objs wr bo bl 20 (madeF k) ∧ wr.ownsRow w1.heap.size 29 1 v (stays fl k).length (wantV fl k) ∧ w1.heap.size ≤ wr.heap.size ∧ Kept [] w wr) (fun _ i _ => 20 - (intOf i).toNat)
  case atStart => exact ⟨0, by decide, rfl, HO.out, ⟨rfl, .inl ⟨rfl, rfl⟩⟩, Nat.le_refl _, HK.out⟩
  case round =>
    obtain ⟨k, hk, rfl, hO, hW, hsz, hK⟩ := hrel
    have HO2 := hid hO
    have HW2 := hid hW
    have HK2 := hid hK
    clear hO hW hK
    by_cases hlt : k < 20
    · go_wp2_with fail
      refine (make_some HO2.out 3 k (by decide) (by decide) (by intro p hp; unfold madeF; split <;> simp [row0]) (p := k) (madeF_free hlt) (r := (k : Int) + 1) (by simp [madeF, row0])).mono ?_
      rintro e w2 ⟨rfl, hO, hK⟩
      have HO3 := hid (hO.congr (fun p _ => madeF_succ k p))
      have HK3 := hid hK
      clear hO hK
      by_cases hlen2 : k < len
      · obtain ⟨b, off, rfl, hc⟩ := (HB.out.kept (HK2.out.trans' HK3.out (by simp; omega))) k hlen2
        cases hg : g k with
        | true =>
          rw [hg] at hc
          have HG := hid (show fl k = true by rw [HFL.out]; simp [hlen2, hg])
          clear hg
          go_wp2_with fail
          go_roundw
          case rel => exact ⟨k + 1, by omega, by go_num, HO3.out, by rw [stays_succ_yes HG.out, wantV, stays_succ_yes HG.out]; exact own_kept HW2.out HK3.out (fun b hb => by have := own_ge HW2.out b hb; simp; omega), Nat.le_trans hsz HK3.out.size, HK2.out.trans' HK3.out (by simp; omega)⟩
          case measure => simp [intOf]; omega
        | false =>
          rw [hg] at hc
          have HG := hid (show fl k = false by rw [HFL.out]; simp [hg])
          clear hg
          go_wp2_with (at_builtin; go_must (refine wp_app1 rfl _ _ 28 29 rfl Try.underlying28 info_u64 rfl (Nat.lt_succ_self 0) w1.heap.size u7 (stays fl k).length (wantV fl k) rfl ?c1 w2.heap.size 1 [.int .u64 ((k : Int) + 1)] rfl rfl (Blk.newA _ _ rfl) ?c2 ?c3 (Nat.le_of_ble_eq_true rfl) ?c4 ?_))
          case c1 => exact own_keptN (own_kept HW2.out HK3.out (fun b hb => by have := own_ge HW2.out b hb; simp; omega)) ((Kept.refl _ _).alloc _)
          case c2 => simp [Value.oneCell']
          case c3 => have := stays_le fl k; omega
          case c4 => have := HK3.out.size; simp; omega
          intro gg cap' w3 hW hgg hK
          have HW3 := hid hW
          have HK4 := hid (((Kept.refl _ w2).alloc _).trans hK)
          clear hW hK
          go_wp2_with fail
          go_roundw
          case rel =>
            have hrow := own_ge HW2.out
            refine ⟨k + 1, by omega, by go_num, HO3.out.kept HK4.out (fun hm => by have := hrow _ hm; omega) (fun hm => by have := hrow _ hm; omega), ?_, ?_, ?_⟩
            · rw [wantV_snoc HG.out, stays_succ_no HG.out, List.length_append]
              exact HW3.out
            · exact Nat.le_trans hsz (Nat.le_trans HK3.out.size HK4.out.size)
            · exact (HK2.out.trans' HK3.out (by simp; omega)).trans' HK4.out (fun x hx => .inr (by have := hrow x hx; have := HK.out.size; omega))
          case measure => simp [intOf]; omega
      · have HG := hid (show fl k = false by rw [HFL.out]; simp [hlen2])
        go_wp2_with (at_builtin; go_must (refine wp_app1 rfl _ _ 28 29 rfl Try.underlying28 info_u64 rfl (Nat.lt_succ_self 0) w1.heap.size u7 (stays fl k).length (wantV fl k) rfl ?c1 w2.heap.size 1 [.int .u64 ((k : Int) + 1)] rfl rfl (Blk.newA _ _ rfl) ?c2 ?c3 (Nat.le_of_ble_eq_true rfl) ?c4 ?_))
        case c1 => exact own_keptN (own_kept HW2.out HK3.out (fun b hb => by have := own_ge HW2.out b hb; simp; omega)) ((Kept.refl _ _).alloc _)
        case c2 => simp [Value.oneCell']
        case c3 => have := stays_le fl k; omega
        case c4 => have := HK3.out.size; simp; omega
        intro gg cap' w3 hW hgg hK
        have HW3 := hid hW
        have HK4 := hid (((Kept.refl _ w2).alloc _).trans hK)
        clear hW hK
        go_wp2_with fail
        go_roundw
        case rel =>
          have hrow := own_ge HW2.out
          refine ⟨k + 1, by omega, by go_num, HO3.out.kept HK4.out (fun hm => by have := hrow _ hm; omega) (fun hm => by have := hrow _ hm; omega), ?_, ?_, ?_⟩
          · rw [wantV_snoc HG.out, stays_succ_no HG.out, List.length_append]
            exact HW3.out
          · exact Nat.le_trans hsz (Nat.le_trans HK3.out.size HK4.out.size)
          · exact (HK2.out.trans' HK3.out (by simp; omega)).trans' HK4.out (fun x hx => .inr (by have := hrow x hx; have := HK.out.size; omega))
        case measure => simp [intOf]; omega
    · obtain rfl : k = 20 := by omega
      have HOg := hid (HO2.out.congr (f' := goneF fl 0) (fun p hp => by simp [madeF, goneF, hp]))
      have hfar : ∀ k, k ≤ 20 → ¬ k < len → ∀ p, p < 20 → goneF fl k p = goneF fl 20 p := by
        intro k hk hkl p hp
        unfold goneF
        by_cases hpk : p < k
        · simp [hpk, hp]
        · have : fl p = false := by rw [HFL.out]; simp; omega
          simp [this]
      have HFAR := hid hfar
      clear hfar HO2
      rw [show ((20 : Nat) : Int) = 20 from rfl]
      go_wp2_with fail
      go_loopw [11] (fun i wr2 => ∃ k : Nat, k ≤ 20 ∧ i = .int .i64 k ∧ Objs wr2 bo bl 20 (goneF fl k) ∧ Kept [bl] wr wr2) (fun i _ => 20 - (intOf i).toNat)
      case atStart => exact ⟨0, by decide, rfl, HOg.out, Kept.refl _ _⟩
      case round =>
        obtain ⟨k, hk2, rfl, hO, hK⟩ := hrel
        have HO3 := hid hO
        have HK3 := hid hK
        clear hO hK HOg
        by_cases hlt : k < 20
        · by_cases hlen2 : k < len
          · obtain ⟨b, off, rfl, hc⟩ := (HB.out.kept (HK2.out.trans' HK3.out (by simp; omega))) k hlen2
            cases hg : g k with
            | true =>
              rw [hg] at hc
              have HG := hid (show fl k = true by rw [HFL.out]; simp [hlen2, hg])
              clear hg
              go_wp2_with fail
              refine (gone_some HO3.out ((k : Int) + 1) (by omega) (by omega) (goneF_place hlt)).mono ?_
              rintro e w2 ⟨rfl, hO, hK⟩
              have HO4 := hid (hO.congr (fun p _ => goneF_succ_yes HG.out p))
              have HK4 := hid hK
              clear hO hK
              go_wp2_with fail
              go_roundw
              case rel => exact ⟨k + 1, by omega, by go_num, HO4.out, HK3.out.trans HK4.out⟩
              case measure => simp [intOf]; omega
            | false =>
              rw [hg] at hc
              have HG := hid (show fl k = false by rw [HFL.out]; simp [hg])
              clear hg
              go_wp2_with fail
              go_roundw
              case rel => exact ⟨k + 1, by omega, by go_num, HO3.out.congr (fun p _ => goneF_succ_no HG.out p), HK3.out⟩
              case measure => simp [intOf]; omega
          · have HO4 := hid (HO3.out.congr (HFAR.out k hk2 hlen2))
            have h20 : True := trivial
            go_wp2_with fail
            refine (within_ok most 25 (by decide) hm0 hm1 (by decide) _).mono ?_
            rintro e w2 ⟨rfl, rfl⟩
            have hp0 := Int.emod_nonneg most (show (25 : Int) ≠ 0 by decide)
            have hp1 := Int.emod_lt_of_pos most (show (0 : Int) < 25 by decide)
            generalize most % 25 = q at *
            go_wp2_with fail
            refine (all_ok HO4.out (by decide) (1 + q) (by omega)).mono ?_
            rintro e w3 ⟨v, rfl, hL, hK⟩
            obtain ⟨K, hKq⟩ : ∃ K : Nat, 1 + q = (K : Int) := ⟨(1 + q).toNat, by omega⟩
            rw [hKq] at hL ⊢
            rw [Int.toNat_natCast] at hL
            have hK25 : K ≤ 25 := by omega
            clear hKq hp0 hp1
            have hnl : ((alive (goneF fl 20) 20).take K).length = min K (stays fl 20).length := by rw [List.length_take, alive_goneF, List.length_map]
            rw [hnl] at hL
            have HL := hid hL
            have HKL := hid hK
            clear hL hK hnl
            obtain ⟨al, cl, rfl⟩ := own_form' HL.out
            have HWW := hid (own_kept (own_kept HW2.out HK3.out (fun b hb => by have := own_ge HW2.out b hb; simp; omega)) HKL.out (fun _ _ => by simp))
            obtain ⟨aw, cw, rfl⟩ := own_form' HWW.out
            have hle := stays_le fl 20
            obtain ⟨nw, hnw⟩ : ∃ nw, (stays fl 20).length = nw := ⟨_, rfl⟩
            obtain ⟨nl, hnl⟩ : ∃ nl, min K nw = nl := ⟨_, rfl⟩
            rw [hnw] at hle
            rw [hnw, hnl] at HL ⊢
            rw [hnw] at HWW
            have hcells : ∀ i, i < nl → ∃ gl gw x, al = some ⟨gl, 0, none⟩ ∧ aw = some ⟨gw, 0, none⟩ ∧ (x : Nat) < 20 ∧ w3.cell? ⟨gl, i * 2, none⟩ = some (.int .u64 ((x : Int) + 1)) ∧ w3.cell? ⟨gl, i * 2 + 1, none⟩ = some (.int .u64 (x : Int)) ∧ w3.cell? ⟨gw, i, none⟩ = some (.int .u64 ((x : Int) + 1)) := by
              intro i hi
              have hiw : i < nw := by omega
              have hiK : i < K := by omega
              obtain ⟨nl', rfl⟩ : ∃ n', nl = n' + 1 := ⟨nl - 1, by omega⟩
              obtain ⟨nw', rfl⟩ : ∃ n', nw = n' + 1 := ⟨nw - 1, by omega⟩
              obtain ⟨gl, cl', e1, -⟩ := own_form HL.out
              obtain ⟨gw, cw', e2, -⟩ := own_form HWW.out
              cases e1
              cases e2
              obtain ⟨x, hx⟩ : ∃ x, (stays fl 20)[i]? = some x := ⟨_, List.getElem?_eq_getElem (by omega)⟩
              have hx20 : x < 20 := by
                have := List.mem_of_getElem? hx
                simp [stays] at this
                exact this.1
              have hp : ((alive (goneF fl 20) 20).take K)[i]? = some ((x : Int) + 1, (x : Int)) := by
                rw [List.getElem?_take, if_pos hiK, alive_goneF, List.getElem?_map, hx]
                rfl
              obtain ⟨p1, p2⟩ := pairsV_get _ i _ hp
              refine ⟨gl, gw, x, rfl, rfl, hx20, own_cell HL.out p1, own_cell HL.out p2, own_cell HWW.out ?_⟩
              rw [wantV, List.getElem?_map, hx]
              rfl
            have HC := hid hcells
            have HNL := hid hnl
            have HNW := hid hnw
            clear hcells hnl hnw
            have hmin : (if nw < K then (nw : Int) else (K : Int)) = (nl : Int) := by
              have := HNL.out
              split <;> omega
            go_wp2_with fail
            go_loopw [14] (fun i wr3 => ∃ k : Nat, k ≤ nl ∧ i = .int .i64 k ∧ ∃ m, wr3 = w3.drewN m) (fun i _ => nl - (intOf i).toNat)
            case atStart => exact ⟨0, Nat.zero_le _, rfl, 0, rfl⟩
            case round =>
              obtain ⟨j, hj, rfl, m, rfl⟩ := hrel
              by_cases hjl : j < nl
              · obtain ⟨gl, gw, x, rfl, rfl, hx20, d0, d1, d2⟩ := HC.out j hjl
                go_wp2_with fail
                go_quiet (fail)
                go_wp2_with fail
                go_roundw
                case rel => exact ⟨j + 1, by omega, by go_num, _, rfl⟩
                case measure => simp [intOf]; omega
              · go_wp2_with fail
                have hlen3 : (alive (goneF fl 20) 20).length = nw := by rw [alive_goneF, List.length_map]; exact HNW.out
                refine (len_ok (HO4.out.keptN (HKL.out.drewN m)) (by decide)).mono ?_
                rintro e w4 ⟨rfl, hK4⟩
                rw [hlen3]
                have HK4 := hid hK4
                clear hK4 hlen3
                go_wp2_with fail
                refine (awake_ok _).mono ?_
                rintro e w5 ⟨rfl, hK5⟩
                have HK5 := hid hK5
                clear hK5
                go_wp2_with fail
                go_ret
                exact ⟨rfl, (((HK2.out.trans' HK3.out (by simp; omega)).trans (HKL.out.drewN m)).trans HK4.out).trans HK5.out⟩
        · obtain rfl : k = 20 := by omega
          have HO4 := hid HO3.out
          have h20 : True := trivial
          go_wp2_with fail
          refine (within_ok most 25 (by decide) hm0 hm1 (by decide) _).mono ?_
          rintro e w2 ⟨rfl, rfl⟩
          have hp0 := Int.emod_nonneg most (show (25 : Int) ≠ 0 by decide)
          have hp1 := Int.emod_lt_of_pos most (show (0 : Int) < 25 by decide)
          generalize most % 25 = q at *
          go_wp2_with fail
          refine (all_ok HO4.out (by decide) (1 + q) (by omega)).mono ?_
          rintro e w3 ⟨v, rfl, hL, hK⟩
          obtain ⟨K, hKq⟩ : ∃ K : Nat, 1 + q = (K : Int) := ⟨(1 + q).toNat, by omega⟩
          rw [hKq] at hL ⊢
          rw [Int.toNat_natCast] at hL
          have hK25 : K ≤ 25 := by omega
          clear hKq hp0 hp1
          have hnl : ((alive (goneF fl 20) 20).take K).length = min K (stays fl 20).length := by rw [List.length_take, alive_goneF, List.length_map]
          rw [hnl] at hL
          have HL := hid hL
          have HKL := hid hK
          clear hL hK hnl
          obtain ⟨al, cl, rfl⟩ := own_form' HL.out
          have HWW := hid (own_kept (own_kept HW2.out HK3.out (fun b hb => by have := own_ge HW2.out b hb; simp; omega)) HKL.out (fun _ _ => by simp))
          obtain ⟨aw, cw, rfl⟩ := own_form' HWW.out
          have hle := stays_le fl 20
          obtain ⟨nw, hnw⟩ : ∃ nw, (stays fl 20).length = nw := ⟨_, rfl⟩
          obtain ⟨nl, hnl⟩ : ∃ nl, min K nw = nl := ⟨_, rfl⟩
          rw [hnw] at hle
          rw [hnw, hnl] at HL ⊢
          rw [hnw] at HWW
          have hcells : ∀ i, i < nl → ∃ gl gw x, al = some ⟨gl, 0, none⟩ ∧ aw = some ⟨gw, 0, none⟩ ∧ (x : Nat) < 20 ∧ w3.cell? ⟨gl, i * 2, none⟩ = some (.int .u64 ((x : Int) + 1)) ∧ w3.cell? ⟨gl, i * 2 + 1, none⟩ = some (.int .u64 (x : Int)) ∧ w3.cell? ⟨gw, i, none⟩ = some (.int .u64 ((x : Int) + 1)) := by
            intro i hi
            have hiw : i < nw := by omega
            have hiK : i < K := by omega
            obtain ⟨nl', rfl⟩ : ∃ n', nl = n' + 1 := ⟨nl - 1, by omega⟩
            obtain ⟨nw', rfl⟩ : ∃ n', nw = n' + 1 := ⟨nw - 1, by omega⟩
            obtain ⟨gl, cl', e1, -⟩ := own_form HL.out
            obtain ⟨gw, cw', e2, -⟩ := own_form HWW.out
            cases e1
            cases e2
            obtain ⟨x, hx⟩ : ∃ x, (stays fl 20)[i]? = some x := ⟨_, List.getElem?_eq_getElem (by omega)⟩
            have hx20 : x < 20 := by
              have := List.mem_of_getElem? hx
              simp [stays] at this
              exact this.1
            have hp : ((alive (goneF fl 20) 20).take K)[i]? = some ((x : Int) + 1, (x : Int)) := by
              rw [List.getElem?_take, if_pos hiK, alive_goneF, List.getElem?_map, hx]
              rfl
            obtain ⟨p1, p2⟩ := pairsV_get _ i _ hp
            refine ⟨gl, gw, x, rfl, rfl, hx20, own_cell HL.out p1, own_cell HL.out p2, own_cell HWW.out ?_⟩
            rw [wantV, List.getElem?_map, hx]
            rfl
          have HC := hid hcells
          have HNL := hid hnl
          have HNW := hid hnw
          clear hcells hnl hnw
          have hmin : (if nw < K then (nw : Int) else (K : Int)) = (nl : Int) := by
            have := HNL.out
            split <;> omega
          go_wp2_with fail
          go_loopw [14] (fun i wr3 => ∃ k : Nat, k ≤ nl ∧ i = .int .i64 k ∧ ∃ m, wr3 = w3.drewN m) (fun i _ => nl - (intOf i).toNat)
          case atStart => exact ⟨0, Nat.zero_le _, rfl, 0, rfl⟩
          case round =>
            obtain ⟨j, hj, rfl, m, rfl⟩ := hrel
            by_cases hjl : j < nl
            · obtain ⟨gl, gw, x, rfl, rfl, hx20, d0, d1, d2⟩ := HC.out j hjl
              go_wp2_with fail
              go_quiet (fail)
              go_wp2_with fail
              go_roundw
              case rel => exact ⟨j + 1, by omega, by go_num, _, rfl⟩
              case measure => simp [intOf]; omega
            · go_wp2_with fail
              have hlen3 : (alive (goneF fl 20) 20).length = nw := by rw [alive_goneF, List.length_map]; exact HNW.out
              refine (len_ok (HO4.out.keptN (HKL.out.drewN m)) (by decide)).mono ?_
              rintro e w4 ⟨rfl, hK4⟩
              rw [hlen3]
              have HK4 := hid hK4
              clear hK4 hlen3
              go_wp2_with fail
              refine (awake_ok _).mono ?_
              rintro e w5 ⟨rfl, hK5⟩
              have HK5 := hid hK5
              clear hK5
              go_wp2_with fail
              go_ret
              exact ⟨rfl, (((HK2.out.trans' HK3.out (by simp; omega)).trans (HKL.out.drewN m)).trans HK4.out).trans HK5.out⟩

end Go.Proofs.Ytecagnhffgajhaa
