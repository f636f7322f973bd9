/- package objects: the document's example; the laws ObjectsNews, ObjectsKinds. -/
import Derived.Test.YtecagnhffgajhaaDoorObjRef2
import Derived.IntWalk
namespace Go.Proofs.YtecagnhffgajhaaDoor
open Go Go.RowKit

theorem make_some {w : World} {bo bl n : Nat} {f : Nat → Row} (hO : Objs w bo bl n f) (kind addr : Int) (h1 : 1 ≤ kind) (h6 : kind ≤ 6) (hs : ∀ p, p < n → 0 ≤ (f p).times ∧ (f p).times ≤ 1000000) {p : Nat} (hp : freeOf f n = some p) {r : Int} (hr : p + 1 + 64 * (f p).times = r) :
    Calls Tryd.prog 11 #[.pointer (some ⟨bo, 0, none⟩), .int .i64 kind, .int .u64 addr] w fun e w' =>
      e = .returned (.tuple #[.int .u64 r, .nilIface]) ∧ Objs w' bo bl n (fun q => if q = p then givenRow p (f p) kind addr else f q) ∧ Kept [bl] w w' := by
  refine (make_ok hO kind addr h1 h6 hs).mono ?_
  rintro e w' ⟨v, rfl, hM⟩
  unfold MakeOut at hM
  rw [hp] at hM
  obtain ⟨rfl, h⟩ := hM
  subst hr
  exact ⟨rfl, h⟩

theorem gone_some {w : World} {bo bl n : Nat} {f : Nat → Row} (hO : Objs w bo bl n f) (h : Int) (h0 : 0 ≤ h) (hh : h < 18446744073709551616) {p : Nat} (hp : placeOf f n h = some p) :
    Calls Tryd.prog 18 #[.pointer (some ⟨bo, 0, none⟩), .int .u64 h] w fun e w' => e = .returned .nilIface ∧ Objs w' bo bl n (fun q => if q = p then goneRow (f p) else f q) ∧ Kept [bl] w w' := by
  refine (gone_ok hO h h0 hh).mono ?_
  rintro e w' ⟨v, rfl, hM⟩
  unfold GoneOut at hM
  rw [hp] at hM
  obtain ⟨rfl, h⟩ := hM
  exact ⟨rfl, h⟩

set_option maxRecDepth 100000 in
set_option maxHeartbeats 4000000 in
theorem awake_ok (w : World) : Calls Tryd.prog 10 #[] w fun e w' => e = .returned (.bool true) ∧ Kept [] w w' := by
  go_enter Tryd.func10, Tryd.ntmps10
  go_wp2_with fail
  refine (new_ok 5 (by decide) (by decide) w).mono ?_
  rintro e w1 ⟨bo, bl, rfl, hbo, hbl, hO, hK⟩
  have HO := hid hO
  have HK := hid hK
  clear hO hK
  go_wp2_with fail
  refine (make_some HO.out 1 50 (by decide) (by decide) (by intro p hp; simp [row0]) (p := 0) rfl (r := 1) rfl).mono ?_
  rintro e w2 ⟨rfl, hO, hK⟩
  have HO2 := hid hO
  have HK2 := hid hK
  clear hO hK
  go_wp2_with fail
  refine (make_some HO2.out 2 60 (by decide) (by decide) (by intro p hp; split <;> simp [row0, givenRow]) (p := 1) rfl (r := 2) rfl).mono ?_
  rintro e w3 ⟨rfl, hO, hK⟩
  have HO3 := hid hO
  have HK3 := hid hK
  clear hO hK
  go_wp2_with fail
  refine (gone_some HO3.out 1 (by decide) (by decide) (p := 0) rfl).mono ?_
  rintro e w4 ⟨rfl, hO, hK⟩
  have HO4 := hid hO
  have HK4 := hid hK
  clear hO hK
  go_wp2_with fail
  refine (make_some HO4.out 3 70 (by decide) (by decide) (by intro p hp; repeat' split; all_goals simp [row0, givenRow, goneRow]) (p := 0) rfl (r := 65) rfl).mono ?_
  rintro e w5 ⟨rfl, hO, hK⟩
  have HO5 := hid hO
  have HK5 := hid hK
  clear hO hK
  go_wp2_with fail
  refine (len_ok HO5.out (by decide)).mono ?_
  rintro e w6 ⟨rfl, hK⟩
  have HK6 := hid hK
  clear hK
  rw [show (alive _ 5).length = 2 from rfl]
  go_wp2_with fail
  go_ret
  refine ⟨rfl, ?_⟩
  exact (((((HK.out.trans' HK2.out (by simp; omega)).trans' HK3.out (by simp; omega)).trans' HK4.out (by simp; omega)).trans' HK5.out (by simp; omega)).trans HK6.out)

theorem Objs.congr {w : World} {bo bl n : Nat} {f f' : Nat → Row} (h : Objs w bo bl n f) (e : ∀ p, p < n → f p = f' p) : Objs w bo bl n f' :=
  ⟨h.head, h.rows.eq (rowsOf_congr fun p j hp _ => by rw [e p hp]), h.small, h.ne⟩

theorem info_u64 : (Tryd.prog.info? 32).map (fun i => (i.zero, i.size, i.bytes)) = some (some (.int .u64 0), 1, 8) := by kernel_rfl

theorem make_none {w : World} {bo bl n : Nat} {f : Nat → Row} (hO : Objs w bo bl n f) (kind addr : Int) (h1 : 1 ≤ kind) (h6 : kind ≤ 6) (hs : ∀ p, p < n → 0 ≤ (f p).times ∧ (f p).times ≤ 1000000) (hp : freeOf f n = none) :
    Calls Tryd.prog 11 #[.pointer (some ⟨bo, 0, none⟩), .int .i64 kind, .int .u64 addr] w fun e w' => ∃ v, e = .returned (.tuple #[.int .u64 0, v]) ∧ ErrOut sObjects 0 3 w v w' := by
  refine (make_ok hO kind addr h1 h6 hs).mono ?_
  rintro e w' ⟨v, rfl, hM⟩
  unfold MakeOut at hM
  rw [hp] at hM
  obtain ⟨x, rfl, h⟩ := hM
  exact ⟨x, rfl, h⟩

/-- Rows behind k makes of kind 'kind', at addresses 0, 1 .. -/
def newsF (kind : Int) (k : Nat) (p : Nat) : Row := if p < k then ⟨1, p + 1, kind, p⟩ else row0
theorem newsF_free {kind : Int} {k n : Nat} (hk : k < n) : freeOf (newsF kind k) n = some k :=
  freeOf_some hk (by simp [newsF, row0]) (fun q hq => by simp [newsF, hq]; omega)
theorem newsF_full {kind : Int} {n : Nat} : freeOf (newsF kind n) n = none :=
  freeOf_none (fun q hq => by simp [newsF, hq]; omega)
theorem newsF_succ (kind : Int) (k : Nat) (p : Nat) : (if p = k then givenRow k (newsF kind k k) kind k else newsF kind k p) = newsF kind (k + 1) p := by
  by_cases e : p = k
  · subst e; simp [newsF, givenRow, row0]
  · have : p < k ↔ p < k + 1 := by omega
    simp [newsF, e, this]
theorem newsF_times (kind : Int) (k p : Nat) : 0 ≤ (newsF kind k p).times ∧ (newsF kind k p).times ≤ 1000000 := by
  unfold newsF; split <;> simp [row0]
theorem newsF_alive (kind : Int) (n : Nat) : (alive (newsF kind n) n).length = n := by
  unfold alive
  rw [List.length_map, List.filter_eq_self.2]
  · simp
  · intro p hp
    have hp := List.mem_range.1 hp
    simp [newsF, hp]; omega

set_option maxRecDepth 100000 in
set_option maxHeartbeats 4000000 in
theorem news_law (most : Int) (w : World) (hg : Laid w) (h0 : -9223372036854775808 ≤ most) (h1 : most ≤ 9223372036854775807) :
    Calls Tryd.prog 3 #[.int .i64 most] w fun e w' => e = .returned (.bool true) ∧ Kept [] w w' := by
  have HG := hid hg
  clear hg
  by_cases hb : most < 1 ∨ 64 < most
  · have hbad := hid (new_bad most hb)
    rcases hb with hb | hb
    all_goals
      go_enter Tryd.func3, Tryd.ntmps3
      go_wp2_with fail
      refine (hbad.out _).mono ?_
      rintro e w1 ⟨v, rfl, b, rfl, hb1, hB, hK⟩
      have HB := hid hB
      have HK := hid hK
      clear hB hK
      go_wp2_with fail
      refine (no_ok _ _ _ _).mono ?_
      rintro e w2 ⟨fb, rfl, hF, hfb, hK2⟩
      have HF := hid hF
      have HK2 := hid hK2
      clear hF hK2
      go_wp2_with fail
      refine (same_hit b fb sObjects 0 1 (by decide) (by decide) _ (HG.out.keptN (HK.out.trans HK2.out)) (HB.out.keptN HK2.out) HF.out).mono ?_
      rintro e w3 ⟨rfl, hK3⟩
      have HK3 := hid hK3
      clear hK3
      go_wp2_with fail
      refine (awake_ok _).mono ?_
      rintro e w4 ⟨rfl, hK4⟩
      have HK4 := hid hK4
      clear hK4
      go_wp2_with fail
      go_ret
      exact ⟨rfl, ((HK.out.trans HK2.out).trans HK3.out).trans HK4.out⟩
  · obtain ⟨n, rfl⟩ : ∃ n : Nat, most = n := ⟨most.toNat, by omega⟩
    have hn1 : 1 ≤ n := by omega
    have hn2 : n ≤ 64 := by omega
    clear hb
    go_enter Tryd.func3, Tryd.ntmps3
    go_wp2_with fail
    refine (new_ok n hn1 hn2 w).mono ?_
    rintro e w1 ⟨bo, bl, rfl, hbo, hbl, hO, hK⟩
    have HO := hid hO
    have HK := hid hK
    clear hO hK
    go_wp2_with fail
    go_loopw [5] (fun i wr => ∃ k : Nat, k ≤ n ∧ i = .int .i64 k ∧ Objs wr bo bl n (newsF 2 k) ∧ Kept [] w wr) (fun i _ => n - (intOf i).toNat)
    case atStart => exact ⟨0, Nat.zero_le _, rfl, HO.out.congr (fun p _ => by simp [newsF]), HK.out⟩
    case round =>
      obtain ⟨k, hk, rfl, hO, hK⟩ := hrel
      have HO2 := hid hO
      have HK2 := hid hK
      clear hO hK
      by_cases hlt : k < n
      · go_wp2_with fail
        refine (make_some HO2.out 2 k (by decide) (by decide) (fun p _ => newsF_times _ _ _) (newsF_free hlt) (r := (k : Int) + 1) (by simp [newsF, row0])).mono ?_
        rintro e w2 ⟨rfl, hO, hK⟩
        have HO3 := hid (hO.congr (fun p _ => newsF_succ 2 k p))
        have HK3 := hid (HK2.out.trans' hK (by simp; omega))
        clear hO hK
        go_wp2_with fail
        go_roundw
        case rel => exact ⟨k + 1, by omega, by go_num, HO3.out, HK3.out⟩
        case measure => simp [intOf]; omega
      · obtain rfl : k = n := by omega
        go_wp2_with fail
        refine (make_none HO2.out 2 1 (by decide) (by decide) (fun p _ => newsF_times _ _ _) newsF_full).mono ?_
        rintro e w2 ⟨v, rfl, b, rfl, hb1, hB, hK⟩
        have HB := hid hB
        have HK3 := hid hK
        clear hB hK
        go_wp2_with fail
        refine (no_ok _ _ _ _).mono ?_
        rintro e w3 ⟨fb, rfl, hF, hfb, hK4⟩
        have HF := hid hF
        have HK4 := hid hK4
        clear hF hK4
        go_wp2_with fail
        refine (same_hit b fb sObjects 0 3 (by decide) (by decide) _ (HG.out.keptN ((HK2.out.trans HK3.out).trans HK4.out)) (HB.out.keptN HK4.out) HF.out).mono ?_
        rintro e w4 ⟨rfl, hK5⟩
        have HK5 := hid hK5
        clear hK5
        go_wp2_with fail
        refine (len_ok (HO2.out.keptN ((HK3.out.trans HK4.out).trans HK5.out)) hn1).mono ?_
        rintro e w5 ⟨rfl, hK6⟩
        rw [newsF_alive]
        have HK6 := hid hK6
        clear hK6
        go_wp2_with fail
        refine (awake_ok _).mono ?_
        rintro e w6 ⟨rfl, hK7⟩
        have HK7 := hid hK7
        clear hK7
        go_wp2_with fail
        go_ret
        exact ⟨rfl, ((((HK2.out.trans HK3.out).trans HK4.out).trans HK5.out).trans HK6.out).trans HK7.out⟩

end Go.Proofs.YtecagnhffgajhaaDoor
