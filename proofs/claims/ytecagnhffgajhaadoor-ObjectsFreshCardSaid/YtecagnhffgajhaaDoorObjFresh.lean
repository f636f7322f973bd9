/- package objects: the law ObjectsFresh. (Printed by a small program: the tail is walked twice.) -/
import Derived.Test.YtecagnhffgajhaaDoorObjFreshM
import Derived.Test.YtecagnhffgajhaaDoorOpen
import Derived.Deep.RegionHeld3
namespace Go.Proofs.YtecagnhffgajhaaDoor
open Go Go.RowKit

theorem info_bool : (Tryd.prog.info? 4).map (fun i => (i.zero, i.size, i.bytes)) = some (some (.bool false), 1, 1) := by kernel_rfl

theorem gone_none {w : World} {bo bl n : Nat} {f : Nat → Row} (hO : Objs w bo bl n f) (h : Int) (h0 : 0 ≤ h) (hh : h < 18446744073709551616) (hp : placeOf f n h = none) :
    Calls Tryd.prog 18 #[.pointer (some ⟨bo, 0, none⟩), .int .u64 h] w fun e w' => ∃ b, e = .returned (.iface 72 (.pointer (some ⟨b, 0, none⟩))) ∧ Kept [] w w' := by
  refine (gone_ok hO h h0 hh).mono ?_
  rintro e w' ⟨v, rfl, hM⟩
  unfold GoneOut at hM
  rw [hp] at hM
  obtain ⟨b, rfl, -, -, hk⟩ := hM
  exact ⟨b, rfl, hk⟩

def GV (l : List Int) : List Value := l.map (.int .u64)
def LV (l : List Bool) : List Value := l.map .bool
theorem GV_get {l : List Int} {i : Nat} {x : Int} (h : l[i]? = some x) : (GV l)[i]? = some (.int .u64 x) := by simp [GV, h]
theorem LV_get {l : List Bool} {i : Nat} {x : Bool} (h : l[i]? = some x) : (LV l)[i]? = some (.bool x) := by simp [LV, h]
theorem kindOf_none {f : Nat → Row} {n : Nat} {h : Int} (e : placeOf f n h = none) : kindOf f n h = 0 := by unfold kindOf; rw [e]
theorem kindOf_some {f : Nat → Row} {n p : Nat} {h : Int} (e : placeOf f n h = some p) : kindOf f n h = (f p).kind := by unfold kindOf; rw [e]

/-- What the law's loop holds. -/
structure FreshAt (w1 : World) (bo bl n i : Nat) (vG vL : Value) (f : Nat → Row) (G : List Int) (L : List Bool) (wr : World) : Prop where
  objs : Objs wr bo bl n f
  fresh : Fresh f n G L i
  given : wr.ownsRow w1.heap.size 32 1 vG G.length (GV G)
  lives : wr.ownsRow w1.heap.size 4 1 vL G.length (LV L)
  size : w1.heap.size ≤ wr.heap.size
theorem FreshAt.keptN {w1 : World} {bo bl n i : Nat} {vG vL : Value} {f : Nat → Row} {G : List Int} {L : List Bool} {wr w' : World} (h : FreshAt w1 bo bl n i vG vL f G L wr) (k : Kept [] wr w') : FreshAt w1 bo bl n i vG vL f G L w' :=
  ⟨h.objs.keptN k, h.fresh, own_keptN h.given k, own_keptN h.lives k, Nat.le_trans h.size k.size⟩
/-- The rows lie apart from the objects. -/
theorem FreshAt.objsKept {w1 : World} {bo bl n i : Nat} {vG vL : Value} {f f' : Nat → Row} {G : List Int} {L : List Bool} {wr w' : World} (h : FreshAt w1 bo bl n i vG vL f G L wr) (k : Kept [bl] wr w') (hbl : bl < w1.heap.size)
    (hO : Objs w' bo bl n f') {L' : List Bool} (hL : LV L' = LV L) (hF : Fresh f' n G L' i) : FreshAt w1 bo bl n i vG vL f' G L' w' :=
  ⟨hO, hF, own_kept h.given k (fun b hb => by have := own_ge h.given b hb; simp; omega), by rw [hL]; exact own_kept h.lives k (fun b hb => by have := own_ge h.lives b hb; simp; omega), Nat.le_trans h.size k.size⟩

set_option maxRecDepth 100000 in
set_option maxHeartbeats 8000000 in
theorem fresh_law (most : Int) (a : Option Addr) (len cap : Nat) (g : Nat → Nat → Int) (w : World) (hg : Laid w) (hm0 : -9223372036854775808 ≤ most) (hm1 : most ≤ 9223372036854775807) (hA : IntRows w a len [.i64] g) :
    Calls Tryd.prog 5 #[.int .i64 most, .slice a len cap] w fun e w' => e = .returned (.bool true) ∧ Kept [] w w' := by
  have HGL := hid hg
  have HAR := hid hA
  have hlen : len ≤ 9223372036854775807 := by have := hA.small; unfold maxLen at this; omega
  clear hg hA
  go_enter Tryd.func5, Tryd.ntmps5
  go_wp2_with fail
  refine (within_ok most 6 (by decide) hm0 hm1 (by decide) _).mono ?_
  rintro e w0 ⟨rfl, rfl⟩
  have hp0 := Int.emod_nonneg most (show (6 : Int) ≠ 0 by decide)
  have hp1 := Int.emod_lt_of_pos most (show (0 : Int) < 6 by decide)
  generalize most % 6 = q0 at *
  go_wp2_with fail
  obtain ⟨n, hnq⟩ : ∃ n : Nat, 1 + q0 = (n : Int) := ⟨(1 + q0).toNat, by omega⟩
  rw [hnq]
  have hn1 : 1 ≤ n := by omega
  have hn6 : n ≤ 64 := by omega
  clear hnq hp0 hp1
  refine (new_ok n hn1 hn6 w).mono ?_
  rintro e w1 ⟨bo, bl, rfl, hbo, hbl, hO, hK⟩
  have HO1 := hid hO
  have HK1 := hid hK
  have hbo1 := hO.head.lt
  have hbl1 := hO.rows.lt
  clear hO hK
  go_wp2_with fail
  go_loopw [7, 8, 9] (fun vG vL i wr => ∃ k : Nat, k ≤ len ∧ k ≤ 60 ∧ i = .int .i64 k ∧ ∃ f G L, FreshAt w1 bo bl n k vG vL f G L wr ∧ Kept [] w wr) (fun _ _ i _ => len - (intOf i).toNat)
  case atStart => exact ⟨0, Nat.zero_le _, by decide, rfl, fun _ => row0, [], [], ⟨HO1.out, Fresh.zero hn1, ⟨rfl, .inl ⟨rfl, rfl⟩⟩, ⟨rfl, .inl ⟨rfl, rfl⟩⟩, Nat.le_refl _⟩, HK1.out⟩
  case round =>
    obtain ⟨k, hk, hk60, rfl, f, G, L, hA, hK⟩ := hrel
    have HA := hid hA
    have HK := hid hK
    clear hA hK
    by_cases hlt : k < len
    · by_cases hlt60 : k < 60
      · obtain ⟨ba, offa, rfl, hba, hca⟩ := HAR.out.cell k hlt
        have hc0 := hca 0 .i64 rfl
        simp only [List.length_cons, List.length_nil, Nat.zero_add, Nat.mul_one, Nat.add_zero] at hc0
        have hgw := HAR.out.wf k 0 .i64 hlt rfl
        obtain ⟨hg0, hg1⟩ := bounds_i64 hgw
        have HC0 := hid hc0
        clear hc0 hca hgw
        cases hfree : freeOf f n with
        | some p =>
          obtain ⟨hpn, hph⟩ := freeOf_lt hfree
          obtain ⟨ht0, ht1, -⟩ := HA.out.fresh.rows p hpn
          obtain ⟨r, hr⟩ : ∃ r, (p : Int) + 1 + 64 * (f p).times = r := ⟨_, rfl⟩
          have hr0 : 0 < r := by omega
          have hr1 : r < 10000 := by omega
          have HT := hid (fun q (hq : q < n) => (show 0 ≤ (f q).times ∧ (f q).times ≤ 1000000 from ⟨(HA.out.fresh.rows q hq).1, by have := (HA.out.fresh.rows q hq).2.1; omega⟩))
          have HFR := hid hfree
          have HR := hid hr
          have HPH := hid hph
          clear hfree hr hph ht0 ht1
          have hkd0 : 1 ≤ 1 + (k : Int) % 6 := by omega
          have hkd1 : 1 + (k : Int) % 6 ≤ 6 := by omega
          go_wp2_with fail
          generalize hkd : 1 + (k : Int) % 6 = kd at *
          clear hkd
          refine (make_some HA.out.objs kd (1000 + k) hkd0 hkd1 HT.out HFR.out HR.out).mono ?_
          rintro e w2 ⟨rfl, hO, hK⟩
          have HK2 := hid hK
          have HFN := hid (HA.out.fresh.make hn6 HFR.out kd (1000 + k) HR.out)
          have HO2 := hid hO
          have HPL := hid (show placeOf (fun q => if q = p then givenRow p (f p) kd (1000 + k) else f q) n r = some p by
            rw [← HR.out, placeOf_at hn6 hpn (HT.out p hpn).1, if_pos]; simp [givenRow])
          have HG2 := hid (own_kept HA.out.given hK (fun b hb => by have := own_ge HA.out.given b hb; simp; omega))
          have HL2 := hid (own_kept HA.out.lives hK (fun b hb => by have := own_ge HA.out.lives b hb; simp; omega))
          have hGle := HA.out.fresh.le
          have hw1s := Nat.le_trans HA.out.size hK.size
          obtain ⟨aG, cG, eG⟩ := own_form' HG2.out
          obtain ⟨aL, cL, eL⟩ := own_form' HL2.out
          subst eG
          subst eL
          clear hK hO
          obtain ⟨lG, hlG⟩ : ∃ lG, G.length = lG := ⟨_, rfl⟩
          have HLG := hid hlG
          rw [hlG] at HG2 HL2 hGle ⊢
          clear hlG
          go_wp2_with fail
          go_loop [13] (fun i => ∃ j : Nat, j ≤ lG ∧ i = .int .i64 j) (fun i => lG - (intOf i).toNat)
          case atStart => exact ⟨0, Nat.zero_le _, rfl⟩
          case round =>
            obtain ⟨j, hj, rfl⟩ := hrel
            by_cases hjl : j < lG
            · obtain ⟨x, hx⟩ : ∃ x, G[j]? = some x := ⟨_, List.getElem?_eq_getElem (by rw [HLG.out]; exact hjl)⟩
              have hxr := HA.out.fresh.other hn6 HFR.out hx
              rw [HR.out] at hxr
              have hxb : (x == r) = false := by simpa using hxr
              obtain ⟨gG, eG, d0⟩ : ∃ gG, aG = some ⟨gG, 0, none⟩ ∧ w2.cell? ⟨gG, j, none⟩ = some (.int .u64 x) := by
                obtain ⟨l', rfl⟩ : ∃ l', lG = l' + 1 := ⟨lG - 1, by omega⟩
                obtain ⟨gG, c, e1, -⟩ := own_form HG2.out
                cases e1
                exact ⟨gG, rfl, own_cell HG2.out (GV_get hx)⟩
              subst eG
              clear hx hxr
              go_wp2_with fail
              go_round
              case rel => exact ⟨j + 1, by omega, by go_num⟩
              case measure => simp [intOf]; omega
            · have hrz : (r == 0) = false := by simp; omega
              go_wp2_with fail
              refine (find_some HO2.out r kd (by omega) (by omega) HPL.out (a := 1000 + k) (by simp [givenRow]) (by simp [givenRow])).mono ?_
              rintro e w3 ⟨rfl, rfl⟩
              have hkk := hid ((kindOf_some HPL.out).trans (show _ = kd by simp [givenRow]))
              go_wp2_with fail
              refine (kind_ok HO2.out r (by omega) (by omega)).mono ?_
              rintro e w3 ⟨rfl, rfl⟩
              rw [hkk.out]
              go_wp2_with (at_builtin; go_must (refine wp_app1 rfl _ _ 60 32 rfl Tryd.underlying60 info_u64 rfl (Nat.lt_succ_self 0) w1.heap.size (.slice aG lG cG) lG (GV G) rfl ?c1 w2.heap.size 1 [.int .u64 r] rfl rfl (Blk.newA _ _ rfl) ?c2 ?c3 (Nat.le_of_ble_eq_true rfl) ?c4 ?_))
              case c1 => exact own_keptN HG2.out ((Kept.refl _ _).alloc _)
              case c2 => simp [Value.oneCell']
              case c3 => omega
              case c4 => simp; omega
              intro gG capG w3 hW hgg hK
              have HK3 := hid (((Kept.refl [] w2).alloc (.cells #[.int .u64 r] 32)).nil.trans hK)
              have hne := own_ne HG2.out HL2.out (by decide)
              have HL3 := hid (own_kept HL2.out HK3.out (fun b hb hm => hne b hm hb))
              have HG3 := hid hW
              have hw3s := HK3.out.size
              clear hW hK
              go_wp2_with (at_builtin; go_must (refine wp_app1 rfl _ _ 61 4 rfl Tryd.underlying61 info_bool rfl (Nat.lt_succ_self 0) w1.heap.size (.slice aL lG cL) lG (LV L) rfl ?c1 w3.heap.size 1 [.bool true] rfl rfl (Blk.newA _ _ rfl) ?c2 ?c3 (Nat.le_of_ble_eq_true rfl) ?c4 ?_))
              case c1 => exact own_keptN HL3.out ((Kept.refl _ _).alloc _)
              case c2 => simp [Value.oneCell']
              case c3 => omega
              case c4 => simp; omega
              intro gL capL w4 hW hgl hK
              have HK4 := hid (((Kept.refl [] w3).alloc (.cells #[.bool true] 4)).nil.trans hK)
              have hne2 := own_ne HL3.out HG3.out (by decide)
              have HG4 := hid (own_kept HG3.out HK4.out (fun b hb hm => hne2 b hm hb))
              have HL4 := hid hW
              clear hW hK
              have hA4 : FreshAt w1 bo bl n (k + 1) (.slice (some ⟨gG, 0, none⟩) (lG + 1) capG) (.slice (some ⟨gL, 0, none⟩) (lG + 1) capL) (fun q => if q = p then givenRow p (f p) kd (1000 + k) else f q) (G ++ [r]) (L ++ [true]) w4 := by
                have e1 : (G ++ [r]).length = lG + 1 := by rw [List.length_append, HLG.out]; rfl
                refine ⟨?_, HFN.out, ?_, ?_, ?_⟩
                · exact (HO2.out.kept HK3.out (fun hm => by have := own_ge HG2.out _ hm; omega) (fun hm => by have := own_ge HG2.out _ hm; omega)).kept HK4.out (fun hm => by have := own_ge HL3.out _ hm; omega) (fun hm => by have := own_ge HL3.out _ hm; omega)
                · rw [e1, show GV (G ++ [r]) = GV G ++ [.int .u64 r] by simp [GV]]; exact HG4.out
                · rw [e1, show LV (L ++ [true]) = LV L ++ [.bool true] by simp [LV]]; exact HL4.out
                · have := HK4.out.size; omega
              have hK4 : Kept [] w w4 := ((HK.out.trans' HK2.out (fun x hx => .inr (by rw [List.mem_singleton.1 hx]; exact hbl))).trans' HK3.out (fun x hx => .inr (by have := own_ge HG2.out x hx; have := HK1.out.size; omega))).trans' HK4.out (fun x hx => .inr (by have := own_ge HL3.out x hx; have := HK1.out.size; omega))
              have HA4 := hid hA4
              have HKA := hid hK4
              have hl4 : (G ++ [r]).length = lG + 1 := by rw [List.length_append, HLG.out]; rfl
              generalize (fun q => if q = p then givenRow p (f p) kd (1000 + k) else f q) = f4 at *
              generalize hG4 : G ++ [r] = G4 at *
              generalize hL4 : L ++ [true] = L4 at *
              have HL4' := hid hl4
              clear hl4 hA4 hK4 HK4 HG4 HL4 HG3 HL3 HK3 hne hne2 HFN HO2 HK2 HG2 HL2 HLG hG4 hL4 HPL hkk HPH HFR HR HT
              obtain ⟨q, hq⟩ : ∃ q : Nat, g k 0 % ((lG : Int) + 1) = (q : Int) := ⟨(g k 0 % ((lG : Int) + 1)).toNat, by have := Int.emod_nonneg (g k 0) (show (lG : Int) + 1 ≠ 0 by omega); omega⟩
              have hql : q < lG + 1 := by have := Int.emod_lt_of_pos (g k 0) (show (0 : Int) < (lG : Int) + 1 by omega); omega
              have hlz : (((lG + 1 : Nat) : Int) == 0) = false := by simp; omega
              have hc0 := HKA.out.cellSome HC0.out (by simp)
              go_wp2_with fail
              refine (within_ok (g k 0) ((lG : Int) + 1) (by omega) hg0 hg1 (by omega) _).mono ?_
              rintro e w5 ⟨rfl, rfl⟩
              rw [hq]
              clear hq hc0 hg0 hg1
              obtain ⟨x, hx⟩ : ∃ x, G4[q]? = some x := ⟨_, List.getElem?_eq_getElem (by rw [HL4'.out]; exact hql)⟩
              obtain ⟨b, hb⟩ : ∃ b, L4[q]? = some b := ⟨_, List.getElem?_eq_getElem (by rw [HA4.out.fresh.len, HL4'.out]; exact hql)⟩
              obtain ⟨hx0, hx1, hcase⟩ := HA4.out.fresh.gone hn6 hx hb
              have hx2 : x < 18446744073709551616 := by omega
              have hgv := HA4.out.given
              have hlv := HA4.out.lives
              rw [HL4'.out] at hgv hlv
              have d0 := own_cell hgv (GV_get hx)
              have d1 := own_cell hlv (LV_get hb)
              have z1 := own_frozen hlv q
              have ggb := own_ge hgv gG (by simp [Value.ownBlock])
              have glb := own_ge hlv gL (by simp [Value.ownBlock])
              have hgl : gG ≠ gL := fun e => own_ne hgv hlv (by decide) gG (by simp [Value.ownBlock]) (by rw [e]; simp [Value.ownBlock])
              have hq0 : (0 : Int) ≤ (q : Int) := by omega
              have hq1 : (q : Int) < (lG : Int) + 1 := by omega
              have hq2 : (q : Int) < ((lG + 1 : Nat) : Int) := by omega
              have HHX := hid hx
              have HHB := hid hb
              clear hx hb hgv hlv
              cases b with
              | true =>
                obtain ⟨p', hp', HF', hno⟩ := hcase.1 rfl
                clear hcase
                have HP' := hid hp'
                have HF5 := hid HF'
                have HNO := hid hno
                have hngg : gG ∉ [bl] := by simp; omega
                have hngl : gL ∉ [bl] := by simp; omega
                clear hp' HF' hno
                go_wp2_with fail
                go_region_held3 (fun w' => w'.cell? ⟨gG, q, none⟩ = some (.int .u64 x) ∧ w'.cell? ⟨gL, q, none⟩ = some (.bool true)) (first | exact ⟨d0, d1⟩ | exact ⟨hK5.cellSome d0 hngg, hK5.cellSome d1 hngl⟩) (first | (go_at_call 18; refine (gone_some (HA4.out.objs.keptN ((Kept.refl [] _).drew)) x hx0 hx2 HP'.out).mono ?_; rintro e w5 ⟨rfl, hO5, hK5⟩))
                have d0' := hK5.cellSome (show World.cell? (World.drew w4) _ = _ from d0) hngg
                have d1' := hK5.cellSome (show World.cell? (World.drew w4) _ = _ from d1) hngl
                have z1' : w5.frozen? ⟨gL, q, none⟩ = false := by rw [World.frozen?_of_block (hK5.block gL (World.block_lt_of_cell? _ _ d1) hngl)]; exact z1
                have hbo4 : bo ≠ gL := by omega
                have hbl4 : bl ≠ gL := by omega
                have hd06 : (w5.setCell ⟨gL, q, none⟩ (.bool false)).cell? ⟨gG, q, none⟩ = some (.int .u64 x) := ((Kept.refl [gL] w5).setCell (p := ⟨gL, q, none⟩) (.inl (by simp)) _).cellSome d0' (by simpa using hgl)
                have hK6 : Kept [bl, gL] w4 (w5.setCell ⟨gL, q, none⟩ (.bool false)) := (((Kept.refl [bl] w4).drew.trans hK5).mono (T := [bl, gL]) (by simp)).setCell (.inl (by simp)) _
                have hA6 : FreshAt w1 bo bl n (k + 1) (.slice (some ⟨gG, 0, none⟩) (lG + 1) capG) (.slice (some ⟨gL, 0, none⟩) (lG + 1) capL) (fun q => if q = p' then goneRow (f4 p') else f4 q) G4 (L4.set q false) (w5.setCell ⟨gL, q, none⟩ (.bool false)) := by
                  have ho := hO5.kept ((Kept.refl [gL] w5).setCell (p := ⟨gL, q, none⟩) (.inl (by simp)) (.bool false)) (by simpa using hbo4) (by simpa using hbl4)
                  have hg5 := own_kept (S := [bl]) HA4.out.given ((Kept.refl [bl] w4).drew.trans hK5) (fun b hb => by have := own_ge HA4.out.given b hb; simp; omega)
                  have hl5 := own_kept (S := [bl]) HA4.out.lives ((Kept.refl [bl] w4).drew.trans hK5) (fun b hb => by have := own_ge HA4.out.lives b hb; simp; omega)
                  refine ⟨ho, HF5.out, own_set_ne hg5 _ (by simpa [Value.ownBlock] using fun e : gL = gG => hgl e.symm), ?_, ?_⟩
                  · have := own_set hl5 q (.bool false)
                    rw [show (LV L4).set q (.bool false) = LV (L4.set q false) by simp [LV, List.map_set]] at this
                    exact this
                  · have := HA4.out.size
                    have := hK6.size
                    omega
                have HA6 := hid hA6
                have HKA6 := hid (HKA.out.trans' hK6 (fun y hy => by
                  have := HK1.out.size
                  rcases List.mem_cons.1 hy with rfl | hy
                  · exact .inr hbl
                  · rw [List.mem_singleton.1 hy]; exact .inr (by omega)))
                generalize hw6 : w5.setCell ⟨gL, q, none⟩ (.bool false) = w6 at HA6 HKA6 hd06
                have HW6 := hid hw6
                clear hA6 hK6 hK5 hO5 hw6 d0 d1 z1
                go_wp2_with fail
                rw [HW6.out]
                clear HW6 d0' d1' z1'
                refine (find_none HA6.out.objs x 1 hx0 hx2 HNO.out).mono ?_
                rintro e w7 ⟨v, rfl, b7, rfl, hb7, hB7, hK7⟩
                have HB7 := hid hB7
                have HK7 := hid hK7
                have d07 := hK7.cellSome hd06 (by simp)
                clear hB7 hK7
                go_wp2_with fail
                refine (no_ok _ _ _ _).mono ?_
                rintro e w8 ⟨fb, rfl, hF, hfb, hK8⟩
                have HF8 := hid hF
                have HK8 := hid hK8
                have d08 := hK8.cellSome d07 (by simp)
                clear hF hK8
                go_wp2_with fail
                refine (same_hit b7 fb sObjects 0 7 (by decide) (by decide) _ (HGL.out.keptN ((HKA6.out.trans HK7.out).trans HK8.out)) (HB7.out.keptN HK8.out) HF8.out).mono ?_
                rintro e w9 ⟨rfl, hK9⟩
                have HK9 := hid hK9
                have d09 := hK9.cellSome d08 (by simp)
                clear hK9 d08 d07 hd06
                go_wp2_with fail
                refine (kind_ok (HA6.out.objs.keptN ((HK7.out.trans HK8.out).trans HK9.out)) x hx0 hx2).mono ?_
                rintro e w10 ⟨rfl, rfl⟩
                rw [kindOf_none HNO.out]
                go_wp2_with fail
                go_roundw
                case rel => exact ⟨k + 1, by omega, by omega, by go_num, _, G4, L4.set q false, HA6.out.keptN ((HK7.out.trans HK8.out).trans HK9.out), ((HKA6.out.trans HK7.out).trans HK8.out).trans HK9.out⟩
                case measure => simp [intOf]; omega
              | false =>
                obtain ⟨hno, hls⟩ := hcase.2 rfl
                clear hcase
                have HF5 := hid (show Fresh f4 n G4 (L4.set q false) (k + 1) by rw [hls]; exact HA4.out.fresh)
                have HNO := hid hno
                have hngg : gG ∉ [bl] := by simp; omega
                have hngl : gL ∉ [bl] := by simp; omega
                clear hls hno
                go_wp2_with fail
                go_region_held3 (fun w' => w'.cell? ⟨gG, q, none⟩ = some (.int .u64 x) ∧ w'.cell? ⟨gL, q, none⟩ = some (.bool false)) (first | exact ⟨d0, d1⟩ | exact ⟨hK5.cellSome d0 hngg, hK5.cellSome d1 hngl⟩) (first | (go_at_call 18; refine (gone_none (HA4.out.objs.keptN ((Kept.refl [] _).drew)) x hx0 hx2 HNO.out).mono ?_; rintro e w5 ⟨be, rfl, hKN5⟩; have hK5 := Kept.nil (T := [bl]) hKN5; have hO5 := Objs.keptN (Objs.keptN (Hid.out HA4).objs (Kept.drew (Kept.refl [] _))) hKN5))
                have d0' := hK5.cellSome (show World.cell? (World.drew w4) _ = _ from d0) hngg
                have d1' := hK5.cellSome (show World.cell? (World.drew w4) _ = _ from d1) hngl
                have z1' : w5.frozen? ⟨gL, q, none⟩ = false := by rw [World.frozen?_of_block (hK5.block gL (World.block_lt_of_cell? _ _ d1) hngl)]; exact z1
                have hbo4 : bo ≠ gL := by omega
                have hbl4 : bl ≠ gL := by omega
                have hd06 : (w5.setCell ⟨gL, q, none⟩ (.bool false)).cell? ⟨gG, q, none⟩ = some (.int .u64 x) := ((Kept.refl [gL] w5).setCell (p := ⟨gL, q, none⟩) (.inl (by simp)) _).cellSome d0' (by simpa using hgl)
                have hK6 : Kept [bl, gL] w4 (w5.setCell ⟨gL, q, none⟩ (.bool false)) := (((Kept.refl [bl] w4).drew.trans hK5).mono (T := [bl, gL]) (by simp)).setCell (.inl (by simp)) _
                have hA6 : FreshAt w1 bo bl n (k + 1) (.slice (some ⟨gG, 0, none⟩) (lG + 1) capG) (.slice (some ⟨gL, 0, none⟩) (lG + 1) capL) f4 G4 (L4.set q false) (w5.setCell ⟨gL, q, none⟩ (.bool false)) := by
                  have ho := hO5.kept ((Kept.refl [gL] w5).setCell (p := ⟨gL, q, none⟩) (.inl (by simp)) (.bool false)) (by simpa using hbo4) (by simpa using hbl4)
                  have hg5 := own_kept (S := [bl]) HA4.out.given ((Kept.refl [bl] w4).drew.trans hK5) (fun b hb => by have := own_ge HA4.out.given b hb; simp; omega)
                  have hl5 := own_kept (S := [bl]) HA4.out.lives ((Kept.refl [bl] w4).drew.trans hK5) (fun b hb => by have := own_ge HA4.out.lives b hb; simp; omega)
                  refine ⟨ho, HF5.out, own_set_ne hg5 _ (by simpa [Value.ownBlock] using fun e : gL = gG => hgl e.symm), ?_, ?_⟩
                  · have := own_set hl5 q (.bool false)
                    rw [show (LV L4).set q (.bool false) = LV (L4.set q false) by simp [LV, List.map_set]] at this
                    exact this
                  · have := HA4.out.size
                    have := hK6.size
                    omega
                have HA6 := hid hA6
                have HKA6 := hid (HKA.out.trans' hK6 (fun y hy => by
                  have := HK1.out.size
                  rcases List.mem_cons.1 hy with rfl | hy
                  · exact .inr hbl
                  · rw [List.mem_singleton.1 hy]; exact .inr (by omega)))
                generalize hw6 : w5.setCell ⟨gL, q, none⟩ (.bool false) = w6 at HA6 HKA6 hd06
                have HW6 := hid hw6
                clear hA6 hK6 hK5 hO5 hw6 d0 d1 z1
                go_wp2_with fail
                rw [HW6.out]
                clear HW6 d0' d1' z1'
                refine (find_none HA6.out.objs x 1 hx0 hx2 HNO.out).mono ?_
                rintro e w7 ⟨v, rfl, b7, rfl, hb7, hB7, hK7⟩
                have HB7 := hid hB7
                have HK7 := hid hK7
                have d07 := hK7.cellSome hd06 (by simp)
                clear hB7 hK7
                go_wp2_with fail
                refine (no_ok _ _ _ _).mono ?_
                rintro e w8 ⟨fb, rfl, hF, hfb, hK8⟩
                have HF8 := hid hF
                have HK8 := hid hK8
                have d08 := hK8.cellSome d07 (by simp)
                clear hF hK8
                go_wp2_with fail
                refine (same_hit b7 fb sObjects 0 7 (by decide) (by decide) _ (HGL.out.keptN ((HKA6.out.trans HK7.out).trans HK8.out)) (HB7.out.keptN HK8.out) HF8.out).mono ?_
                rintro e w9 ⟨rfl, hK9⟩
                have HK9 := hid hK9
                have d09 := hK9.cellSome d08 (by simp)
                clear hK9 d08 d07 hd06
                go_wp2_with fail
                refine (kind_ok (HA6.out.objs.keptN ((HK7.out.trans HK8.out).trans HK9.out)) x hx0 hx2).mono ?_
                rintro e w10 ⟨rfl, rfl⟩
                rw [kindOf_none HNO.out]
                go_wp2_with fail
                go_roundw
                case rel => exact ⟨k + 1, by omega, by omega, by go_num, _, G4, L4.set q false, HA6.out.keptN ((HK7.out.trans HK8.out).trans HK9.out), ((HKA6.out.trans HK7.out).trans HK8.out).trans HK9.out⟩
                case measure => simp [intOf]; omega
        | none =>
          have HT := hid (fun q (hq : q < n) => (show 0 ≤ (f q).times ∧ (f q).times ≤ 1000000 from ⟨(HA.out.fresh.rows q hq).1, by have := (HA.out.fresh.rows q hq).2.1; omega⟩))
          have HFR := hid hfree
          obtain ⟨lG, hl4⟩ : ∃ lG, G.length = lG + 1 := ⟨G.length - 1, by
            have : G ≠ [] := fun e => HA.out.fresh.start e hfree
            have := List.length_pos_iff.2 this
            omega⟩
          have HL4' := hid hl4
          have hGle := HA.out.fresh.le
          rw [hl4] at hGle
          clear hfree hl4
          have hkd0 : 1 ≤ 1 + (k : Int) % 6 := by omega
          have hkd1 : 1 + (k : Int) % 6 ≤ 6 := by omega
          go_wp2_with fail
          generalize hkd : 1 + (k : Int) % 6 = kd at *
          clear hkd
          refine (make_none HA.out.objs kd (1000 + k) hkd0 hkd1 HT.out HFR.out).mono ?_
          rintro e w4 ⟨v4, rfl, b4, rfl, -, -, hK⟩
          have hA4 := HA.out.keptN hK
          have HKA := hid (HK.out.trans hK)
          have hgv := hA4.given
          have hlv := hA4.lives
          rw [HL4'.out] at hgv hlv
          obtain ⟨gG, capG, rfl, -⟩ := own_form hgv
          obtain ⟨gL, capL, rfl, -⟩ := own_form hlv
          have HA4 := hid (show FreshAt w1 bo bl n (k + 1) (.slice (some ⟨gG, 0, none⟩) (lG + 1) capG) (.slice (some ⟨gL, 0, none⟩) (lG + 1) capL) f G L w4 from ⟨hA4.objs, hA4.fresh.mono (Nat.le_succ _), hA4.given, hA4.lives, hA4.size⟩)
          clear hA4 hK hgv hlv HA HK HT HFR
          obtain ⟨f4, hf4⟩ : ∃ f4, f = f4 := ⟨_, rfl⟩
          obtain ⟨G4, hG4⟩ : ∃ G4, G = G4 := ⟨_, rfl⟩
          obtain ⟨L4, hL4⟩ : ∃ L4, L = L4 := ⟨_, rfl⟩
          subst hf4 hG4 hL4
          obtain ⟨q, hq⟩ : ∃ q : Nat, g k 0 % ((lG : Int) + 1) = (q : Int) := ⟨(g k 0 % ((lG : Int) + 1)).toNat, by have := Int.emod_nonneg (g k 0) (show (lG : Int) + 1 ≠ 0 by omega); omega⟩
          have hql : q < lG + 1 := by have := Int.emod_lt_of_pos (g k 0) (show (0 : Int) < (lG : Int) + 1 by omega); omega
          have hlz : (((lG + 1 : Nat) : Int) == 0) = false := by simp; omega
          have hc0 := HKA.out.cellSome HC0.out (by simp)
          go_wp2_with fail
          refine (within_ok (g k 0) ((lG : Int) + 1) (by omega) hg0 hg1 (by omega) _).mono ?_
          rintro e w5 ⟨rfl, rfl⟩
          rw [hq]
          clear hq hc0 hg0 hg1
          obtain ⟨x, hx⟩ : ∃ x, G[q]? = some x := ⟨_, List.getElem?_eq_getElem (by rw [HL4'.out]; exact hql)⟩
          obtain ⟨b, hb⟩ : ∃ b, L[q]? = some b := ⟨_, List.getElem?_eq_getElem (by rw [HA4.out.fresh.len, HL4'.out]; exact hql)⟩
          obtain ⟨hx0, hx1, hcase⟩ := HA4.out.fresh.gone hn6 hx hb
          have hx2 : x < 18446744073709551616 := by omega
          have hgv := HA4.out.given
          have hlv := HA4.out.lives
          rw [HL4'.out] at hgv hlv
          have d0 := own_cell hgv (GV_get hx)
          have d1 := own_cell hlv (LV_get hb)
          have z1 := own_frozen hlv q
          have ggb := own_ge hgv gG (by simp [Value.ownBlock])
          have glb := own_ge hlv gL (by simp [Value.ownBlock])
          have hgl : gG ≠ gL := fun e => own_ne hgv hlv (by decide) gG (by simp [Value.ownBlock]) (by rw [e]; simp [Value.ownBlock])
          have hq0 : (0 : Int) ≤ (q : Int) := by omega
          have hq1 : (q : Int) < (lG : Int) + 1 := by omega
          have hq2 : (q : Int) < ((lG + 1 : Nat) : Int) := by omega
          have HHX := hid hx
          have HHB := hid hb
          clear hx hb hgv hlv
          cases b with
          | true =>
            obtain ⟨p', hp', HF', hno⟩ := hcase.1 rfl
            clear hcase
            have HP' := hid hp'
            have HF5 := hid HF'
            have HNO := hid hno
            have hngg : gG ∉ [bl] := by simp; omega
            have hngl : gL ∉ [bl] := by simp; omega
            clear hp' HF' hno
            go_wp2_with fail
            go_region_held3 (fun w' => w'.cell? ⟨gG, q, none⟩ = some (.int .u64 x) ∧ w'.cell? ⟨gL, q, none⟩ = some (.bool true)) (first | exact ⟨d0, d1⟩ | exact ⟨hK5.cellSome d0 hngg, hK5.cellSome d1 hngl⟩) (first | (go_at_call 18; refine (gone_some (HA4.out.objs.keptN ((Kept.refl [] _).drew)) x hx0 hx2 HP'.out).mono ?_; rintro e w5 ⟨rfl, hO5, hK5⟩))
            have d0' := hK5.cellSome (show World.cell? (World.drew w4) _ = _ from d0) hngg
            have d1' := hK5.cellSome (show World.cell? (World.drew w4) _ = _ from d1) hngl
            have z1' : w5.frozen? ⟨gL, q, none⟩ = false := by rw [World.frozen?_of_block (hK5.block gL (World.block_lt_of_cell? _ _ d1) hngl)]; exact z1
            have hbo4 : bo ≠ gL := by omega
            have hbl4 : bl ≠ gL := by omega
            have hd06 : (w5.setCell ⟨gL, q, none⟩ (.bool false)).cell? ⟨gG, q, none⟩ = some (.int .u64 x) := ((Kept.refl [gL] w5).setCell (p := ⟨gL, q, none⟩) (.inl (by simp)) _).cellSome d0' (by simpa using hgl)
            have hK6 : Kept [bl, gL] w4 (w5.setCell ⟨gL, q, none⟩ (.bool false)) := (((Kept.refl [bl] w4).drew.trans hK5).mono (T := [bl, gL]) (by simp)).setCell (.inl (by simp)) _
            have hA6 : FreshAt w1 bo bl n (k + 1) (.slice (some ⟨gG, 0, none⟩) (lG + 1) capG) (.slice (some ⟨gL, 0, none⟩) (lG + 1) capL) (fun q => if q = p' then goneRow (f p') else f q) G (L.set q false) (w5.setCell ⟨gL, q, none⟩ (.bool false)) := by
              have ho := hO5.kept ((Kept.refl [gL] w5).setCell (p := ⟨gL, q, none⟩) (.inl (by simp)) (.bool false)) (by simpa using hbo4) (by simpa using hbl4)
              have hg5 := own_kept (S := [bl]) HA4.out.given ((Kept.refl [bl] w4).drew.trans hK5) (fun b hb => by have := own_ge HA4.out.given b hb; simp; omega)
              have hl5 := own_kept (S := [bl]) HA4.out.lives ((Kept.refl [bl] w4).drew.trans hK5) (fun b hb => by have := own_ge HA4.out.lives b hb; simp; omega)
              refine ⟨ho, HF5.out, own_set_ne hg5 _ (by simpa [Value.ownBlock] using fun e : gL = gG => hgl e.symm), ?_, ?_⟩
              · have := own_set hl5 q (.bool false)
                rw [show (LV L).set q (.bool false) = LV (L.set q false) by simp [LV, List.map_set]] at this
                exact this
              · have := HA4.out.size
                have := hK6.size
                omega
            have HA6 := hid hA6
            have HKA6 := hid (HKA.out.trans' hK6 (fun y hy => by
              have := HK1.out.size
              rcases List.mem_cons.1 hy with rfl | hy
              · exact .inr hbl
              · rw [List.mem_singleton.1 hy]; exact .inr (by omega)))
            generalize hw6 : w5.setCell ⟨gL, q, none⟩ (.bool false) = w6 at HA6 HKA6 hd06
            have HW6 := hid hw6
            clear hA6 hK6 hK5 hO5 hw6 d0 d1 z1
            go_wp2_with fail
            rw [HW6.out]
            clear HW6 d0' d1' z1'
            refine (find_none HA6.out.objs x 1 hx0 hx2 HNO.out).mono ?_
            rintro e w7 ⟨v, rfl, b7, rfl, hb7, hB7, hK7⟩
            have HB7 := hid hB7
            have HK7 := hid hK7
            have d07 := hK7.cellSome hd06 (by simp)
            clear hB7 hK7
            go_wp2_with fail
            refine (no_ok _ _ _ _).mono ?_
            rintro e w8 ⟨fb, rfl, hF, hfb, hK8⟩
            have HF8 := hid hF
            have HK8 := hid hK8
            have d08 := hK8.cellSome d07 (by simp)
            clear hF hK8
            go_wp2_with fail
            refine (same_hit b7 fb sObjects 0 7 (by decide) (by decide) _ (HGL.out.keptN ((HKA6.out.trans HK7.out).trans HK8.out)) (HB7.out.keptN HK8.out) HF8.out).mono ?_
            rintro e w9 ⟨rfl, hK9⟩
            have HK9 := hid hK9
            have d09 := hK9.cellSome d08 (by simp)
            clear hK9 d08 d07 hd06
            go_wp2_with fail
            refine (kind_ok (HA6.out.objs.keptN ((HK7.out.trans HK8.out).trans HK9.out)) x hx0 hx2).mono ?_
            rintro e w10 ⟨rfl, rfl⟩
            rw [kindOf_none HNO.out]
            go_wp2_with fail
            go_roundw
            case rel => exact ⟨k + 1, by omega, by omega, by go_num, _, G, L.set q false, HA6.out.keptN ((HK7.out.trans HK8.out).trans HK9.out), ((HKA6.out.trans HK7.out).trans HK8.out).trans HK9.out⟩
            case measure => simp [intOf]; omega
          | false =>
            obtain ⟨hno, hls⟩ := hcase.2 rfl
            clear hcase
            have HF5 := hid (show Fresh f n G (L.set q false) (k + 1) by rw [hls]; exact HA4.out.fresh)
            have HNO := hid hno
            have hngg : gG ∉ [bl] := by simp; omega
            have hngl : gL ∉ [bl] := by simp; omega
            clear hls hno
            go_wp2_with fail
            go_region_held3 (fun w' => w'.cell? ⟨gG, q, none⟩ = some (.int .u64 x) ∧ w'.cell? ⟨gL, q, none⟩ = some (.bool false)) (first | exact ⟨d0, d1⟩ | exact ⟨hK5.cellSome d0 hngg, hK5.cellSome d1 hngl⟩) (first | (go_at_call 18; refine (gone_none (HA4.out.objs.keptN ((Kept.refl [] _).drew)) x hx0 hx2 HNO.out).mono ?_; rintro e w5 ⟨be, rfl, hKN5⟩; have hK5 := Kept.nil (T := [bl]) hKN5; have hO5 := Objs.keptN (Objs.keptN (Hid.out HA4).objs (Kept.drew (Kept.refl [] _))) hKN5))
            have d0' := hK5.cellSome (show World.cell? (World.drew w4) _ = _ from d0) hngg
            have d1' := hK5.cellSome (show World.cell? (World.drew w4) _ = _ from d1) hngl
            have z1' : w5.frozen? ⟨gL, q, none⟩ = false := by rw [World.frozen?_of_block (hK5.block gL (World.block_lt_of_cell? _ _ d1) hngl)]; exact z1
            have hbo4 : bo ≠ gL := by omega
            have hbl4 : bl ≠ gL := by omega
            have hd06 : (w5.setCell ⟨gL, q, none⟩ (.bool false)).cell? ⟨gG, q, none⟩ = some (.int .u64 x) := ((Kept.refl [gL] w5).setCell (p := ⟨gL, q, none⟩) (.inl (by simp)) _).cellSome d0' (by simpa using hgl)
            have hK6 : Kept [bl, gL] w4 (w5.setCell ⟨gL, q, none⟩ (.bool false)) := (((Kept.refl [bl] w4).drew.trans hK5).mono (T := [bl, gL]) (by simp)).setCell (.inl (by simp)) _
            have hA6 : FreshAt w1 bo bl n (k + 1) (.slice (some ⟨gG, 0, none⟩) (lG + 1) capG) (.slice (some ⟨gL, 0, none⟩) (lG + 1) capL) f G (L.set q false) (w5.setCell ⟨gL, q, none⟩ (.bool false)) := by
              have ho := hO5.kept ((Kept.refl [gL] w5).setCell (p := ⟨gL, q, none⟩) (.inl (by simp)) (.bool false)) (by simpa using hbo4) (by simpa using hbl4)
              have hg5 := own_kept (S := [bl]) HA4.out.given ((Kept.refl [bl] w4).drew.trans hK5) (fun b hb => by have := own_ge HA4.out.given b hb; simp; omega)
              have hl5 := own_kept (S := [bl]) HA4.out.lives ((Kept.refl [bl] w4).drew.trans hK5) (fun b hb => by have := own_ge HA4.out.lives b hb; simp; omega)
              refine ⟨ho, HF5.out, own_set_ne hg5 _ (by simpa [Value.ownBlock] using fun e : gL = gG => hgl e.symm), ?_, ?_⟩
              · have := own_set hl5 q (.bool false)
                rw [show (LV L).set q (.bool false) = LV (L.set q false) by simp [LV, List.map_set]] at this
                exact this
              · have := HA4.out.size
                have := hK6.size
                omega
            have HA6 := hid hA6
            have HKA6 := hid (HKA.out.trans' hK6 (fun y hy => by
              have := HK1.out.size
              rcases List.mem_cons.1 hy with rfl | hy
              · exact .inr hbl
              · rw [List.mem_singleton.1 hy]; exact .inr (by omega)))
            generalize hw6 : w5.setCell ⟨gL, q, none⟩ (.bool false) = w6 at HA6 HKA6 hd06
            have HW6 := hid hw6
            clear hA6 hK6 hK5 hO5 hw6 d0 d1 z1
            go_wp2_with fail
            rw [HW6.out]
            clear HW6 d0' d1' z1'
            refine (find_none HA6.out.objs x 1 hx0 hx2 HNO.out).mono ?_
            rintro e w7 ⟨v, rfl, b7, rfl, hb7, hB7, hK7⟩
            have HB7 := hid hB7
            have HK7 := hid hK7
            have d07 := hK7.cellSome hd06 (by simp)
            clear hB7 hK7
            go_wp2_with fail
            refine (no_ok _ _ _ _).mono ?_
            rintro e w8 ⟨fb, rfl, hF, hfb, hK8⟩
            have HF8 := hid hF
            have HK8 := hid hK8
            have d08 := hK8.cellSome d07 (by simp)
            clear hF hK8
            go_wp2_with fail
            refine (same_hit b7 fb sObjects 0 7 (by decide) (by decide) _ (HGL.out.keptN ((HKA6.out.trans HK7.out).trans HK8.out)) (HB7.out.keptN HK8.out) HF8.out).mono ?_
            rintro e w9 ⟨rfl, hK9⟩
            have HK9 := hid hK9
            have d09 := hK9.cellSome d08 (by simp)
            clear hK9 d08 d07 hd06
            go_wp2_with fail
            refine (kind_ok (HA6.out.objs.keptN ((HK7.out.trans HK8.out).trans HK9.out)) x hx0 hx2).mono ?_
            rintro e w10 ⟨rfl, rfl⟩
            rw [kindOf_none HNO.out]
            go_wp2_with fail
            go_roundw
            case rel => exact ⟨k + 1, by omega, by omega, by go_num, _, G, L.set q false, HA6.out.keptN ((HK7.out.trans HK8.out).trans HK9.out), ((HKA6.out.trans HK7.out).trans HK8.out).trans HK9.out⟩
            case measure => simp [intOf]; omega
      · obtain rfl : k = 60 := by omega
        go_wp2_with fail
        refine (awake_ok _).mono ?_
        rintro e w6 ⟨rfl, hK6⟩
        have HK6 := hid hK6
        clear hK6
        go_wp2_with fail
        go_ret
        exact ⟨rfl, HK.out.trans HK6.out⟩
    · go_wp2_with fail
      refine (awake_ok _).mono ?_
      rintro e w6 ⟨rfl, hK6⟩
      have HK6 := hid hK6
      clear hK6
      go_wp2_with fail
      go_ret
      exact ⟨rfl, HK.out.trans HK6.out⟩

end Go.Proofs.YtecagnhffgajhaaDoor
