/- The document's ring (distaffref09) and distaffkeep.Words: contracts. -/
import Derived.Test.YtccfkpopjapmnaaDoorApp
import Derived.Test.YtccfkpopjapmnaaDoorRingLen
import Derived.Test.YtccfkpopjapmnaaDoorSame
namespace Go.Proofs.YtccfkpopjapmnaaDoor
open Go Go.RowKit

/-- The document's ring at block rb: what is there, in order; its row lies at base or behind it. -/
structure RRing (w : World) (rb M base : Nat) (L : List Int) : Prop where
  head : ∃ v, Blk w rb [v, .int .i64 M] ∧ w.ownsRow base 34 1 v L.length (GV L)
  low : rb < base
  top : base ≤ w.heap.size

theorem RRing.kept {S : List Nat} {w w' : World} {rb M base : Nat} {L : List Int} (h : RRing w rb M base L) (k : Kept S w w') (h1 : rb ∉ S) (h2 : ∀ x, x ∈ S → x < base ∨ w.heap.size ≤ x) : RRing w' rb M base L := by
  obtain ⟨v, hv, ho⟩ := h.head
  refine ⟨⟨v, hv.kept k h1, own_kept ho k (fun b hb hm => ?_)⟩, h.low, Nat.le_trans h.top k.size⟩
  obtain ⟨a, c, rfl⟩ := own_form' ho
  cases a with
  | none => simp [Value.ownBlock] at hb
  | some a =>
    rcases ho.2 with ⟨h0, _⟩ | ⟨g, cap, cur, h0, hg, hh, _⟩
    · cases h0
    · cases h0
      have := (Array.getElem?_eq_some_iff.1 hh).1
      simp [Value.ownBlock] at hb
      subst hb
      rcases h2 _ hm with h | h <;> omega
theorem RRing.keptN {w w' : World} {rb M base : Nat} {L : List Int} (h : RRing w rb M base L) (k : Kept [] w w') : RRing w' rb M base L := h.kept k (by simp) (by simp)

theorem GV_length (L : List Int) : (GV L).length = L.length := by simp [GV]
theorem GV_one (L : List Int) : ∀ u, u ∈ GV L → u.oneCell' = true := by
  intro u hu
  simp only [GV, List.mem_map] at hu
  obtain ⟨x, _, rfl⟩ := hu
  simp [Value.oneCell']

/-- '[]T{}': a row of the call's own. -/
theorem own_empty (w : World) (e size : Nat) : (w.alloc (.cells #[] e)).ownsRow w.heap.size e size (.slice (some ⟨w.heap.size, 0, none⟩) 0 0) 0 [] :=
  ⟨by simp, .inr ⟨w.heap.size, 0, #[], rfl, Nat.le_refl _, by show (w.heap.push _)[w.heap.size]? = _; simp, Nat.le_refl _, by unfold maxLen; omega, by simp, by simp⟩⟩

theorem rnewring_ok (M : Nat) (h1 : 1 ≤ M) (h2 : M ≤ 4096) (w : World) :
    Calls Tryd.prog 15 #[.int .i64 M] w fun e w' => ∃ rb, e = .returned (.tuple #[.pointer (some ⟨rb, 0, none⟩), .pointer none]) ∧ w.heap.size ≤ rb ∧ RRing w' rb M (rb + 1) [] ∧ Kept [] w w' := by
  go_enter Tryd.func15, Tryd.ntmps15
  go_wp2_with fail
  go_ret2
  exact ⟨w.heap.size, rfl, Nat.le_refl _, ⟨⟨_, Blk.newA _ _ rfl, rfl, .inl ⟨rfl, rfl⟩⟩, by omega, by simp⟩, (Kept.refl _ _).alloc _⟩

theorem rput_full {w : World} {rb M base : Nat} {L : List Int} (h : RRing w rb M base L) (hl : M ≤ L.length) (v : Int) :
    Calls Tryd.prog 19 #[.pointer (some ⟨rb, 0, none⟩), .int .u64 v] w fun e w' => ∃ b, e = .returned (.pointer (some ⟨b, 0, none⟩)) ∧ FailAt w' b sRing 0 3 ∧ Kept [] w w' := by
  obtain ⟨rv, hv, ho⟩ := h.head
  obtain ⟨av, cv, rfl⟩ := own_form' ho
  obtain ⟨n, hn⟩ : ∃ n, L.length = n := ⟨_, rfl⟩
  rw [hn] at hl hv ho
  have c0 := hv.cell (o := 0) rfl
  have c1 := hv.cell (o := 1) rfl
  have H := hid h
  clear h hv ho hn
  go_enter Tryd.func19, Tryd.ntmps19
  go_wp2_with fail
  go_quiet (fail)
  rename_i nq
  go_wp2_with fail
  refine (no_ok _ _ _ _).mono ?_
  rintro e w' ⟨b, rfl, h1, h2, h3⟩
  go_wp2_with fail
  go_ret
  exact ⟨b, rfl, h1, ((Kept.refl _ _).drewN nq).trans h3⟩

/-- The row's place in the head is another one now. -/
theorem RRing.mk' {w w' : World} {rb M base : Nat} {L : List Int} {v v' : Value} (hlow : rb < base) (hb : Blk w rb [v, .int .i64 M]) (hk : Kept [] w w') (hv : w'.ownsRow w.heap.size 34 1 v' L.length (GV L)) (htop : base ≤ w.heap.size) :
    RRing (w'.setCell ⟨rb, 0, none⟩ v') rb M base L := by
  have h1 := (hb.keptN hk).set 0 v'
  refine ⟨⟨v', h1.eq rfl, own_mono (ownsRow_setCell_below hv hb.lt _) htop⟩, hlow, ?_⟩
  have := hk.size
  simp
  omega

set_option maxRecDepth 100000 in
set_option maxHeartbeats 1000000 in
theorem rput_ok {w : World} {rb M base : Nat} {L : List Int} (h : RRing w rb M base L) (hl : L.length < M) (hM : M ≤ 4096) (v : Int) :
    Calls Tryd.prog 19 #[.pointer (some ⟨rb, 0, none⟩), .int .u64 v] w fun e w' => e = .returned (.pointer none) ∧ RRing w' rb M base (L ++ [v]) ∧ Kept [rb] w w' := by
  obtain ⟨rv, hv, ho⟩ := h.head
  have hlow := h.low
  have htop := h.top
  have hlt := hv.lt
  obtain ⟨av, cv, rfl⟩ := own_form' ho
  obtain ⟨n, hn⟩ : ∃ n, L.length = n := ⟨_, rfl⟩
  rw [hn] at hl hv ho
  have c0 := hv.cell (o := 0) rfl
  have c1 := hv.cell (o := 1) rfl
  have HV := hid hv
  have HO := hid ho
  have HN := hid hn
  clear h hv ho hn
  go_enter Tryd.func19, Tryd.ntmps19
  go_wp2_with fail
  go_quiet (fail)
  rename_i nq
  rw [decide_eq_false (show ¬ M ≤ n by omega)]
  have HK0 := hid ((Kept.refl [] w).drewN nq)
  obtain ⟨wq, hwq⟩ : ∃ wq, w.drewN nq = wq := ⟨_, rfl⟩
  rw [hwq] at HK0 ⊢
  have c0q := HK0.out.cellSome c0 (by simp)
  have hltq : rb < wq.heap.size := Nat.lt_of_lt_of_le hlt HK0.out.size
  have hszq := HK0.out.size
  clear hwq c0 c1
  go_wp2_with (at_builtin; go_must (refine wp_appN rfl _ _ 49 34 rfl Tryd.underlying49 info_u64 rfl (Nat.lt_succ_self 0) wq.heap.size (.slice (some ⟨wq.heap.size, 0, none⟩) 0 0) 0 [] rfl ?c1 (.slice av n cv) n (GV L) rfl ?c2 (GV_one L) ?c3 (Nat.le_of_ble_eq_true rfl) ?c4 ?_))
  case c1 => exact own_empty wq _ _
  case c2 => exact (own_src HO.out).keptN (HK0.out.alloc _)
  case c3 => omega
  case c4 => simp
  intro v1 w1 hW1 hK1 hne1
  have hs1 := hK1.size
  simp at hs1
  have hKa := HK0.out.alloc (.cells #[] 34)
  have HK1 := hid (hKa.trans' hK1 (fun x hx => .inr (by simp [Value.ownBlock] at hx; omega)))
  have HW1 := hid hW1
  clear hW1 hK1 hKa hne1
  go_wp2_with (at_builtin; go_must (refine wp_app1 rfl _ _ 49 34 rfl Tryd.underlying49 info_u64 rfl (Nat.lt_succ_self 0) wq.heap.size v1 n (GV L) rfl ?c1 w1.heap.size 1 [.int .u64 v] rfl rfl (Blk.newA _ _ rfl) ?c2 ?c3 (Nat.le_of_ble_eq_true rfl) ?c4 ?_))
  case c1 => exact own_keptN HW1.out ((Kept.refl _ _).alloc _)
  case c2 => simp [Value.oneCell']
  case c3 => omega
  case c4 => have := HK1.out.size; simp; omega
  intro g cap w2 hW2 hg hK2
  have HK2 := hid ((HK1.out.alloc (.cells #[.int .u64 v] 34)).trans' hK2 (fun x hx => .inr (Nat.le_trans hszq (own_ge HW1.out x hx))))
  have HW2 := hid hW2
  clear hW2 hK2
  have z0 := (HV.out.keptN HK2.out).frozen 0
  have c0' := HK2.out.cellSome (HV.out.cell (o := 0) rfl) (by simp)
  clear c0q
  go_wp2_with fail
  go_ret
  have hL : (L ++ [v]).length = n + 1 := by simp [HN.out]
  refine ⟨rfl, RRing.mk' (v := .slice av n cv) hlow HV.out HK2.out ?_ htop, (HK2.out.mono (by simp)).setCell (.inl (by simp)) _⟩
  rw [hL, GV_snoc]
  exact own_mono HW2.out hszq

theorem rtake_none {w : World} {rb M base : Nat} (h : RRing w rb M base []) :
    Calls Tryd.prog 16 #[.pointer (some ⟨rb, 0, none⟩)] w fun e w' => e = .returned (.tuple #[.int .u64 0, .bool false]) ∧ w = w' := by
  obtain ⟨rv, hv, ho⟩ := h.head
  obtain ⟨av, cv, rfl⟩ := own_form' ho
  have c0 := hv.cell (o := 0) rfl
  rw [List.length_nil] at c0
  clear h hv ho
  go_enter Tryd.func16, Tryd.ntmps16
  go_wp2_with fail
  go_ret2
  exact ⟨rfl, rfl⟩

/-- A piece of a row, as a source. -/
theorem src_piece {w : World} {base g n cap : Nat} {L : List Int} (h : w.ownsRow base 34 1 (.slice (some ⟨g, 0, none⟩) n cap) n (GV L)) (i m c : Nat) (hm : i + m ≤ n) (hn : L.length = n) :
    Src w (.slice (some ⟨g, i, none⟩) m c) m 1 (GV ((L.drop i).take m)) := by
  refine ⟨by simp [GV_length]; omega, .inr ⟨_, _, _, rfl, fun j u hu => ?_⟩⟩
  refine own_cell h ?_
  have hj : j < m := by
    have := (List.getElem?_eq_some_iff.1 hu).1
    rw [GV_length, List.length_take] at this
    omega
  rw [GV, List.getElem?_map, List.getElem?_take, if_pos hj, List.getElem?_drop] at hu
  rw [GV, List.getElem?_map]
  exact hu

set_option maxRecDepth 100000 in
set_option maxHeartbeats 1000000 in
theorem rtake_some {w : World} {rb M base : Nat} {x : Int} {L : List Int} (h : RRing w rb M base (x :: L)) (hM : L.length ≤ 4096) :
    Calls Tryd.prog 16 #[.pointer (some ⟨rb, 0, none⟩)] w fun e w' => e = .returned (.tuple #[.int .u64 x, .bool true]) ∧ RRing w' rb M base L ∧ Kept [rb] w w' := by
  obtain ⟨rv, hv, ho⟩ := h.head
  have hlow := h.low
  have htop := h.top
  have hlt := hv.lt
  rw [List.length_cons] at ho
  obtain ⟨g, cv, rfl, hg⟩ := own_form ho
  obtain ⟨n, hn⟩ : ∃ n, L.length = n := ⟨_, rfl⟩
  rw [hn] at hv ho hM
  have hcap : n + 1 ≤ cv ∧ cv ≤ maxLen := by
    rcases ho.2 with ⟨h0, _⟩ | ⟨g', cap', cur, h0, hg', hh, h1, h2, _⟩
    · cases h0
    · cases h0
      exact ⟨h1, h2⟩
  unfold maxLen at hcap
  have c0 := hv.cell (o := 0) rfl
  have d0 : w.cell? ⟨g, 0, none⟩ = some (.int .u64 x) := own_cell ho (by simp [GV])
  have HV := hid hv
  have HO := hid ho
  have HN := hid hn
  clear h hv ho hn
  go_enter Tryd.func16, Tryd.ntmps16
  have hsrc1 := hid (src_piece HO.out 1 n (cv - 1) (by omega) (by simp [HN.out]))
  have hdrop := hid (show GV (((x :: L).drop 1).take n) = GV L by simp [List.take_of_length_le (Nat.le_of_eq HN.out)])
  rw [hdrop.out] at hsrc1
  have hsrc0 := hid (fun (h : n = 0) => (show Src w (.slice (some ⟨g, 0, none⟩) n 0) n 1 (GV L) by
    subst h
    have e := List.eq_nil_of_length_eq_zero HN.out
    subst e
    exact Src.empty _ _ _ _ _))
  clear hdrop
  by_cases hcv : cv = 1
  · obtain rfl : n = 0 := by omega
    subst hcv
    go_wp2_with (at_builtin; go_must (refine wp_appN rfl _ _ 49 34 rfl Tryd.underlying49 info_u64 rfl (Nat.lt_succ_self 0) w.heap.size (.slice (some ⟨w.heap.size, 0, none⟩) 0 0) 0 [] rfl ?c1 (.slice (some ⟨g, 0, none⟩) 0 0) 0 (GV L) rfl ?c2 (GV_one L) ?c3 (Nat.le_of_ble_eq_true rfl) ?c4 ?_))
    case c1 => exact own_empty w _ _
    case c2 => exact (hsrc0.out trivial).keptN ((Kept.refl [] w).alloc _)
    intro v1 w1 hW1 hK1 hne1
    have HK1 := hid (((Kept.refl [] w).alloc (.cells #[] 34)).trans' hK1 (fun x hx => .inr (by simp [Value.ownBlock] at hx; omega)))
    obtain ⟨a1, cc1, rfl⟩ := own_form' hW1
    have HW1 := hid hW1
    clear hW1 hK1 hne1
    have z0 := (HV.out.keptN HK1.out).frozen 0
    have c0' := HK1.out.cellSome c0 (by simp)
    clear c0 d0
    go_wp2_with fail
    go_ret2
    refine ⟨rfl, RRing.mk' hlow HV.out HK1.out ?_ htop, (HK1.out.mono (by simp)).setCell (.inl (by simp)) _⟩
    rw [HN.out]
    exact HW1.out
  · go_wp2_with (at_builtin; go_must (refine wp_appN rfl _ _ 49 34 rfl Tryd.underlying49 info_u64 rfl (Nat.lt_succ_self 0) w.heap.size (.slice (some ⟨w.heap.size, 0, none⟩) 0 0) 0 [] rfl ?e1 (.slice (some ⟨g, 1, none⟩) n (cv - 1)) n (GV L) rfl ?e2 (GV_one L) ?e3 (Nat.le_of_ble_eq_true rfl) ?e4 ?_))
    case e1 => exact own_empty w _ _
    case e2 => exact hsrc1.out.keptN ((Kept.refl [] w).alloc _)
    case e3 => omega
    case e4 => simp
    intro v1 w1 hW1 hK1 hne1
    have HK1 := hid (((Kept.refl [] w).alloc (.cells #[] 34)).trans' hK1 (fun x hx => .inr (by simp [Value.ownBlock] at hx; omega)))
    obtain ⟨a1, cc1, rfl⟩ := own_form' hW1
    have HW1 := hid hW1
    clear hW1 hK1 hne1
    have z0 := (HV.out.keptN HK1.out).frozen 0
    have c0' := HK1.out.cellSome c0 (by simp)
    clear c0 d0
    go_wp2_with fail
    go_ret2
    refine ⟨rfl, RRing.mk' hlow HV.out HK1.out ?_ htop, (HK1.out.mono (by simp)).setCell (.inl (by simp)) _⟩
    rw [HN.out]
    exact HW1.out

set_option maxRecDepth 100000 in
set_option maxHeartbeats 1000000 in
theorem rdrop_ok {w : World} {rb M base : Nat} {L : List Int} (h : RRing w rb M base L) (hM : L.length ≤ 4096) (v : Int) :
    Calls Tryd.prog 18 #[.pointer (some ⟨rb, 0, none⟩), .int .u64 v] w fun e w' => e = .returned (.bool (decide (v ∈ L))) ∧ RRing w' rb M base (L.erase v) ∧ Kept [rb] w w' := by
  obtain ⟨rv, hv, ho⟩ := h.head
  have hlow := h.low
  have htop := h.top
  have hlt := hv.lt
  obtain ⟨av, cv, rfl⟩ := own_form' ho
  obtain ⟨n, hn⟩ : ∃ n, L.length = n := ⟨_, rfl⟩
  rw [hn] at hv ho hM
  have c0 := hv.cell (o := 0) rfl
  have HV := hid hv
  have HO := hid ho
  have HN := hid hn
  have HR := hid h
  clear h hv ho hn
  go_enter Tryd.func18, Tryd.ntmps18
  go_wp2_with fail
  go_loop [5] (fun i => ∃ k : Nat, k ≤ n ∧ i = .int .i64 k ∧ ∀ j, j < k → L[j]? ≠ some v) (fun i => n - (intOf i).toNat)
  case atStart => exact ⟨0, Nat.zero_le _, rfl, fun j hj => by omega⟩
  case round =>
    obtain ⟨k, hk, rfl, hb⟩ := hrel
    have HB := hid hb
    clear hb
    by_cases hlk : k < n
    · obtain ⟨x, hx⟩ : ∃ x, L[k]? = some x := ⟨_, List.getElem?_eq_getElem (by rw [HN.out]; exact hlk)⟩
      obtain ⟨g, eV, d0, hcv⟩ : ∃ g, av = some ⟨g, 0, none⟩ ∧ w.cell? ⟨g, k, none⟩ = some (.int .u64 x) ∧ n ≤ cv ∧ cv ≤ 9223372036854775807 := by
        obtain ⟨n', rfl⟩ : ∃ n', n = n' + 1 := ⟨n - 1, by omega⟩
        obtain ⟨g, c, e1, -⟩ := own_form HO.out
        cases e1
        refine ⟨g, rfl, own_cell HO.out (GV_get hx), ?_⟩
        rcases HO.out.2 with ⟨h0, _⟩ | ⟨g', cap', cur, h0, hg', hh, h1, h2, _⟩
        · cases h0
        · cases h0
          unfold maxLen at h2
          exact ⟨h1, by omega⟩
      subst eV
      have HX := hid hx
      clear hx
      by_cases e : x = v
      · have e' : (x == v) = true := by simpa using e
        have hmem := hid (show decide (v ∈ L) = true by rw [decide_eq_true_eq]; exact List.mem_of_getElem? (by rw [← e]; exact HX.out))
        have hera := hid (erase_at L v k (by rw [← e]; exact HX.out) HB.out)
        clear e
        have hs0 := hid (src_piece HO.out 0 k cv (by omega) HN.out)
        have hs1 := hid (src_piece HO.out (k + 1) (n - (k + 1)) (cv - (k + 1)) (by omega) HN.out)
        have hs2 := hid (Src.empty w g 0 0 1)
        have hl0 := hid (show ((L.drop 0).take k).length = k by simp [HN.out]; omega)
        go_wp2_with (at_builtin; go_must (refine wp_appN rfl _ _ 49 34 rfl Tryd.underlying49 info_u64 rfl (Nat.lt_succ_self 0) w.heap.size (.slice (some ⟨w.heap.size, 0, none⟩) 0 0) 0 [] rfl ?c1 (.slice (some ⟨g, 0, none⟩) k cv) k (GV ((L.drop 0).take k)) rfl ?c2 (GV_one _) ?c3 (Nat.le_of_ble_eq_true rfl) ?c4 ?_))
        case c1 => exact own_empty w _ _
        case c2 => exact hs0.out.keptN ((Kept.refl [] w).alloc _)
        case c3 => omega
        intro v1 w1 hW1 hK1 hne1
        obtain ⟨a1, cc1, rfl⟩ := own_form' hW1
        have HK1 := hid (((Kept.refl [] w).alloc (.cells #[] 34)).trans' hK1 (fun x hx => .inr (by simp [Value.ownBlock] at hx; omega)))
        have HW1 := hid hW1
        have hsz1 := HK1.out.size
        clear hW1 hK1 hne1
        have c0' := HK1.out.cellSome c0 (by simp)
        have z0 := (HV.out.keptN HK1.out).frozen 0
        clear c0 d0
        have hfin1 := hid (show GV (L.take k) ++ GV ((L.drop (k + 1)).take (n - (k + 1))) = GV (L.eraseIdx k) by
          rw [List.eraseIdx_eq_take_drop_succ, List.take_of_length_le (l := L.drop (k + 1)) (by rw [List.length_drop, HN.out]; exact Nat.le_refl _)]
          simp [GV])
        have hlen := hid (show (L.eraseIdx k).length = k + (n - (k + 1)) by rw [List.length_eraseIdx_of_lt (by rw [HN.out]; exact hlk), HN.out]; omega)
        by_cases hc : cv = k + 1
        · obtain rfl : n = k + 1 := by omega
          subst hc
          have hfin := hid (show GV (L.take k) = GV (L.eraseIdx k) by
            have := hfin1.out
            rw [Nat.sub_self, List.take_zero] at this
            simpa [GV] using this)
          have hlen0 := hid (show (L.eraseIdx k).length = k + 0 by have := hlen.out; omega)
          clear hfin1 hlen
          go_wp2_with (at_builtin; go_must (refine wp_appN rfl _ _ 49 34 rfl Tryd.underlying49 info_u64 rfl (Nat.lt_succ_self 0) w.heap.size (.slice a1 k cc1) k (GV ((L.drop 0).take k)) rfl ?f1 (.slice (some ⟨g, 0, none⟩) 0 0) 0 (([] : List Value)) rfl ?f2 (fun u hu => by simp at hu) ?f3 (Nat.le_of_ble_eq_true rfl) ?f4 ?_))
          case f1 => exact HW1.out
          case f2 => exact hs2.out.keptN HK1.out
          case f3 => omega
          case f4 => exact hsz1
          intro v2 w2 hW2 hK2 hne2
          obtain ⟨a2, cc2, rfl⟩ := own_form' hW2
          have HK2 := hid (HK1.out.trans' hK2 (fun x hx => .inr (own_ge HW1.out x hx)))
          have HW2 := hid hW2
          clear hW2 hK2 hne2
          have c0'' := HK2.out.cellSome (HV.out.cell (o := 0) rfl) (by simp)
          have z0' := (HV.out.keptN HK2.out).frozen 0
          clear c0' z0
          go_wp2_with fail
          go_ret
          rw [hmem.out, hera.out]
          refine ⟨rfl, RRing.mk' hlow HV.out HK2.out ?_ htop, (HK2.out.mono (by simp)).setCell (.inl (by simp)) _⟩
          have hW := HW2.out
          rw [hfin.out] at hW
          rw [hlen0.out]
          exact hW
        · go_wp2_with (at_builtin; go_must (refine wp_appN rfl _ _ 49 34 rfl Tryd.underlying49 info_u64 rfl (Nat.lt_succ_self 0) w.heap.size (.slice a1 k cc1) k (GV ((L.drop 0).take k)) rfl ?g1 (.slice (some ⟨g, k + 1, none⟩) (n - (k + 1)) (cv - (k + 1))) (n - (k + 1)) (GV ((L.drop (k + 1)).take (n - (k + 1)))) rfl ?g2 (GV_one _) ?g3 (Nat.le_of_ble_eq_true rfl) ?g4 ?_))
          case g1 => exact HW1.out
          case g2 => exact hs1.out.keptN HK1.out
          case g3 => omega
          case g4 => exact hsz1
          intro v2 w2 hW2 hK2 hne2
          obtain ⟨a2, cc2, rfl⟩ := own_form' hW2
          have HK2 := hid (HK1.out.trans' hK2 (fun x hx => .inr (own_ge HW1.out x hx)))
          have HW2 := hid hW2
          clear hW2 hK2 hne2
          have c0'' := HK2.out.cellSome (HV.out.cell (o := 0) rfl) (by simp)
          have z0' := (HV.out.keptN HK2.out).frozen 0
          clear c0' z0
          go_wp2_with fail
          go_ret
          rw [hmem.out, hera.out]
          refine ⟨rfl, RRing.mk' hlow HV.out HK2.out ?_ htop, (HK2.out.mono (by simp)).setCell (.inl (by simp)) _⟩
          have hW := HW2.out
          rw [hfin1.out] at hW
          rw [hlen.out]
          exact hW
      · have e' : (x == v) = false := by simpa using e
        have HE := hid e
        clear e
        go_wp2_with fail
        go_round
        case rel => exact ⟨k + 1, by omega, by go_num, fun j hj => by
          rcases Nat.lt_succ_iff_lt_or_eq.1 hj with h | h
          · exact HB.out j h
          · subst h; rw [HX.out]; intro h; exact HE.out (Option.some.inj h)⟩
        case measure => simp [intOf]; omega
    · go_wp2_with fail
      go_ret
      obtain ⟨e1, e2⟩ := erase_none (L := L) (v := v) (fun j => by
        by_cases h : j < k
        · exact HB.out j h
        · rw [List.getElem?_eq_none (by rw [HN.out]; omega)]; simp)
      rw [decide_eq_false e2, e1]
      exact ⟨rfl, HR.out, Kept.refl _ _⟩

theorem words_same (a b : Value) (n : Nat) (l : List Int) (hn : n ≤ 1000000000) (w : World) (ha : Src w a n 1 (GV l)) (hb : Src w b n 1 (GV l)) :
    Calls Tryd.prog 21 #[a, b] w fun e w' => e = .returned (.bool true) ∧ ∃ m, w' = w.drewN m := by
  obtain ⟨aa, ca, rfl⟩ := ha.form
  obtain ⟨ab, cb, rfl⟩ := hb.form
  have HA := hid ha
  have HB := hid hb
  have hl : l.length = n := by have := ha.1; rw [GV_length] at this; omega
  have HL := hid hl
  clear ha hb hl
  go_enter Tryd.func21, Tryd.ntmps21
  go_wp2_with fail
  go_loopw [5] (fun i wr => ∃ k m : Nat, k ≤ n ∧ i = .int .i64 k ∧ wr = w.drewN m) (fun i _ => n - (intOf i).toNat)
  case atStart => exact ⟨0, 0, Nat.zero_le _, rfl, rfl⟩
  case round =>
    obtain ⟨k, m, hk, rfl, rfl⟩ := hrel
    by_cases hlk : k < n
    · obtain ⟨x, hx⟩ : ∃ x, l[k]? = some x := ⟨_, List.getElem?_eq_getElem (by rw [HL.out]; exact hlk)⟩
      obtain ⟨g, i, rfl, d0⟩ := HA.out.at (GV_get hx)
      obtain ⟨g', i', rfl, d1⟩ := HB.out.at (GV_get hx)
      have HX := hid hx
      clear hx
      have hxx : (x != x) = false := by simp
      go_wp2_with fail
      go_quiet (fail)
      rename_i nq
      go_wp2_with fail
      go_roundw
      case rel => exact ⟨k + 1, m + nq, by omega, by go_num, rfl⟩
      case measure => simp [intOf]; omega
    · go_wp2_with fail
      go_ret
      exact ⟨rfl, m, rfl⟩

end Go.Proofs.YtccfkpopjapmnaaDoor
