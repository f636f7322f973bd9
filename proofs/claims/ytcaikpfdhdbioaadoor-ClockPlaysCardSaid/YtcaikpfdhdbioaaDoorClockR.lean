/- The document's clock (distaffref07): contracts. -/
import Derived.Test.YtcaikpfdhdbioaaDoorTail
import Derived.Test.YtcaikpfdhdbioaaDoorClockM
import Derived.Test.YtcaikpfdhdbioaaDoorClockD
import Derived.Deep.RegionHeld3
import Derived.Deep.DeepCutAuto
import Derived.Deep.CutBlock
namespace Go.Proofs.YtcaikpfdhdbioaaDoor
open Go Go.RowKit

theorem TV_one (L : List Th) : ∀ u, u ∈ TV L → u.oneCell' = true := by
  induction L with
  | nil => intro u hu; cases hu
  | cons t L ih =>
    intro u hu
    simp only [TV, List.mem_cons] at hu
    rcases hu with rfl | rfl | rfl | hu
    · rfl
    · rfl
    · rfl
    · exact ih u hu
theorem TV_drop : ∀ (L : List Th) (n : Nat), TV (L.drop n) = (TV L).drop (n * 3)
  | [], n => by simp [TV]
  | t :: L, 0 => by simp [TV]
  | t :: L, n + 1 => by
    rw [List.drop_succ_cons, TV, TV_drop L n, show (n + 1) * 3 = n * 3 + 1 + 1 + 1 by omega, List.drop_succ_cons, List.drop_succ_cons, List.drop_succ_cons]

/-- The document's clock at rb: who is armed, in order. -/
structure RefAt (w : World) (rb : Nat) (v : Value) (S : List Th) (last now : Nat) : Prop where
  head : Blk w rb [.int .u64 now, v, .int .i64 last]
  row : w.ownsRow 0 76 3 v S.length (TV S)
  far : rb ∉ v.ownBlock.toList
def RefIs (w : World) (rb : Nat) (U : List Nat) (S : List Th) (last now : Nat) : Prop := ∃ v, U = rb :: v.ownBlock.toList ∧ RefAt w rb v S last now

theorem RefIs.lt {w : World} {rb : Nat} {U : List Nat} {S : List Th} {last now : Nat} (h : RefIs w rb U S last now) : ∀ x, x ∈ U → x < w.heap.size := by
  obtain ⟨v, rfl, h⟩ := h
  intro x hx
  rcases List.mem_cons.1 hx with rfl | hx
  · exact h.head.lt
  · exact (h.row.lt x (by simpa using hx)).2
theorem RefIs.kept {T : List Nat} {w w' : World} {rb : Nat} {U : List Nat} {S : List Th} {last now : Nat} (h : RefIs w rb U S last now) (k : Kept T w w') (hT : ∀ x, x ∈ U → x ∉ T) : RefIs w' rb U S last now := by
  obtain ⟨v, rfl, h⟩ := h
  exact ⟨v, rfl, h.head.kept k (hT rb (by simp)), own_kept h.row k (fun b hb => hT b (List.mem_cons_of_mem _ hb)), h.far⟩
theorem RefIs.keptN {w w' : World} {rb : Nat} {U : List Nat} {S : List Th} {last now : Nat} (h : RefIs w rb U S last now) (k : Kept [] w w') : RefIs w' rb U S last now := h.kept k (fun _ _ => by simp)

theorem info_rthing : (Tryd.prog.info? 76).map (fun i => (i.zero, i.size, i.bytes)) = some (some (.agg #[.int .u64 0, .int .u64 0, .int .i64 0]), 3, 24) := by kernel_rfl
theorem size_rthing : (Tryd.prog.info? 76).map (·.size) = some 3 := by kernel_rfl

/-- A new row is laid into the head. -/
theorem RefAt.lay {w w' : World} {rb : Nat} {v v' : Value} {S S' : List Th} {last last' now : Nat} (h : RefAt w rb v S last now) (hb : Blk w' rb [.int .u64 now, v, .int .i64 last']) (hk : Kept [rb] w w') (hv : w'.ownsRow w.heap.size 76 3 v' S'.length (TV S')) :
    RefIs (w'.setCell ⟨rb, 1, none⟩ v') rb (rb :: v'.ownBlock.toList) S' last' now ∧ (∀ x, x ∈ rb :: v'.ownBlock.toList → x ∈ rb :: v.ownBlock.toList ∨ w.heap.size ≤ x) ∧ Kept (rb :: v.ownBlock.toList) w (w'.setCell ⟨rb, 1, none⟩ v') := by
  have hl := h.head.lt
  have hge := own_ge hv
  have hf : rb ∉ v'.ownBlock.toList := fun hm => by have := hge rb hm; omega
  refine ⟨⟨v', rfl, hb.set 1 v', own_set_ne (own_mono hv (Nat.zero_le _)) _ hf, hf⟩, fun x hx => ?_, (hk.mono (by simp)).setCell (.inl (by simp)) _⟩
  rcases List.mem_cons.1 hx with rfl | hx
  · exact .inl (by simp)
  · exact .inr (hge x hx)

theorem ins_take {t : Th} {S : List Th} {k : Nat} (hk : k ≤ S.length) (h1 : ∀ j, j < k → ¬ Ah t (tat S j)) (h2 : k < S.length → Ah t (tat S k)) : insT t S = S.take k ++ t :: S.drop k := by
  induction S generalizing k with
  | nil => simp at hk; subst hk; rfl
  | cons s S ih =>
    cases k with
    | zero =>
      have : Ah t s := h2 (by simp)
      rw [insT, if_pos (ahB_true this)]
      rfl
    | succ k =>
      have : ¬ Ah t s := h1 0 (by omega)
      rw [insT, if_neg (by rw [ahB_false this]; simp), ih (k := k) (by simpa using hk) (fun j hj => h1 (j + 1) (by omega)) (fun hj => h2 (by simpa using hj))]
      rfl

set_option maxRecDepth 100000 in
set_option maxHeartbeats 4000000 in
theorem rput_ok {w : World} {rb : Nat} {U : List Nat} {S : List Th} {last now : Nat} (h : RefIs w rb U S last now) (hS : S.length ≤ 100000) (hla : last ≤ 1000000) (hle : ∀ s, s ∈ S → s.h ≤ last) (d x : Nat) :
    Calls Tryd.prog 30 #[.pointer (some ⟨rb, 1, none⟩), .int .u64 d, .int .u64 x] w fun e w' => e = .returned (.int .i64 ((last + 1 : Nat) : Int)) ∧ ∃ U', RefIs w' rb U' (insT ⟨d, x, last + 1⟩ S) (last + 1) now ∧ (∀ y, y ∈ U' → y ∈ U ∨ w.heap.size ≤ y) ∧ Kept U w w' := by
  obtain ⟨v, rfl, h⟩ := h
  obtain ⟨n, hn⟩ : ∃ n, S.length = n := ⟨_, rfl⟩
  have hrow := h.row
  rw [hn] at hS hrow
  obtain ⟨av, cv, rfl⟩ := own_form' hrow
  have c1 := h.head.cell (o := 1) rfl
  have c2 := h.head.cell (o := 2) rfl
  have z2 := h.head.frozen 2
  obtain ⟨l1, hl1⟩ : ∃ l1, last + 1 = l1 := ⟨_, rfl⟩
  have hl1I : (last : Int) + 1 = (l1 : Int) := by omega
  obtain ⟨w1, hw1⟩ : ∃ w1, w.setCell ⟨rb, 2, none⟩ (.int .i64 l1) = w1 := ⟨_, rfl⟩
  have hK1 : Kept [rb] w w1 := by rw [← hw1]; exact (Kept.refl _ _).setCell (.inl (by simp)) _
  have hB1 : Blk w1 rb [.int .u64 now, .slice av n cv, .int .i64 l1] := by rw [← hw1]; exact h.head.set 2 _
  have hrow1 : w1.ownsRow 0 76 3 (.slice av n cv) n (TV S) := own_kept hrow hK1 (fun b hb1 hb2 => by rw [List.mem_singleton.1 hb2] at hb1; exact h.far hb1)
  have H := hid h
  have HN := hid hn
  have HL1 := hid hl1
  have HLE := hid hle
  have HW1 := hid hw1
  have HK1 := hid hK1
  have HB1 := hid hB1
  have HR1 := hid hrow1
  have hl1b : l1 ≤ 1000001 := by omega
  rw [hl1]
  clear h hn hl1 hle hw1 hK1 hB1 hrow hrow1
  go_enter Tryd.func30, Tryd.ntmps30
  go_upto_block 0 with fail
  rw [HW1.out]
  clear hl1I c1 c2 z2 HW1
  have c1 := HB1.out.cell (o := 1) rfl
  have c2 := HB1.out.cell (o := 2) rfl
  go_cut [7] (fun s7 wx => wx = w1 ∧ ∃ k : Nat, k ≤ n ∧ s7 = .int .i64 k ∧ (∀ j, j < k → (tat S j).d ≤ d) ∧ (k < n → d < (tat S k).d))
  case first =>
    go_wp2_with fail
    go_loop [7] (fun s7 => ∃ k : Nat, k ≤ n ∧ s7 = .int .i64 k ∧ ∀ j, j < k → (tat S j).d ≤ d) (fun s7 => n - (intOf s7).toNat)
    case atStart => exact ⟨0, Nat.zero_le _, rfl, fun j hj => by omega⟩
    case round =>
      obtain ⟨k, hk, rfl, hd⟩ := hrel
      have HD := hid hd
      clear hd
      by_cases hlt : k < n
      · obtain ⟨g, rfl, d0⟩ : ∃ g, av = some ⟨g, 0, none⟩ ∧ w1.cell? ⟨g, k * 3, none⟩ = some (.int .u64 (tat S k).d) := by
          obtain ⟨m, rfl⟩ : ∃ m, n = m + 1 := ⟨n - 1, by omega⟩
          obtain ⟨g, c, e1, -⟩ := own_form HR1.out
          cases e1
          exact ⟨g, rfl, own_cell HR1.out (TV_get0 (tat_get (by rw [HN.out]; exact hlt))).1⟩
        obtain ⟨y, hy⟩ : ∃ y, (tat S k).d = y := ⟨_, rfl⟩
        rw [hy] at d0
        have HY := hid hy
        clear hy
        by_cases hyd : y ≤ d
        · have hyI : (y : Int) ≤ (d : Int) := by omega
          go_wp2_with fail
          go_round
          case rel => exact ⟨k + 1, by omega, by go_num, fun j hj => by
            rcases Nat.lt_succ_iff_lt_or_eq.1 hj with h | h
            · exact HD.out j h
            · subst h; rw [HY.out]; exact hyd⟩
          case measure => simp [intOf]; omega
        · have hyI : ¬ (y : Int) ≤ (d : Int) := by omega
          go_wp2_with fail
          go_meet
          exact ⟨rfl, k, hk, rfl, HD.out, fun _ => by rw [HY.out]; omega⟩
      · have hge : ¬ (k : Int) < (n : Int) := by omega
        go_wp2_with fail
        go_meet
        exact ⟨rfl, k, hk, rfl, HD.out, fun h => absurd h hlt⟩
  case rest =>
    obtain ⟨rfl, k, hk, rfl, hd1, hd2⟩ := hcut
    have HINS := hid (show insT ⟨d, x, l1⟩ S = S.take k ++ ⟨d, x, l1⟩ :: S.drop k from ins_take (by rw [HN.out]; exact hk) (fun j hj => by
      have h1 := hd1 j hj
      have h2 := HLE.out _ (tat_mem (V := S) (i := j) (by rw [HN.out]; omega))
      have := HL1.out
      unfold Ah
      simp only
      omega) (fun hj => by
      have h1 := hd2 (by rw [← HN.out]; exact hj)
      unfold Ah
      exact .inl h1))
    clear hd1 hd2
    have hl1w := HB1.out.lt
    go_wp2_with (first
      | (with_reducible refine wp_sliceHead rfl (.tmp 41) (.tmp 42) 42 76 rfl Tryd.underlying42 size_rthing 0 (.slice av n cv) n k (TV S) (k : Int) rfl rfl rfl HR1.out hk ?_; intro x1 hx1; rw [← TV_take] at hx1)
      | (at_builtin; refine wp_appN rfl (.tmp 37) (.tmp 43) 42 76 rfl Tryd.underlying42 info_rthing rfl (by decide) wc.heap.size (.slice none 0 0) 0 [] rfl (World.ownsRow_nil _ _ _ _) x1 k (TV (S.take k)) rfl hx1 (TV_one _) (by omega) (by decide) (Nat.le_refl _) ?_; intro v2 w2 hW2 hK2 _; have HK2 := hid (show Kept [] wc w2 from hK2.mono (by simp [Value.ownBlock])); have c1' := HK2.out.cellSome c1 (by simp); have c2' := HK2.out.cellSome c2 (by simp); have HW2 := hid (show w2.ownsRow wc.heap.size 76 3 v2 k (TV (S.take k)) by simpa using hW2); have hsz2 := HK2.out.size; clear hW2 hK2 hx1)
      | (at_builtin; refine wp_app1 rfl (.tmp 45) (.tmp 53) 42 76 rfl Tryd.underlying42 info_rthing rfl (by decide) wc.heap.size v2 k (TV (S.take k)) rfl (HW2.out.alloc _) w2.heap.size 1 [.int .u64 d, .int .u64 x, .int .i64 l1] rfl rfl (Blk.newA _ _ rfl) (by simp [Value.oneCell']) (by omega) (by decide) (by simp; omega) ?_; intro g3 cap3 w3 hW3 hg3 hK3; have HK3 := hid (show Kept [] wc w3 from (HK2.out.alloc _).trans' hK3 (fun y hy => .inr (own_ge HW2.out y hy))); have HW3 := hid (show w3.ownsRow wc.heap.size 76 3 (.slice (some ⟨g3, 0, none⟩) (k + 1) cap3) (k + 1) (TV (S.take k ++ [⟨d, x, l1⟩])) by rw [TV_append]; exact hW3); have hsz3 := HK3.out.size; have c1'' := (HB1.out.keptN HK3.out).cell (o := 1) rfl; clear hW3 hK3 hg3 c1' c2')
      | (with_reducible refine wp_sliceTail rfl (.tmp 60) (.tmp 61) 42 76 rfl Tryd.underlying42 size_rthing 0 (.slice av n cv) n k (TV S) (k : Int) rfl rfl rfl (own_keptN HR1.out HK3.out) hk ?_; intro x2 hx2; rw [← TV_drop] at hx2)
      | (at_builtin; refine wp_appN rfl (.tmp 56) (.tmp 62) 42 76 rfl Tryd.underlying42 info_rthing rfl (by decide) wc.heap.size (.slice (some ⟨g3, 0, none⟩) (k + 1) cap3) (k + 1) (TV (S.take k ++ [⟨d, x, l1⟩])) rfl HW3.out x2 (n - k) (TV (S.drop k)) rfl hx2 (TV_one _) (by omega) (by decide) hsz3 ?_; intro v4 w4 hW4 hK4 _; obtain ⟨a4, q4, rfl⟩ := own_form' hW4; have HK4 := hid (show Kept [] wc w4 from HK3.out.trans' hK4 (fun y hy => .inr (own_ge HW3.out y hy))); have HW4 := hid hW4; have c2''' := (HB1.out.keptN HK4.out).cell (o := 2) rfl; have z1 := (HB1.out.keptN HK4.out).frozen 1; have c1''' := (HB1.out.keptN HK4.out).cell (o := 1) rfl; clear c1'' hx2 hW4 hK4))
    go_ret
    have e : (insT ⟨d, x, l1⟩ S).length = k + 1 + (n - k) := by rw [(insT_perm _ _).length_eq, List.length_cons, HN.out]; omega
    have hrow : w4.ownsRow w.heap.size 76 3 (.slice a4 (k + 1 + (n - k)) q4) (insT ⟨d, x, l1⟩ S).length (TV (insT ⟨d, x, l1⟩ S)) := by
      have := HW4.out
      rw [← TV_append, List.append_assoc, List.singleton_append, ← HINS.out] at this
      rw [e]
      exact own_mono this HK1.out.size
    have hlay := H.out.lay (HB1.out.keptN HK4.out) (HK1.out.trans HK4.out.nil) hrow
    exact ⟨by go_num, _, hlay.1, fun y hy => by simpa using hlay.2.1 y hy, hlay.2.2⟩

end Go.Proofs.YtcaikpfdhdbioaaDoor
