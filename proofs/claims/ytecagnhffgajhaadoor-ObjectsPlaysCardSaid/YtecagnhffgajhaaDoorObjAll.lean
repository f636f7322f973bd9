/- package objects: what All tells, and the law's own 'all'. -/
import Derived.Test.YtecagnhffgajhaaDoorObj
import Derived.OwnWalk
import Derived.Maps.AppendAt
import Derived.WalkSmall
namespace Go.Proofs.YtecagnhffgajhaaDoor
open Go Go.RowKit

/-- Those that somebody has among the first n places: handle and address. -/
def alive (f : Nat → Row) (n : Nat) : List (Int × Int) := ((List.range n).filter fun p => (f p).handle != 0).map fun p => ((f p).handle, (f p).addr)
theorem alive_succ_no {f : Nat → Row} {n : Nat} (h : (f n).handle = 0) : alive f (n + 1) = alive f n := by
  simp [alive, List.range_succ, List.filter_append, h]
theorem alive_succ_yes {f : Nat → Row} {n : Nat} (h : (f n).handle ≠ 0) : alive f (n + 1) = alive f n ++ [((f n).handle, (f n).addr)] := by
  simp [alive, List.range_succ, List.filter_append, h]
theorem alive_length_le (f : Nat → Row) (n : Nat) : (alive f n).length ≤ n := by
  unfold alive
  rw [List.length_map]
  exact Nat.le_trans (List.length_filter_le _ _) (by simp)
theorem alive_prefix (f : Nat → Row) {k n : Nat} (h : k ≤ n) : alive f k <+: alive f n := by
  induction n with
  | zero => obtain rfl : k = 0 := by omega
            exact List.prefix_refl _
  | succ n ih =>
    rcases Nat.lt_or_ge k (n + 1) with h1 | h1
    · refine (ih (by omega)).trans ?_
      by_cases e : (f n).handle = 0
      · rw [alive_succ_no e]; exact List.prefix_refl _
      · rw [alive_succ_yes e]; exact List.prefix_append _ _
    · obtain rfl : k = n + 1 := by omega
      exact List.prefix_refl _

def pairV (x : Int × Int) : List Value := [.int .u64 x.1, .int .u64 x.2]
def pairsV (l : List (Int × Int)) : List Value := l.flatMap pairV
theorem pairsV_snoc (l : List (Int × Int)) (x : Int × Int) : pairsV (l ++ [x]) = pairsV l ++ [.int .u64 x.1, .int .u64 x.2] := by simp [pairsV, pairV]

theorem info_pair : (Tryd.prog.info? 87).map (fun i => (i.zero, i.size, i.bytes)) = some (some (.agg #[.int .u64 0, .int .u64 0]), 2, 16) := by kernel_rfl

set_option maxRecDepth 100000 in
set_option maxHeartbeats 1000000 in
/-- The law's closure: one more is laid at the list's end; is there room for more? -/
theorem yield_ok (h a : Int) (pl pm base : Nat) (v : Value) (l : List (Int × Int)) (most : Int) (w : World) (hl : w.cell? ⟨pl, 0, none⟩ = some v) (hf : w.frozen? ⟨pl, 0, none⟩ = false)
    (hm : w.cell? ⟨pm, 0, none⟩ = some (.int .i64 most)) (hne : pl ≠ pm) (hown : w.ownsRow base 87 2 v l.length (pairsV l)) (hpl : pl < base) (hpm : pm < base) (hb : base ≤ w.heap.size) (hn : l.length ≤ 5000) :
    Calls Tryd.prog 31 #[.int .u64 h, .int .u64 a, .pointer (some ⟨pl, 0, none⟩), .pointer (some ⟨pm, 0, none⟩)] w fun e w' =>
      e = .returned (.bool (decide (((l.length + 1 : Nat) : Int) < most))) ∧ ∃ v', w'.cell? ⟨pl, 0, none⟩ = some v' ∧ w'.frozen? ⟨pl, 0, none⟩ = false ∧
        w'.ownsRow base 87 2 v' (l ++ [(h, a)]).length (pairsV (l ++ [(h, a)])) ∧ Kept (pl :: v.ownBlock.toList) w w' := by
  obtain ⟨i0, hi, hz0, hz1, hz2⟩ := info_parts info_pair
  go_enter Tryd.func31, Tryd.ntmps31
  go_wp2_with (at_builtin; refine wpList_append_own _ rfl _ _ 56 rfl base 87 i0 _ 2 16 Tryd.underlying56 hi hz0 hz1 hz2 rfl (by decide) v l.length (pairsV l) rfl (hown.alloc _) ⟨w.heap.size, 0, none⟩ 1 1 [.int .u64 h, .int .u64 a] rfl rfl (cell_two_new _ _ _ _) ?c1 ?c2 ?c3 ?c4 ?_)
  case c1 => simp [Value.oneCell']
  case c2 => unfold maxLen; omega
  case c3 => omega
  case c4 => simp; omega
  intro v' w1 hown' hgrow _
  have hK : Kept v.ownBlock.toList w w1 := ((Kept.refl _ _).alloc _).grown hgrow (fun k e => .inl (by rw [e]; simp))
  have hnl : pl ∉ v.ownBlock.toList := fun hm => by have := own_ge hown pl hm; omega
  have hnm : pm ∉ v.ownBlock.toList := fun hm => by have := own_ge hown pm hm; omega
  have hl1 := hK.cellSome hl hnl
  have hm1 := hK.cellSome hm hnm
  have hf1 : w1.frozen? ⟨pl, 0, none⟩ = false := by rw [World.frozen?_of_block (hK.block pl (World.block_lt_of_cell? _ _ hl) hnl)]; exact hf
  obtain ⟨g, cap, rfl, hg⟩ := own_form hown'
  clear hnl hnm hf hl hm
  have HG := hid hgrow
  clear hgrow
  go_wp2
  go_ret
  refine ⟨by first | rfl | simp, _, World.cell?_setCell_same _ _ _ hl1, by rw [World.frozen?_setCell]; exact hf1, ?_, ?_⟩
  · rw [pairsV_snoc, List.length_append]
    exact ownsRow_setCell_below hown' hpl _
  · exact (hK.mono (by simp; intro x hx; exact .inr hx)).setCell (.inl (by simp)) _

/-- What the loop over the copy leaves, when 'pre' has been told. -/
structure Told (pl pm base : Nat) (most : Int) (w0 : World) (pre : List (Int × Int)) (w : World) : Prop where
  box : ∃ v, w.cell? ⟨pl, 0, none⟩ = some v ∧ w.ownsRow base 87 2 v pre.length (pairsV pre)
  froz : w.frozen? ⟨pl, 0, none⟩ = false
  room : w.cell? ⟨pm, 0, none⟩ = some (.int .i64 most)
  kept : Kept [pl] w0 w

theorem Told.next {pl pm base : Nat} {most : Int} {w0 w w' : World} {pre : List (Int × Int)} (h : Told pl pm base most w0 pre w) (k : Kept [] w w') : Told pl pm base most w0 pre w' := by
  obtain ⟨⟨v, h1, h2⟩, h3, h4, h5⟩ := h
  exact ⟨⟨v, k.cellSome h1 (by simp), own_keptN h2 k⟩, by rw [World.frozen?_of_block (k.block pl (World.block_lt_of_cell? _ _ h1) (by simp))]; exact h3, k.cellSome h4 (by simp), h5.trans k.nil⟩

theorem Told.wide {pl pm : Nat} {most : Int} {w0 w1 w : World} {pre : List (Int × Int)} (h : Told pl pm w1.heap.size most w1 pre w) (k : Kept [] w0 w1) : Told pl pm w0.heap.size most w0 pre w := by
  obtain ⟨⟨v, h1, h2⟩, h3, h4, h5⟩ := h
  exact ⟨⟨v, h1, own_mono h2 k.size⟩, h3, h4, k.nil.trans h5⟩

theorem yield_told {pl pm : Nat} {most : Int} {w0 w : World} {pre : List (Int × Int)} (h : Told pl pm w0.heap.size most w0 pre w) (x : Int × Int) (hne : pl ≠ pm) (hpl : pl < w0.heap.size) (hpm : pm < w0.heap.size) (hn : pre.length ≤ 5000) :
    Calls Tryd.prog 31 #[.int .u64 x.1, .int .u64 x.2, .pointer (some ⟨pl, 0, none⟩), .pointer (some ⟨pm, 0, none⟩)] w fun e w' =>
      e = .returned (.bool (decide (((pre.length + 1 : Nat) : Int) < most))) ∧ Told pl pm w0.heap.size most w0 (pre ++ [x]) w' := by
  obtain ⟨⟨v, h1, h2⟩, h3, h4, h5⟩ := h
  refine (yield_ok x.1 x.2 pl pm w0.heap.size v pre most w h1 h3 h4 hne h2 hpl hpm h5.size hn).mono ?_
  rintro e w' ⟨rfl, v', q1, q2, q3, q4⟩
  refine ⟨rfl, ⟨v', q1, q3⟩, q2, ?_, h5.trans' q4 ?_⟩
  · refine q4.cellSome h4 ?_
    simp only [List.mem_cons, not_or]
    exact ⟨fun e => hne e.symm, fun hm => by have := own_ge h2 pm hm; omega⟩
  · intro y hy
    rcases List.mem_cons.1 hy with rfl | hy
    · exact .inl (by simp)
    · exact .inr (own_ge h2 y hy)

theorem take_alive {f : Nat → Row} {k n : Nat} {most : Int} (hk : k ≤ n) (h : ((alive f k).length : Int) = most ∨ (k = n ∧ ((alive f k).length : Int) < most)) : (alive f n).take most.toNat = alive f k := by
  rcases h with h | ⟨rfl, h⟩
  · obtain ⟨t, ht⟩ := alive_prefix f hk
    rw [← ht, List.take_append_of_le_length (by omega), List.take_of_length_le (by omega)]
  · rw [List.take_of_length_le (by omega)]

set_option maxRecDepth 100000 in
set_option maxHeartbeats 2000000 in
theorem tells_ok {w : World} {bo bl n : Nat} {f : Nat → Row} (hO : Objs w bo bl n f) (hn0 : 1 ≤ n) (px pl pm : Nat) (most : Int) (hm : 1 ≤ most) (hx : w.cell? ⟨px, 0, none⟩ = some (.pointer (some ⟨bo, 0, none⟩)))
    (hl : w.cell? ⟨pl, 0, none⟩ = some (.slice none 0 0)) (hf : w.frozen? ⟨pl, 0, none⟩ = false) (hr : w.cell? ⟨pm, 0, none⟩ = some (.int .i64 most)) (hne : pl ≠ pm) :
    Calls Tryd.prog 37 #[.func (.func 31) #[] #[.pointer (some ⟨pl, 0, none⟩), .pointer (some ⟨pm, 0, none⟩)], .pointer (some ⟨px, 0, none⟩)] w fun e w' =>
      e = .returned (.tuple #[]) ∧ Told pl pm w.heap.size most w ((alive f n).take most.toNat) w' := by
  obtain ⟨i0, hi, hz0, hz1, hz2⟩ := info_parts info_row
  have c0 := hO.c0
  have hn := hO.small
  go_enter Tryd.func37, Tryd.ntmps37
  have hx0 : px < w.heap.size := World.block_lt_of_cell? _ _ hx
  have hb0 : bo < w.heap.size := World.block_lt_of_cell? _ _ c0
  have hbl : bl < w.heap.size := hO.rows.lt
  have HO : Hid (Objs w bo bl n f) := hO
  clear hO
  go_wp2_with (at_builtin; refine wpList_append_own _ rfl _ _ 65 rfl w.heap.size 79 i0 _ 4 32 Tryd.underlying65 hi hz0 hz1 hz2 rfl (by decide) _ 0 [] rfl ?c0 ⟨bl, 0, none⟩ n n (rowsOf 4 (fun p => (f p).v) n) rfl (rowsOf_length _ _ _) ?c5 ?c1 ?c2 ?c3 ?c4 ?_)
  case c0 => exact ⟨rfl, .inr ⟨w.heap.size, 0, #[], rfl, Nat.le_refl _, by show (w.heap.push _)[w.heap.size]? = _; simp, Nat.le_refl _, by decide, rfl, rfl⟩⟩
  case c5 =>
    intro j u hu
    rw [Addr.add_lit, Nat.zero_add]
    exact (HO.out.rows.alloc _).cell hu
  case c1 =>
    intro u hu
    simp only [rowsOf, List.mem_map] at hu
    obtain ⟨i, _, rfl⟩ := hu
    have : i % 4 < 4 := Nat.mod_lt _ (by decide)
    match i % 4, this with
    | 0, _ => rfl
    | 1, _ => rfl
    | 2, _ => rfl
    | 3, _ => rfl
  case c2 => unfold maxLen; omega
  case c3 => omega
  case c4 => simp
  intro v' w1 hown' hgrow _
  obtain ⟨m, rfl⟩ : ∃ m, n = m + 1 := ⟨n - 1, by omega⟩
  obtain ⟨g, cap, rfl, hg⟩ := own_form hown'
  have hK : Kept [] w w1 := by
    refine ⟨hgrow.os, hgrow.tape, hgrow.output, by have := hgrow.size; simp at this; omega, fun k hk _ => ?_⟩
    rw [hgrow.block k (by simp; omega) (by simp [Value.ownBlock]; omega), Below.heap_alloc _ _ _ hk]
  have hl1 : w1.cell? ⟨pl, 0, none⟩ = some (.slice none 0 0) := hK.cellSome hl (by simp)
  have hr1 := hK.cellSome hr (by simp)
  have hf1 : w1.frozen? ⟨pl, 0, none⟩ = false := by rw [World.frozen?_of_block (hK.block pl (World.block_lt_of_cell? _ _ hl) (by simp))]; exact hf
  have hgl := own_lt hown'
  have hpl : pl < w.heap.size := World.block_lt_of_cell? _ _ hl
  have hpm : pm < w.heap.size := World.block_lt_of_cell? _ _ hr
  have hT : Told pl pm w1.heap.size most w1 [] w1 := ⟨⟨_, hl1, rfl, .inl ⟨rfl, rfl⟩⟩, hf1, hr1, Kept.refl _ _⟩
  have hsz : w.heap.size ≤ w1.heap.size := hK.size
  have HOwn := hid hown'
  have HK := hid hK
  clear hown' hgrow hK hl hf hr hl1 hr1 hf1 hx c0
  go_wp2_with fail
  go_loopw [12] (fun i wr => ∃ k : Nat, k ≤ m + 1 ∧ i = .int .i64 k ∧ ((alive f k).length : Int) < most ∧ Told pl pm w1.heap.size most w1 (alive f k) wr) (fun i _ => m + 1 - (intOf i).toNat)
  case atStart => exact ⟨0, Nat.zero_le _, rfl, by simp [alive]; omega, hT⟩
  case round =>
    obtain ⟨k, hk, rfl, hlm, hTk⟩ := hrel
    have HT := hid hTk
    have HM := hid hlm
    clear hT hTk hlm
    by_cases hlt : k < m + 1
    · have HO2 := own_kept HOwn.out HT.out.kept (fun b hb => by simp [Value.ownBlock] at hb; simp; omega)
      have d0 := own_cell HO2 (rowsOf_get (fun p => (f p).v) hlt (show 0 < 4 by omega))
      have d1 := own_cell HO2 (rowsOf_get (fun p => (f p).v) hlt (show 1 < 4 by omega))
      have d2 := own_cell HO2 (rowsOf_get (fun p => (f p).v) hlt (show 2 < 4 by omega))
      have d3 := own_cell HO2 (rowsOf_get (fun p => (f p).v) hlt (show 3 < 4 by omega))
      simp only [Row.v, Nat.add_zero] at d0 d1 d2 d3
      clear HO2
      by_cases e : (f k).handle = 0
      · have e' : ((f k).handle != 0) = false := by simpa using e
        have HE := hid e
        clear e
        go_wp2_with fail
        go_roundw
        case rel => exact ⟨k + 1, by omega, by go_num, by rw [alive_succ_no HE.out]; exact HM.out, by rw [alive_succ_no HE.out]; exact HT.out.next ((Kept.refl _ _).alloc _)⟩
        case measure => simp [intOf]; omega
      · have e' : ((f k).handle != 0) = true := by simpa using e
        have HE := hid e
        have HL := hid alive_length_le f k
        clear e
        go_wp2_with fail
        refine (yield_told (HT.out.next ((Kept.refl _ _).alloc _)) ((f k).handle, (f k).addr) hne (by omega) (by omega) (by have := alive_length_le f k; omega)).mono ?_
        rintro e w' ⟨rfl, hT'⟩
        rw [← alive_succ_yes HE.out] at hT'
        have HT' := hid hT'
        clear hT' HT
        by_cases hm2 : (((alive f k).length + 1 : Nat) : Int) < most
        · have hm3 : Hid (((alive f (k + 1)).length : Int) < most) := by rw [alive_succ_yes HE.out]; simpa [Hid] using hm2
          rw [decide_eq_true hm2]
          clear hm2
          go_wp2_with fail
          go_roundw
          case rel => exact ⟨k + 1, by omega, by go_num, hm3.out, HT'.out⟩
          case measure => simp [intOf]; omega
        · have hm3 : Hid (((alive f (k + 1)).length : Int) = most) := by
            have := HM.out
            show _ = _
            rw [alive_succ_yes HE.out]
            simp
            omega
          rw [decide_eq_false hm2]
          clear hm2
          go_wp2_with fail
          refine bodyPost_ret (results_none rfl _ _ _) rfl ⟨rfl, ?_⟩
          rw [take_alive (k := k + 1) (by omega) (.inl hm3.out)]
          exact HT'.out.wide HK.out
    · go_wp2_with fail
      go_end0
      obtain rfl : k = m + 1 := by omega
      refine ⟨rfl, ?_⟩
      rw [take_alive (Nat.le_refl _) (.inr ⟨rfl, HM.out⟩)]
      exact HT.out.wide HK.out

theorem All_ok (bo : Nat) (w : World) :
    Calls Tryd.prog 28 #[.pointer (some ⟨bo, 0, none⟩)] w fun e w' => e = .returned (.func (.func 37) #[] #[.pointer (some ⟨w.heap.size, 0, none⟩)]) ∧ w.alloc (.cells #[.pointer (some ⟨bo, 0, none⟩)] 22) = w' := by
  go_enter Tryd.func28, Tryd.ntmps28
  go_wp2
  go_ret
  exact ⟨rfl, rfl⟩

set_option maxRecDepth 100000 in
set_option maxHeartbeats 1000000 in
theorem all_ok {w : World} {bo bl n : Nat} {f : Nat → Row} (hO : Objs w bo bl n f) (hn0 : 1 ≤ n) (most : Int) (hm : 1 ≤ most) :
    Calls Tryd.prog 24 #[.pointer (some ⟨bo, 0, none⟩), .int .i64 most] w fun e w' => ∃ v, e = .returned v ∧ w'.ownsRow w.heap.size 87 2 v ((alive f n).take most.toNat).length (pairsV ((alive f n).take most.toNat)) ∧ Kept [] w w' := by
  have HO : Hid (Objs w bo bl n f) := hO
  clear hO
  have heq : ∀ (c : Array Value) (w : World), (binOp .eql 81 (.func (.func 37) #[] c) .nilFunc).run Tryd.prog w = .ok (.bool false) w := fun _ _ => by kernel_rfl
  go_enter Tryd.func24, Tryd.ntmps24
  go_wp2_with (go_at_call 28; refine (All_ok _ _).mono ?_; rintro e w' ⟨rfl, rfl⟩)
  refine (tells_ok (n := n) (f := f) (bo := bo) (bl := bl) ?q1 hn0 (w.heap.size + 1) (w.heap.size + 2) w.heap.size most hm ?q2 ?q3 ?q4 ?q5 (by omega)).mono ?_
  case q1 => exact ((((HO.out.keptN ((Kept.refl _ _).alloc _)).keptN ((Kept.refl _ _).alloc _)).keptN ((Kept.refl _ _).alloc _)))
  case q2 => simp [go_sem]
  case q3 => simp [go_sem]
  case q4 => simp [go_sem]
  case q5 => simp [go_sem]
  rintro e w' ⟨rfl, hT⟩
  obtain ⟨⟨v, h1, h2⟩, h3, h4, h5⟩ := hT
  have H2 := hid h2
  have H5 := hid h5
  clear h2 h3 h4 h5
  go_wp2
  go_ret
  refine ⟨v, rfl, own_mono H2.out (by simp; omega), ?_⟩
  exact ((((Kept.refl [] w).alloc _).alloc _).alloc _).trans' H5.out (by simp)

end Go.Proofs.YtecagnhffgajhaaDoor
