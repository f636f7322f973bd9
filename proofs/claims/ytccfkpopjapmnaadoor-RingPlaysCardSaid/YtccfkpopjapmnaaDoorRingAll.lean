/- package ring: what All tells, and the law's own 'all'. -/
import Derived.Test.YtccfkpopjapmnaaDoorRingDrop
import Derived.OwnWalk
import Derived.Maps.AppendAt
import Derived.WalkSmall
namespace Go.Proofs.YtccfkpopjapmnaaDoor
open Go Go.RowKit

def GV (l : List Int) : List Value := l.map (.int .u64)
theorem GV_get {l : List Int} {i : Nat} {x : Int} (h : l[i]? = some x) : (GV l)[i]? = some (.int .u64 x) := by simp [GV, h]
theorem GV_snoc (l : List Int) (x : Int) : GV (l ++ [x]) = GV l ++ [.int .u64 x] := by simp [GV]
theorem take_snoc {L : List Int} {k : Nat} {x : Int} (h : L[k]? = some x) : L.take (k + 1) = L.take k ++ [x] := by
  rw [List.take_add_one, h]; rfl

theorem Kept.nil' {S T : List Nat} {a b c : World} (h : Kept S a b) (k : Kept T b c) : Kept (S ++ T) a c :=
  (h.mono (fun x hx => by simp [hx])).trans (k.mono (fun x hx => by simp [hx]))

set_option maxRecDepth 100000 in
set_option maxHeartbeats 1000000 in
/-- The law's closure: one more is laid at the list's end; is there room for more? -/
theorem yield_ok (a : Int) (po pl pm base : Nat) (v : Value) (l : List Int) (most : Int) (w : World) (ho : w.cell? ⟨po, 0, none⟩ = some (.bool true)) (hfo : w.frozen? ⟨po, 0, none⟩ = false) (hl : w.cell? ⟨pl, 0, none⟩ = some v) (hf : w.frozen? ⟨pl, 0, none⟩ = false)
    (hm : w.cell? ⟨pm, 0, none⟩ = some (.int .i64 most)) (hne : pl ≠ pm) (hno : po ≠ pl) (hom : po ≠ pm) (hown : w.ownsRow base 34 1 v l.length (GV l)) (hpl : pl < base) (hpm : pm < base) (hpo : po < base) (hb : base ≤ w.heap.size) (hn : l.length ≤ 5000) :
    Calls Tryd.prog 26 #[.int .i64 l.length, .int .u64 a, .pointer (some ⟨po, 0, none⟩), .pointer (some ⟨pl, 0, none⟩), .pointer (some ⟨pm, 0, none⟩)] w fun e w' =>
      e = .returned (.bool (decide (((l.length + 1 : Nat) : Int) < most))) ∧ w'.cell? ⟨po, 0, none⟩ = some (.bool true) ∧ w'.frozen? ⟨po, 0, none⟩ = false ∧ ∃ v', w'.cell? ⟨pl, 0, none⟩ = some v' ∧ w'.frozen? ⟨pl, 0, none⟩ = false ∧
        w'.ownsRow base 34 1 v' (l ++ [a]).length (GV (l ++ [a])) ∧ Kept (po :: pl :: v.ownBlock.toList) w w' := by
  obtain ⟨av, cv, rfl⟩ := own_form' hown
  obtain ⟨n, hn'⟩ : ∃ n, l.length = n := ⟨_, rfl⟩
  rw [hn'] at hown hn hl ⊢
  have HN := hid hn'
  have HOW := hid hown
  have hge := own_ge hown
  clear hn' hown
  go_enter Tryd.func26, Tryd.ntmps26
  go_wp2_with (at_builtin; go_must (refine wp_app1 rfl _ _ 49 34 rfl Tryd.underlying49 info_u64 rfl (Nat.lt_succ_self 0) base (.slice av n cv) n (GV l) rfl ?c1 w.heap.size 1 [.int .u64 a] rfl rfl (Blk.newA _ _ (by simp)) ?c2 ?c3 (Nat.le_of_ble_eq_true rfl) ?c4 ?_))
  case c1 => exact own_keptN (own_set_ne HOW.out _ (fun hm => by have := hge _ hm; simp at this; omega)) ((Kept.refl _ _).alloc _)
  case c2 => simp [Value.oneCell']
  case c3 => omega
  case c4 => simp; omega
  intro g cap w1 hW hg hK
  have K0 : Kept [po] w ((w.setCell ⟨po, 0, none⟩ (.bool true)).alloc (.cells #[.int .u64 a] 34)) := ((Kept.refl [po] w).setCell (.inl (by simp)) _).alloc _
  have hnl : pl ∉ (Value.slice av n cv).ownBlock.toList := fun hm => by have := hge _ hm; omega
  have hnm : pm ∉ (Value.slice av n cv).ownBlock.toList := fun hm => by have := hge _ hm; omega
  have hnp : po ∉ (Value.slice av n cv).ownBlock.toList := fun hm => by have := hge _ hm; omega
  have hl0 := hK.cellSome (K0.cellSome hl (by simp; omega)) hnl
  have hm0 := hK.cellSome (K0.cellSome hm (by simp; omega)) hnm
  have ho0 : ((w.setCell ⟨po, 0, none⟩ (.bool true)).alloc (.cells #[.int .u64 a] 34)).cell? ⟨po, 0, none⟩ = some (.bool true) := by
    rw [World.cell?_alloc_old _ _ _ (by have := World.block_lt_of_cell? _ _ ho; simp at this ⊢; omega)]
    exact World.cell?_setCell_same _ _ _ ho
  have ho1 := hK.cellSome ho0 hnp
  have hfl : w1.frozen? ⟨pl, 0, none⟩ = false := by
    rw [World.frozen?_of_block (hK.block pl (World.block_lt_of_cell? _ _ (K0.cellSome hl (by simp; omega))) hnl), World.frozen?_of_block (K0.block pl (World.block_lt_of_cell? _ _ hl) (by simp; omega))]
    exact hf
  have hfp : w1.frozen? ⟨po, 0, none⟩ = false := by
    rw [World.frozen?_of_block (hK.block po (World.block_lt_of_cell? _ _ ho0) hnp), World.frozen?_alloc_old _ _ _ (by have := World.block_lt_of_cell? _ _ ho; simp at this ⊢; omega), World.frozen?_setCell]
    exact hfo
  have HK := hid (K0.nil' hK)
  have HW := hid hW
  clear K0 hK hW hnl hnm hnp hf hfo hl hm ho ho0
  go_wp2_with fail
  go_ret
  refine ⟨by first | rfl | simp, (((Kept.refl [pl] w1).setCell (.inl (by simp)) _).cellSome ho1 (by simpa using hno)), by rw [World.frozen?_setCell]; exact hfp, _, World.cell?_setCell_same _ _ _ hl0, by rw [World.frozen?_setCell]; exact hfl, ?_, ?_⟩
  · rw [GV_snoc, List.length_append, HN.out]
    exact ownsRow_setCell_below HW.out hpl _
  · exact (HK.out.mono (fun x hx => by simp at hx ⊢; rcases hx with h | h; exact .inl h; exact .inr (.inr h))).setCell (.inl (by simp)) _

/-- What the loop over the copy leaves, when 'pre' has been told. -/
structure Told (po pl pm base : Nat) (most : Int) (w0 : World) (pre : List Int) (w : World) : Prop where
  okc : w.cell? ⟨po, 0, none⟩ = some (.bool true)
  okf : w.frozen? ⟨po, 0, none⟩ = false
  box : ∃ v, w.cell? ⟨pl, 0, none⟩ = some v ∧ w.ownsRow base 34 1 v pre.length (GV pre)
  froz : w.frozen? ⟨pl, 0, none⟩ = false
  room : w.cell? ⟨pm, 0, none⟩ = some (.int .i64 most)
  kept : Kept [po, pl] w0 w

theorem Told.next {po pl pm base : Nat} {most : Int} {w0 w w' : World} {pre : List Int} (h : Told po pl pm base most w0 pre w) (k : Kept [] w w') : Told po pl pm base most w0 pre w' := by
  obtain ⟨g1, g2, ⟨v, h1, h2⟩, h3, h4, h5⟩ := h
  exact ⟨k.cellSome g1 (by simp), by rw [World.frozen?_of_block (k.block po (World.block_lt_of_cell? _ _ g1) (by simp))]; exact g2, ⟨v, k.cellSome h1 (by simp), own_keptN h2 k⟩, by rw [World.frozen?_of_block (k.block pl (World.block_lt_of_cell? _ _ h1) (by simp))]; exact h3, k.cellSome h4 (by simp), h5.trans k.nil⟩

theorem Told.wide {po pl pm : Nat} {most : Int} {w0 w1 w : World} {pre : List Int} (h : Told po pl pm w1.heap.size most w1 pre w) (k : Kept [] w0 w1) : Told po pl pm w0.heap.size most w0 pre w := by
  obtain ⟨g1, g2, ⟨v, h1, h2⟩, h3, h4, h5⟩ := h
  exact ⟨g1, g2, ⟨v, h1, own_mono h2 k.size⟩, h3, h4, k.nil.trans h5⟩

theorem yield_told {po pl pm : Nat} {most : Int} {w0 w : World} {pre : List Int} (h : Told po pl pm w0.heap.size most w0 pre w) (x : Int) (i : Nat) (hi : pre.length = i) (hne : pl ≠ pm) (hno : po ≠ pl) (hom : po ≠ pm) (hpo : po < w0.heap.size) (hpl : pl < w0.heap.size) (hpm : pm < w0.heap.size) (hn : i ≤ 5000) :
    Calls Tryd.prog 26 #[.int .i64 i, .int .u64 x, .pointer (some ⟨po, 0, none⟩), .pointer (some ⟨pl, 0, none⟩), .pointer (some ⟨pm, 0, none⟩)] w fun e w' =>
      e = .returned (.bool (decide (((i + 1 : Nat) : Int) < most))) ∧ Told po pl pm w0.heap.size most w0 (pre ++ [x]) w' := by
  subst hi
  obtain ⟨g1, g2, ⟨v, h1, h2⟩, h3, h4, h5⟩ := h
  refine (yield_ok x po pl pm w0.heap.size v pre most w g1 g2 h1 h3 h4 hne hno hom h2 hpl hpm hpo h5.size hn).mono ?_
  rintro e w' ⟨rfl, q5, q6, v', q1, q2, q3, q4⟩
  refine ⟨rfl, ⟨q5, q6, ⟨v', q1, q3⟩, q2, ?_, h5.trans' q4 ?_⟩⟩
  · refine q4.cellSome h4 ?_
    simp only [List.mem_cons, not_or]
    exact ⟨fun e => hom e.symm, fun e => hne e.symm, fun hm => by have := own_ge h2 pm hm; omega⟩
  · intro y hy
    rcases List.mem_cons.1 hy with rfl | hy
    · exact .inl (by simp)
    · rcases List.mem_cons.1 hy with rfl | hy
      · exact .inl (by simp)
      · exact .inr (own_ge h2 y hy)

set_option maxRecDepth 100000 in
set_option maxHeartbeats 2000000 in
theorem tells_ok {w : World} {b bl M fr : Nat} {L : List Int} (hR : RingAt w b bl M fr L) (px po pl pm : Nat) (most : Int) (hm : 1 ≤ most) (hx : w.cell? ⟨px, 0, none⟩ = some (.pointer (some ⟨b, 0, none⟩)))
    (ho : w.cell? ⟨po, 0, none⟩ = some (.bool true)) (hof : w.frozen? ⟨po, 0, none⟩ = false) (hl : w.cell? ⟨pl, 0, none⟩ = some (.slice none 0 0)) (hf : w.frozen? ⟨pl, 0, none⟩ = false) (hr : w.cell? ⟨pm, 0, none⟩ = some (.int .i64 most)) (hne : pl ≠ pm) (hno : po ≠ pl) (hom : po ≠ pm) :
    Calls Tryd.prog 32 #[.func (.func 26) #[] #[.pointer (some ⟨po, 0, none⟩), .pointer (some ⟨pl, 0, none⟩), .pointer (some ⟨pm, 0, none⟩)], .pointer (some ⟨px, 0, none⟩)] w fun e w' =>
      e = .returned (.tuple #[]) ∧ Told po pl pm w.heap.size most w (L.take most.toNat) w' := by
  have c2 := hR.c2
  have hM := hR.small
  have hlen := hR.len
  obtain ⟨n, hn⟩ : ∃ n, L.length = n := ⟨_, rfl⟩
  rw [hn] at c2 hlen
  have HN := hid hn
  have HR := hid hR
  have hpx : px < w.heap.size := World.block_lt_of_cell? _ _ hx
  have hpo : po < w.heap.size := World.block_lt_of_cell? _ _ ho
  have hpl : pl < w.heap.size := World.block_lt_of_cell? _ _ hl
  have hpm : pm < w.heap.size := World.block_lt_of_cell? _ _ hr
  have HX := hid hx
  have HT := hid (show Told po pl pm w.heap.size most w [] w from ⟨ho, hof, ⟨_, hl, rfl, .inl ⟨rfl, rfl⟩⟩, hf, hr, Kept.refl _ _⟩)
  clear hR hn ho hof hl hf hr
  go_enter Tryd.func32, Tryd.ntmps32
  go_wp2_with fail
  clear hx c2
  go_loopw [3, 11] (fun v i wr => ∃ k : Nat, k ≤ n ∧ i = .int .i64 k ∧ wr.ownsRow w.heap.size 34 1 v k (GV (L.take k)) ∧ Kept [] w wr) (fun _ i _ => n - (intOf i).toNat)
  case atStart => exact ⟨0, Nat.zero_le _, rfl, ⟨rfl, .inl ⟨rfl, rfl⟩⟩, Kept.refl _ _⟩
  case round =>
    obtain ⟨k, hk, rfl, hv, hK⟩ := hrel
    have HV := hid hv
    have HK := hid hK
    have cx := hK.cellSome HX.out (by simp)
    clear hv hK
    by_cases hlt : k < n
    · obtain ⟨x, hx⟩ : ∃ x, L[k]? = some x := ⟨_, List.getElem?_eq_getElem (by rw [HN.out]; exact hlt)⟩
      have HXK := hid hx
      clear hx
      go_wp2_with fail
      refine (at_ok (HR.out.keptN HK.out) k (by omega)).mono ?_
      rintro e w2 ⟨rfl, hmm⟩
      have HK2 := hid (Kept.drawn (S := []) hmm)
      have d0 := ((HR.out.keptN HK.out).keptN HK2.out).cell HXK.out
      clear hmm cx
      go_wp2_with (at_builtin; go_must (refine wp_app1 rfl _ _ 49 34 rfl Tryd.underlying49 info_u64 rfl (Nat.lt_succ_self 0) w.heap.size u3 k (GV (L.take k)) rfl ?c1 w2.heap.size 1 [.int .u64 x] rfl rfl (Blk.newA _ _ rfl) ?c2 ?c3 (Nat.le_of_ble_eq_true rfl) ?c4 ?_))
      case c1 => exact own_keptN (own_keptN HV.out HK2.out) ((Kept.refl _ _).alloc _)
      case c2 => simp [Value.oneCell']
      case c3 => omega
      case c4 => have := HK.out.size; have := HK2.out.size; simp; omega
      intro gg cap' w3 hW hgg hK
      have HW3 := hid hW
      have HK3 := hid (((Kept.refl _ w2).alloc _).trans hK)
      clear hW hK d0
      go_wp2_with fail
      go_roundw
      case rel => exact ⟨k + 1, by omega, by go_num, by rw [take_snoc HXK.out, GV_snoc]; exact HW3.out, (HK.out.trans HK2.out).trans' HK3.out (fun y hy => .inr (own_ge HV.out y hy))⟩
      case measure => simp [intOf]; omega
    · obtain rfl : k = n := by omega
      have hV := HV.out
      rw [List.take_of_length_le (by rw [HN.out]; exact Nat.le_refl _)] at hV
      have HV := hid hV
      obtain ⟨aV, cV, rfl⟩ := own_form' HV.out
      clear hV
      obtain ⟨w4, hw4⟩ : ∃ w4, w4 = wr := ⟨_, rfl⟩
      subst hw4
      go_wp2_with fail
      go_loopw [25] (fun i w5 => ∃ j : Nat, j ≤ k ∧ i = .int .i64 j ∧ (j : Int) < most ∧ Told po pl pm w4.heap.size most w4 (L.take j) w5) (fun i _ => k - (intOf i).toNat)
      case atStart => exact ⟨0, Nat.zero_le _, rfl, by omega, by
        have hsz := HK.out.size
        obtain ⟨g1, g2, ⟨v, h1, h2⟩, h3, h4, h5⟩ := HT.out.next HK.out
        obtain ⟨g1', g2', ⟨v', h1', h2'⟩, h3', h4', h5'⟩ := HT.out
        have e1 := HK.out.cellSome h1' (by simp)
        rw [h1] at e1
        cases e1
        rcases h2'.2 with ⟨rfl, _⟩ | ⟨g, cap, cur, rfl, hg, hh, _⟩
        · exact ⟨g1, g2, ⟨_, h1, rfl, .inl ⟨rfl, rfl⟩⟩, h3, h4, Kept.refl _ _⟩
        · have := (Array.getElem?_eq_some_iff.1 hh).1; omega⟩
      case round =>
        obtain ⟨j, hj, rfl, hjm, hTj⟩ := hrel
        have HTJ := hid hTj
        clear hTj
        by_cases hlt2 : j < k
        · obtain ⟨x, hx⟩ : ∃ x, L[j]? = some x := ⟨_, List.getElem?_eq_getElem (by rw [HN.out]; exact hlt2)⟩
          have hsz := HK.out.size
          obtain ⟨gV, eV, d0⟩ : ∃ gV, aV = some ⟨gV, 0, none⟩ ∧ wr.cell? ⟨gV, j, none⟩ = some (.int .u64 x) := by
            obtain ⟨k', rfl⟩ : ∃ k', k = k' + 1 := ⟨k - 1, by omega⟩
            have HV5 := own_kept HV.out HTJ.out.kept (fun b hb => by have := own_ge HV.out b hb; simp; omega)
            obtain ⟨gV, c, e1, -⟩ := own_form HV5
            cases e1
            exact ⟨gV, rfl, own_cell HV5 (GV_get hx)⟩
          subst eV
          have HXJ := hid hx
          clear hx
          have hlj : (L.take j).length = j := by rw [List.length_take, HN.out]; omega
          have HLJ := hid hlj
          clear hlj
          go_wp2_with fail
          refine (yield_told HTJ.out x j HLJ.out hne hno hom (by omega) (by omega) (by omega) (by omega)).mono ?_
          rintro e w' ⟨rfl, hT'⟩
          rw [← take_snoc HXJ.out] at hT'
          have HT' := hid hT'
          clear hT' d0
          by_cases hm2 : ((j + 1 : Nat) : Int) < most
          · rw [decide_eq_true hm2]
            go_wp2_with fail
            go_roundw
            case rel => exact ⟨j + 1, by omega, by go_num, hm2, HT'.out⟩
            case measure => simp [intOf]; omega
          · rw [decide_eq_false hm2]
            go_wp2_with fail
            refine bodyPost_ret (results_none rfl _ _ _) rfl ⟨rfl, ?_⟩
            rw [show most.toNat = j + 1 by omega]
            exact HT'.out.wide HK.out
        · go_wp2_with fail
          go_end0
          obtain rfl : j = k := by omega
          refine ⟨rfl, ?_⟩
          have hT := HTJ.out
          rw [List.take_of_length_le (by rw [HN.out]; exact Nat.le_refl _)] at hT
          rw [List.take_of_length_le (by rw [HN.out]; omega)]
          exact hT.wide HK.out

theorem All_ok (b : Nat) (w : World) :
    Calls Tryd.prog 24 #[.pointer (some ⟨b, 0, none⟩)] w fun e w' => e = .returned (.func (.func 32) #[] #[.pointer (some ⟨w.heap.size, 0, none⟩)]) ∧ w.alloc (.cells #[.pointer (some ⟨b, 0, none⟩)] 22) = w' := by
  go_enter Tryd.func24, Tryd.ntmps24
  go_wp2
  go_ret
  exact ⟨rfl, rfl⟩

set_option maxRecDepth 100000 in
set_option maxHeartbeats 1000000 in
theorem all_ok {w : World} {b bl M fr : Nat} {L : List Int} (hR : RingAt w b bl M fr L) (most : Int) (hm : 1 ≤ most) :
    Calls Tryd.prog 20 #[.pointer (some ⟨b, 0, none⟩), .int .i64 most] w fun e w' => ∃ v, e = .returned (.tuple #[v, .bool true]) ∧ w'.ownsRow w.heap.size 34 1 v (L.take most.toNat).length (GV (L.take most.toNat)) ∧ Kept [] w w' := by
  have HR := hid hR
  clear hR
  have heq : ∀ (c : Array Value) (w : World), (binOp .eql 70 (.func (.func 32) #[] c) .nilFunc).run Tryd.prog w = .ok (.bool false) w := fun _ _ => by kernel_rfl
  go_enter Tryd.func20, Tryd.ntmps20
  go_wp2_with (go_at_call 24; refine (All_ok _ _).mono ?_; rintro e w' ⟨rfl, rfl⟩)
  refine (tells_ok (L := L) (b := b) (bl := bl) (M := M) (fr := fr) ?q1 (w.heap.size + 1) (w.heap.size + 3) (w.heap.size + 2) w.heap.size most hm ?q2 ?q6 ?q7 ?q3 ?q4 ?q5 (by omega) (by omega) (by omega)).mono ?_
  case q1 => exact (((HR.out.keptN ((Kept.refl _ _).alloc _)).keptN ((Kept.refl _ _).alloc _)).keptN ((Kept.refl _ _).alloc _)).keptN ((Kept.refl _ _).alloc _)
  case q2 => simp [go_sem]
  case q3 => simp [go_sem]
  case q4 => simp [go_sem]
  case q5 => simp [go_sem]
  case q6 => simp [go_sem]
  case q7 => simp [go_sem]
  rintro e w' ⟨rfl, hT⟩
  obtain ⟨g1, g2, ⟨v, h1, h2⟩, h3, h4, h5⟩ := hT
  have H2 := hid h2
  have H5 := hid h5
  clear h2 h3 h4 h5 g2
  go_wp2_with fail
  go_quiet (fail)
  rename_i nq
  go_wp2_with fail
  go_ret2
  refine ⟨v, rfl, own_keptN (own_mono H2.out (by simp; omega)) ((Kept.refl _ _).drewN nq), ?_⟩
  exact (((((Kept.refl [] w).alloc _).alloc _).alloc _).alloc _).trans' (H5.out.drewN nq) (by simp)

end Go.Proofs.YtccfkpopjapmnaaDoor
