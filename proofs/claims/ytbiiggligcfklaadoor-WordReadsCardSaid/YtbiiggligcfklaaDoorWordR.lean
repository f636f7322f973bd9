/- package word: Print; the document's too. -/
import Derived.Test.YtbiiggligcfklaaDoorWordP
import Derived.Laws.BytesArg
namespace Go.Proofs.YtbiiggligcfklaaDoor
open Go Go.RowKit

/-- The text of bytes. -/
def strB (l : List Nat) : ByteArray := strOfNums (l.map fun (x : Nat) => (x : Int))
theorem strB_size (l : List Nat) : (strB l).size = l.length := by simp [strB, strOfNums_size]
theorem byt_strB (l : List Nat) (h : ∀ c, c ∈ l → c < 256) : byt (strB l) = l := by
  unfold byt strB
  rw [strOfNums_data, List.map_map, List.map_map]
  refine Eq.trans (List.map_congr_left (g := id) ?_) (List.map_id l)
  intro c hc
  have := h c hc
  simp
  omega

def BV (l : List Nat) : List Value := l.map fun (c : Nat) => .int .u8 c

set_option maxRecDepth 100000 in
set_option maxHeartbeats 400000 in
theorem print_ok (v : Nat) (hv : v < 18446744073709551616) (w : World) :
    Calls Tryd.prog 10 #[.int .u64 v] w fun e w' => e = .returned (.string (strB (dec v))) ∧ Kept [] w w' := by
  have hd20 := dec_20 hv
  obtain ⟨D, hD⟩ : ∃ D, dec v = D := ⟨_, rfl⟩
  rw [hD] at hd20 ⊢
  have HD := hid hD
  clear hD
  go_enter Tryd.func10, Tryd.ntmps10
  go_wp2_with fail
  go_loopw [0, 4] (fun s0 s4 wr => ∃ (u i : Nat) (l : List Nat) (cs : List Value), s0 = .int .u64 u ∧ s4 = .int .i64 i ∧ i + l.length = 20 ∧ dec u ++ l = D ∧ u < 18446744073709551616 ∧ cs.length = i ∧ Blk wr w.heap.size (cs ++ BV l) ∧ Kept [] w wr) (fun _ s4 _ => (intOf s4).toNat)
  case atStart => exact ⟨v, 20, [], (rowsOf 1 (fun _ _ => .int .u8 0) 20), rfl, rfl, rfl, by rw [List.append_nil]; exact HD.out, hv, rfl, Blk.newA _ _ rfl, (Kept.refl _ _).alloc _⟩
  case round =>
    obtain ⟨u, i, l, cs, rfl, rfl, hil, hDl, hu, hcs, hB, hK⟩ := hrel
    have hdp := dec_pos u
    have hi1 : 1 ≤ i := by
      have h := congrArg List.length hDl
      rw [List.length_append] at h
      omega
    obtain ⟨j, rfl⟩ : ∃ j, i = j + 1 := ⟨i - 1, by omega⟩
    have hj : j < 20 := by omega
    obtain ⟨cs', cl, rfl⟩ : ∃ cs' cl, cs = cs' ++ [cl] := ⟨cs.take j, cs[j]'(by omega), by
      have := List.take_append_drop j cs
      rw [List.drop_eq_getElem_cons (by omega), List.drop_of_length_le (by omega)] at this
      exact this.symm⟩
    have hcs' : cs'.length = j := by simpa using hcs
    rw [List.append_assoc] at hB
    have d0 := hB.cell (o := j) (v := cl) (by rw [List.getElem?_append_right (by omega), hcs']; simp)
    have z0 := hB.frozen j
    obtain ⟨q, hq⟩ : ∃ q, u / 10 = q := ⟨_, rfl⟩
    obtain ⟨r, hr⟩ : ∃ r, u % 10 = r := ⟨_, rfl⟩
    have hqI : (u : Int) / 10 = (q : Int) := by omega
    have hrI : (u : Int) % 10 = (r : Int) := by omega
    have hr10 : r < 10 := by omega
    have hjI : ((j + 1 : Nat) : Int) - 1 = (j : Int) := by omega
    have hjI' : ((j : Int) + 1) - 1 = (j : Int) := by omega
    have h48 := hid (show (48 : Int) + (r : Int) = ((48 + r : Nat) : Int) by omega)
    have hB' := hB.set j (.int .u8 ((48 + r : Nat) : Int))
    have hBe : (cs' ++ ([cl] ++ BV l)).set j (.int .u8 ((48 + r : Nat) : Int)) = cs' ++ BV ((48 + r) :: l) := by
      rw [List.set_append_right _ _ (by omega), hcs', Nat.sub_self]
      rfl
    rw [hBe] at hB'
    have HB' := hid hB'
    have hw48 : IntKind.u8.wrap (48 + (r : Int)) = 48 + (r : Int) := IntWalk.u8_in _ ⟨by omega, by omega⟩
    have HK := hid hK
    have HDL := hid hDl
    have HC := hid hcs'
    have HU := hid (show dec u = if q = 0 then [48 + r] else dec q ++ [48 + r] by
      by_cases h : u < 10
      · have h0 : q = 0 := by omega
        have h1 : r = u := by omega
        rw [if_pos h0, dec_small h, h1]
      · have h0 : q ≠ 0 := by omega
        rw [if_neg h0, dec_large h, hq, hr])
    have hm : 20 - j = l.length + 1 := by omega
    have hj0 : (0 : Int) ≤ (j : Int) := by omega
    have hj20 : (j : Int) ≤ 20 := by omega
    have hj20' : (j : Int) < 20 := by omega
    have hne : ¬ 20 = j := by omega
    have hql : q < 18446744073709551616 := by omega
    clear hB hK hDl hcs hcs' hBe hB' hq hr
    by_cases h0 : q = 0
    · subst h0
      go_upto_region 7 with fail
      clear d0 z0
      generalize hw7 : World.setCell wr _ _ = w7
      have hB7 : Blk w7 w.heap.size (cs' ++ BV ((48 + r) :: l)) := by rw [← hw7]; first | exact HB'.out | (rw [h48.out]; exact HB'.out)
      have hK7 : Kept [] w w7 := by rw [← hw7]; exact HK.out.setCell (.inr (Nat.le_refl _)) _
      obtain ⟨str, hstr⟩ : ∃ str, strB ((48 + r) :: l) = str := ⟨_, rfl⟩
      have hcv := run_convert_bytes_arg (P := Tryd.prog) w7 50 5 Tryd.underlying50 Tryd.underlying5 w.heap.size j (20 - j) (20 - j) (((48 + r) :: l).map fun (x : Nat) => (x : Int)) (by simp; omega)
        (fun i hi => by
          refine hB7.cell ?_
          rw [List.getElem?_append_right (by rw [HC.out]; omega), HC.out, Nat.add_sub_cancel_left]
          have hi' : i < ((48 + r) :: l).length := by simp; omega
          rw [BV, List.getElem?_map, List.getElem?_eq_getElem hi', Option.map_some, List.getD, List.getElem?_map, List.getElem?_eq_getElem hi']
          rfl) 9 Tryd.underlying9
      rw [show strOfNums (((48 + r) :: l).map fun (x : Nat) => (x : Int)) = str from hstr] at hcv
      have HST := hid hstr
      have HK7 := hid hK7
      clear hw7 hB7 hK7 hstr HB' hqI hrI hjI hjI' h48
      rw [hm] at hcv
      go_wp2_with fail
      go_ret
      have hD := HDL.out
      rw [HU.out, if_pos trivial] at hD
      exact ⟨by rw [← hD, ← HST.out]; rfl, HK7.out⟩
    · have h0' : ((q : Int) == 0) = false := by simp; omega
      have HH0 := hid h0
      clear h0
      go_wp2_with fail
      go_roundw
      case rel => exact ⟨q, j, (48 + r) :: l, cs', rfl, rfl, by simp; omega, by
        have := HDL.out
        rw [HU.out, if_neg HH0.out, List.append_assoc] at this
        exact this, hql, HC.out, by first | exact HB'.out | (rw [h48.out]; exact HB'.out), HK.out.setCell (.inr (Nat.le_refl _)) _⟩
      case measure => simp [intOf]

theorem strB_cons (c : Nat) (l : List Nat) : strB [c] ++ strB l = strB (c :: l) := by
  apply ByteArray.ext
  simp [strB, strOfNums]

/-- The text of the ten digits, and a cut of it. -/
def sTen : ByteArray := ⟨#[48, 49, 50, 51, 52, 53, 54, 55, 56, 57]⟩
theorem ten_cut : ∀ r : Nat, r < 10 → sTen.extract r (r + 1) = strB [48 + r] := by decide

end Go.Proofs.YtbiiggligcfklaaDoor
