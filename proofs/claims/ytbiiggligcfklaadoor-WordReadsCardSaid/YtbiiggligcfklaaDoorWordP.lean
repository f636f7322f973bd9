/- package word: digit, Parse; the document's too. -/
import Derived.Test.YtbiiggligcfklaaDoorWord
import Derived.Deep.DeepCutAuto
import Derived.Deep.CutBlock
namespace Go.Proofs.YtbiiggligcfklaaDoor
open Go Go.RowKit

def sWord : ByteArray := ⟨#[119, 111, 114, 100]⟩
/-- A text's bytes. -/
def byt (s : ByteArray) : List Nat := s.data.toList.map UInt8.toNat
theorem byt_length (s : ByteArray) : (byt s).length = s.size := by simp only [byt, List.length_map, Array.length_toList]; rfl
theorem byt_lt {s : ByteArray} {i c : Nat} (h : (byt s)[i]? = some c) : c < 256 := by
  simp only [byt, List.getElem?_map, Option.map_eq_some_iff] at h
  obtain ⟨u, _, rfl⟩ := h
  exact u.toNat_lt
theorem byt_get {s : ByteArray} {i : Nat} (h : i < s.size) : (byt s)[i]? = some (s[i]'h).toNat := by
  have h' : i < s.data.toList.length := by rw [Array.length_toList]; exact h
  simp only [byt, List.getElem?_map, List.getElem?_eq_getElem h', Option.map_some]
  rw [ByteArray.getElem_eq_getElem_data]
  simp
theorem hexA {s : ByteArray} (p0 : 0 < s.size) (p1 : 1 < s.size) (h : ((s[0]'p0).toNat : Int) = 48) : (((s[1]'p1).toNat : Int) == 120) = isHex (byt s) := by
  unfold isHex
  rw [byt_get p0, byt_get p1]
  have h' : (s[0]'p0).toNat = 48 := by omega
  rw [h']
  by_cases e : (s[1]'p1).toNat = 120
  · simp [e]
  · have e1 : ((s[1]'p1).toNat : Int) ≠ 120 := by omega
    rw [beq_eq_false_iff_ne.2 e1]
    simp [e]
theorem hexB {s : ByteArray} (p0 : 0 < s.size) (h : ¬ ((s[0]'p0).toNat : Int) = 48) : isHex (byt s) = false := by
  unfold isHex
  rw [byt_get p0]
  have h' : (s[0]'p0).toNat ≠ 48 := by omega
  simp [h']
theorem hexC {s : ByteArray} (h : s.size < 2) : isHex (byt s) = false := by
  cases e : isHex (byt s) with
  | false => rfl
  | true =>
    unfold isHex at e
    simp at e
    have := (List.getElem?_eq_some_iff.1 e.2).1
    rw [byt_length] at this
    omega
/-- 's[i]'. -/
theorem run_ix {s : ByteArray} {i c : Nat} (h : (byt s)[i]? = some c) (W : World) : (Instr.index 9 (.string s) (.int .i64 (i : Int))).run Tryd.prog W = .ok (.int .u8 (c : Int)) W := by
  have hi : i < s.size := by rw [← byt_length]; exact (List.getElem?_eq_some_iff.1 h).1
  rw [run_index_string W 9 s .i64 i Tryd.underlying9, dif_pos ⟨by omega, by omega⟩]
  have : (s[(i : Int).toNat]'(by omega)).toNat = c := by
    simp only [byt, List.getElem?_map, Option.map_eq_some_iff] at h
    obtain ⟨u, hu, rfl⟩ := h
    have := (List.getElem?_eq_some_iff.1 hu).2
    rw [← this]
    simp [ByteArray.getElem_eq_getElem_data]
  rw [this]

theorem digit_ok (c base : Nat) (hc : c < 256) (hb : base ≤ 16) (w : World) :
    Calls Tryd.prog 29 #[.int .u8 c, .int .u64 base] w fun e w' => e = .returned (.tuple #[.int .u64 (digW c), .bool (decide (digW c < base))]) ∧ w = w' := by
  by_cases h1 : 48 ≤ c ∧ c ≤ 57
  · obtain ⟨d, hd⟩ : ∃ d, c = 48 + d := ⟨c - 48, by omega⟩
    have hw : digW c = d := by unfold digW; rw [if_pos h1]; omega
    have h3 : IntKind.u8.wrap ((c : Int) - 48) = (d : Int) := by rw [show (c : Int) - 48 = (d : Int) by omega]; exact IntWalk.u8_in _ ⟨by omega, by omega⟩
    have h0 : IntKind.u64.wrap (d : Int) = (d : Int) := IntWalk.u64_in _ ⟨by omega, by omega⟩
    have q1 : (48 : Int) ≤ c := by omega
    have q2 : (c : Int) ≤ 57 := by omega
    rw [hw]
    clear hw hd
    go_enter Tryd.func29, Tryd.ntmps29
    go_wp2_with fail
    go_ret2
    exact ⟨by first | rfl | (simp; omega) | (simp [h0]; omega) | (simp [h0, h4]; omega) | simp [h0] | simp [h0, h4], rfl⟩
  · by_cases h2 : 97 ≤ c ∧ c ≤ 102
    · obtain ⟨d, hd⟩ : ∃ d, c = 97 + d := ⟨c - 97, by omega⟩
      have hw : digW c = d + 10 := by unfold digW; rw [if_neg h1, if_pos h2]; omega
      have h3 : IntKind.u8.wrap ((c : Int) - 97) = (d : Int) := by rw [show (c : Int) - 97 = (d : Int) by omega]; exact IntWalk.u8_in _ ⟨by omega, by omega⟩
      have h0 : IntKind.u64.wrap (d : Int) = (d : Int) := IntWalk.u64_in _ ⟨by omega, by omega⟩
      have h4 : IntKind.u64.wrap ((d : Int) + 10) = (d : Int) + 10 := IntWalk.u64_in _ ⟨by omega, by omega⟩
      have q1 : (97 : Int) ≤ c := by omega
      have q2 : (c : Int) ≤ 102 := by omega
      have q3 : (48 : Int) ≤ c := by omega
      have q4 : (57 : Int) < c := by omega
      rw [hw]
      clear hw hd h1
      go_enter Tryd.func29, Tryd.ntmps29
      go_wp2_with fail
      go_ret2
      exact ⟨by first | rfl | (simp; omega) | (simp [h0]; omega) | (simp [h0, h4]; omega) | simp [h0] | simp [h0, h4], rfl⟩
    · by_cases h3 : 65 ≤ c ∧ c ≤ 70
      · obtain ⟨d, hd⟩ : ∃ d, c = 65 + d := ⟨c - 65, by omega⟩
        have hw : digW c = d + 10 := by unfold digW; rw [if_neg h1, if_neg h2, if_pos h3]; omega
        have h3' : IntKind.u8.wrap ((c : Int) - 65) = (d : Int) := by rw [show (c : Int) - 65 = (d : Int) by omega]; exact IntWalk.u8_in _ ⟨by omega, by omega⟩
        have h0 : IntKind.u64.wrap (d : Int) = (d : Int) := IntWalk.u64_in _ ⟨by omega, by omega⟩
        have h4 : IntKind.u64.wrap ((d : Int) + 10) = (d : Int) + 10 := IntWalk.u64_in _ ⟨by omega, by omega⟩
        have q1 : (65 : Int) ≤ c := by omega
        have q2 : (c : Int) ≤ 70 := by omega
        have q3 : (48 : Int) ≤ c := by omega
        have q4 : (57 : Int) < c := by omega
        have q5 : (c : Int) < 97 := by omega
        rw [hw]
        clear hw hd h1 h2
        go_enter Tryd.func29, Tryd.ntmps29
        go_wp2_with fail
        go_ret2
        exact ⟨by first | rfl | (simp; omega) | (simp [h0]; omega) | (simp [h0, h4]; omega) | simp [h0] | simp [h0, h4], rfl⟩
      · have hw : digW c = 99 := by unfold digW; rw [if_neg h1, if_neg h2, if_neg h3]
        have hn1 : ¬ ((48 : Int) ≤ c ∧ (c : Int) ≤ 57) := by omega
        have hn2 : ¬ ((97 : Int) ≤ c ∧ (c : Int) ≤ 102) := by omega
        have hn3 : ¬ ((65 : Int) ≤ c ∧ (c : Int) ≤ 70) := by omega
        rw [hw]
        clear hw h1 h2 h3
        rcases Nat.lt_or_ge c 48 with ha | ha
        · have z1 : ¬ (48 : Int) ≤ c := by omega
          have z2 : ¬ (97 : Int) ≤ c := by omega
          have z3 : ¬ (65 : Int) ≤ c := by omega
          clear hn1 hn2 hn3
          go_enter Tryd.func29, Tryd.ntmps29
          go_wp2_with fail
          go_ret2
          exact ⟨by first | rfl | (simp; omega) | (simp [h0]; omega) | (simp [h0, h4]; omega) | simp [h0] | simp [h0, h4], rfl⟩
        · have z1 : (48 : Int) ≤ c := by omega
          have z2 : ¬ (c : Int) ≤ 57 := by omega
          rcases Nat.lt_or_ge c 65 with hb | hb
          · have z3 : ¬ (97 : Int) ≤ c := by omega
            have z4 : ¬ (65 : Int) ≤ c := by omega
            clear hn1 hn2 hn3
            go_enter Tryd.func29, Tryd.ntmps29
            go_wp2_with fail
            go_ret2
            exact ⟨by first | rfl | (simp; omega) | (simp [h0]; omega) | (simp [h0, h4]; omega) | simp [h0] | simp [h0, h4], rfl⟩
          · have z4 : (65 : Int) ≤ c := by omega
            have z5 : ¬ (c : Int) ≤ 70 := by omega
            rcases Nat.lt_or_ge c 97 with hd | hd
            · have z3 : ¬ (97 : Int) ≤ c := by omega
              clear hn1 hn2 hn3
              go_enter Tryd.func29, Tryd.ntmps29
              go_wp2_with fail
              go_ret2
              exact ⟨by first | rfl | (simp; omega) | (simp [h0]; omega) | (simp [h0, h4]; omega) | simp [h0] | simp [h0, h4], rfl⟩
            · have z3 : (97 : Int) ≤ c := by omega
              have z6 : ¬ (c : Int) ≤ 102 := by omega
              clear hn1 hn2 hn3
              go_enter Tryd.func29, Tryd.ntmps29
              go_wp2_with fail
              go_ret2
              exact ⟨by first | rfl | (simp; omega) | (simp [h0]; omega) | (simp [h0, h4]; omega) | simp [h0] | simp [h0, h4], rfl⟩

theorem rdigit_ok (c : Nat) (hc : c < 256) (w : World) :
    Calls Tryd.prog 31 #[.int .u8 c] w fun e w' => e = .returned (.int .u64 (digW c)) ∧ w = w' := by
  by_cases h1 : 48 ≤ c ∧ c ≤ 57
  · obtain ⟨d, hd⟩ : ∃ d, c = 48 + d := ⟨c - 48, by omega⟩
    have hw : digW c = d := by unfold digW; rw [if_pos h1]; omega
    have h3 : IntKind.u8.wrap ((c : Int) - 48) = (d : Int) := by rw [show (c : Int) - 48 = (d : Int) by omega]; exact IntWalk.u8_in _ ⟨by omega, by omega⟩
    have h0 : IntKind.u64.wrap (d : Int) = (d : Int) := IntWalk.u64_in _ ⟨by omega, by omega⟩
    have q1 : (48 : Int) ≤ c := by omega
    have q2 : (c : Int) ≤ 57 := by omega
    rw [hw]
    clear hw hd
    go_enter Tryd.func31, Tryd.ntmps31
    go_wp2_with fail
    go_ret
    exact ⟨by first | rfl | (simp; omega) | (simp [h0]; omega) | (simp [h0, h4]; omega) | simp [h0] | simp [h0, h4], rfl⟩
  · by_cases h2 : 97 ≤ c ∧ c ≤ 102
    · obtain ⟨d, hd⟩ : ∃ d, c = 97 + d := ⟨c - 97, by omega⟩
      have hw : digW c = d + 10 := by unfold digW; rw [if_neg h1, if_pos h2]; omega
      have h3 : IntKind.u8.wrap ((c : Int) - 97) = (d : Int) := by rw [show (c : Int) - 97 = (d : Int) by omega]; exact IntWalk.u8_in _ ⟨by omega, by omega⟩
      have h0 : IntKind.u64.wrap (d : Int) = (d : Int) := IntWalk.u64_in _ ⟨by omega, by omega⟩
      have h4 : IntKind.u64.wrap ((d : Int) + 10) = (d : Int) + 10 := IntWalk.u64_in _ ⟨by omega, by omega⟩
      have q1 : (97 : Int) ≤ c := by omega
      have q2 : (c : Int) ≤ 102 := by omega
      have q3 : (48 : Int) ≤ c := by omega
      have q4 : (57 : Int) < c := by omega
      rw [hw]
      clear hw hd h1
      go_enter Tryd.func31, Tryd.ntmps31
      go_wp2_with fail
      go_ret
      exact ⟨by first | rfl | (simp; omega) | (simp [h0]; omega) | (simp [h0, h4]; omega) | simp [h0] | simp [h0, h4], rfl⟩
    · by_cases h3 : 65 ≤ c ∧ c ≤ 70
      · obtain ⟨d, hd⟩ : ∃ d, c = 65 + d := ⟨c - 65, by omega⟩
        have hw : digW c = d + 10 := by unfold digW; rw [if_neg h1, if_neg h2, if_pos h3]; omega
        have h3' : IntKind.u8.wrap ((c : Int) - 65) = (d : Int) := by rw [show (c : Int) - 65 = (d : Int) by omega]; exact IntWalk.u8_in _ ⟨by omega, by omega⟩
        have h0 : IntKind.u64.wrap (d : Int) = (d : Int) := IntWalk.u64_in _ ⟨by omega, by omega⟩
        have h4 : IntKind.u64.wrap ((d : Int) + 10) = (d : Int) + 10 := IntWalk.u64_in _ ⟨by omega, by omega⟩
        have q1 : (65 : Int) ≤ c := by omega
        have q2 : (c : Int) ≤ 70 := by omega
        have q3 : (48 : Int) ≤ c := by omega
        have q4 : (57 : Int) < c := by omega
        have q5 : (c : Int) < 97 := by omega
        rw [hw]
        clear hw hd h1 h2
        go_enter Tryd.func31, Tryd.ntmps31
        go_wp2_with fail
        go_ret
        exact ⟨by first | rfl | (simp; omega) | (simp [h0]; omega) | (simp [h0, h4]; omega) | simp [h0] | simp [h0, h4], rfl⟩
      · have hw : digW c = 99 := by unfold digW; rw [if_neg h1, if_neg h2, if_neg h3]
        have hn1 : ¬ ((48 : Int) ≤ c ∧ (c : Int) ≤ 57) := by omega
        have hn2 : ¬ ((97 : Int) ≤ c ∧ (c : Int) ≤ 102) := by omega
        have hn3 : ¬ ((65 : Int) ≤ c ∧ (c : Int) ≤ 70) := by omega
        rw [hw]
        clear hw h1 h2 h3
        rcases Nat.lt_or_ge c 48 with ha | ha
        · have z1 : ¬ (48 : Int) ≤ c := by omega
          have z2 : ¬ (97 : Int) ≤ c := by omega
          have z3 : ¬ (65 : Int) ≤ c := by omega
          clear hn1 hn2 hn3
          go_enter Tryd.func31, Tryd.ntmps31
          go_wp2_with fail
          go_ret
          exact ⟨by first | rfl | (simp; omega) | (simp [h0]; omega) | (simp [h0, h4]; omega) | simp [h0] | simp [h0, h4], rfl⟩
        · have z1 : (48 : Int) ≤ c := by omega
          have z2 : ¬ (c : Int) ≤ 57 := by omega
          rcases Nat.lt_or_ge c 65 with hb | hb
          · have z3 : ¬ (97 : Int) ≤ c := by omega
            have z4 : ¬ (65 : Int) ≤ c := by omega
            clear hn1 hn2 hn3
            go_enter Tryd.func31, Tryd.ntmps31
            go_wp2_with fail
            go_ret
            exact ⟨by first | rfl | (simp; omega) | (simp [h0]; omega) | (simp [h0, h4]; omega) | simp [h0] | simp [h0, h4], rfl⟩
          · have z4 : (65 : Int) ≤ c := by omega
            have z5 : ¬ (c : Int) ≤ 70 := by omega
            rcases Nat.lt_or_ge c 97 with hd | hd
            · have z3 : ¬ (97 : Int) ≤ c := by omega
              clear hn1 hn2 hn3
              go_enter Tryd.func31, Tryd.ntmps31
              go_wp2_with fail
              go_ret
              exact ⟨by first | rfl | (simp; omega) | (simp [h0]; omega) | (simp [h0, h4]; omega) | simp [h0] | simp [h0, h4], rfl⟩
            · have z3 : (97 : Int) ≤ c := by omega
              have z6 : ¬ (c : Int) ≤ 102 := by omega
              clear hn1 hn2 hn3
              go_enter Tryd.func31, Tryd.ntmps31
              go_wp2_with fail
              go_ret
              exact ⟨by first | rfl | (simp; omega) | (simp [h0]; omega) | (simp [h0, h4]; omega) | simp [h0] | simp [h0, h4], rfl⟩

theorem wfail_ok (p : Int) (w : World) :
    Calls Tryd.prog 30 #[.int .i64 p, .iface 38 (.int .i64 6)] w fun e w' => ∃ v, e = .returned v ∧ ErrOut sWord p 6 w v w' := by
  go_enter Tryd.func30, Tryd.ntmps30
  go_wp2_with fail
  go_ret
  exact ⟨_, rfl, _, rfl, Nat.le_refl _, Blk.newA _ _ rfl, (Kept.refl _ _).alloc _⟩

/-- What Parse answers. -/
def ParseOut (r : Except Nat Nat) (w : World) (v : Value) (w' : World) : Prop :=
  match r with
  | .ok n => v = .tuple #[.int .u64 n, .nilIface] ∧ w = w'
  | .error p => ∃ x, v = .tuple #[.int .u64 0, x] ∧ ErrOut sWord p 6 w x w'

/-- The text's base, how many digits at most, where they begin. -/
def baseOf (h : Bool) : Nat := if h then 16 else 10
def mostOf (h : Bool) : Nat := if h then 16 else 20
def fromOf (h : Bool) : Nat := if h then 2 else 0
theorem parseW_eq (s : List Nat) : parseW s = if s.length = fromOf (isHex s) then .error (fromOf (isHex s)) else shiftW (fromOf (isHex s)) (parseFrom (baseOf (isHex s)) (mostOf (isHex s)) 0 0 (s.drop (fromOf (isHex s)))) := by
  unfold parseW fromOf baseOf mostOf
  cases isHex s with
  | true => rfl
  | false =>
    show (if s.length = 0 then _ else _) = _
    split
    · rename_i h
      simp [h]
    · rename_i h
      simp [h]
      cases parseFrom 10 20 0 0 s <;> simp [shiftW]
theorem isHex_len {s : List Nat} (h : isHex s = true) : 2 ≤ s.length := by
  unfold isHex at h
  simp at h
  have := (List.getElem?_eq_some_iff.1 h.2).1
  omega
theorem fromOf_le (s : List Nat) : fromOf (isHex s) ≤ s.length := by
  unfold fromOf
  split
  · rename_i h; exact isHex_len h
  · exact Nat.zero_le _

set_option maxRecDepth 100000 in
set_option maxHeartbeats 2000000 in
theorem parse_ok (s : ByteArray) (hs : s.size ≤ 9223372036854775807) (w : World) :
    Calls Tryd.prog 13 #[.string s] w fun e w' => ∃ v, e = .returned v ∧ ParseOut (parseW (byt s)) w v w' := by
  obtain ⟨S, hS⟩ : ∃ S, byt s = S := ⟨_, rfl⟩
  obtain ⟨n, hn⟩ : ∃ n, s.size = n := ⟨_, rfl⟩
  have hlen : S.length = n := by rw [← hS, byt_length, hn]
  have HGET := hid (fun (i : Nat) (h : i < s.size) => (show S[i]? = some (s[i]'h).toNat by rw [← hS]; exact byt_get h))
  have HLT := hid (fun (i c : Nat) (h : S[i]? = some c) => byt_lt (s := s) (i := i) (c := c) (by rw [hS]; exact h))
  have HN := hid hn
  rw [hS]
  rw [hn] at hs
  have HL := hid hlen
  have hPE := hid (parseW_eq S)
  have hfr := fromOf_le S
  rw [HL.out] at hfr
  obtain ⟨hx, hhx⟩ : ∃ hx, isHex S = hx := ⟨_, rfl⟩
  have HHX := hid (show isHex (byt s) = hx by rw [hS]; exact hhx)
  rw [hhx] at hPE hfr
  clear hS hlen hhx
  go_enter Tryd.func13, Tryd.ntmps13
  go_upto_region 2 with fail
  go_cut [23] (fun s23 wx => w = wx ∧ s23 = .bool hx)
  case first =>
    go_wp2_with fail
    · go_meet
      refine ⟨rfl, congrArg Value.bool ?_⟩
      rw [← HHX.out]
      exact hexA (by omega) (by omega) (by assumption)
    · go_meet
      refine ⟨rfl, congrArg Value.bool ?_⟩
      rw [← HHX.out]
      exact (hexB (by omega) (by assumption)).symm
    · go_meet
      refine ⟨rfl, congrArg Value.bool ?_⟩
      rw [← HHX.out]
      exact (hexC (by omega)).symm
  case rest =>
    obtain ⟨rfl, rfl⟩ := hcut
    go_upto_if 23 with fail
    go_cut [4, 5, 6] (fun s4 s5 s6 wx => w = wx ∧ s4 = .int .u64 (baseOf hx) ∧ s5 = .int .i64 (mostOf hx) ∧ s6 = .int .i64 (fromOf hx))
    case first =>
      cases hx
      · go_wp2_with fail
        go_meet
        exact ⟨rfl, rfl, rfl, rfl⟩
      · go_wp2_with fail
        go_meet
        exact ⟨rfl, rfl, rfl, rfl⟩
    case rest =>
      obtain ⟨rfl, rfl, rfl, rfl⟩ := hcut
      have hbase : 10 ≤ baseOf hx ∧ baseOf hx ≤ 16 := by cases hx <;> decide
      have hmost : mostOf hx ≤ 20 := by cases hx <;> decide
      generalize baseOf hx = base at *
      generalize mostOf hx = most at *
      generalize hff : fromOf hx = from' at *
      obtain ⟨hb1, hb2⟩ := hbase
      go_wp2_with fail
      go_loop [7, 8] (fun s7 s8 => ∃ i v : Nat, s7 = .int .u64 v ∧ s8 = .int .i64 i ∧ from' ≤ i ∧ i ≤ n ∧ v ≤ MaxW ∧ parseFrom base most 0 0 (S.drop from') = parseFrom base most (i - from') v (S.drop i)) (fun _ s8 => n - (intOf s8).toNat)
      case atStart => exact ⟨from', 0, rfl, rfl, Nat.le_refl _, hfr, Nat.zero_le _, by rw [Nat.sub_self]⟩
      case round =>
        obtain ⟨i, v, rfl, rfl, hi1, hi2, hv, hpf⟩ := hrel
        have HPF := hid hpf
        unfold MaxW at hv
        clear hpf
        by_cases hlt : i < n
        · have hlts : i < s.size := by rw [HN.out]; exact hlt
          obtain ⟨c, hc⟩ : ∃ c, (s[i]'hlts).toNat = c := ⟨_, rfl⟩
          have hSi := HGET.out i hlts
          rw [hc] at hSi
          have hc256 := HLT.out i c hSi
          have hdrop : S.drop i = c :: S.drop (i + 1) := by
            obtain ⟨h1, h2⟩ := List.getElem?_eq_some_iff.1 hSi
            rw [← h2, List.getElem_cons_drop]
          rw [hdrop] at HPF
          have hdl := digW_le c
          have HC := hid hc
          clear hSi hdrop hc
          go_wp2_with fail
          rw [HC.out]
          refine (digit_ok c base hc256 hb2 _).mono ?_
          rintro e w' ⟨rfl, rfl⟩
          obtain ⟨d, hd⟩ : ∃ d, digW c = d := ⟨_, rfl⟩
          rw [hd] at hdl ⊢
          have HD := hid hd
          have hi3 : (i - from') + from' = i := by omega
          have hsub : IntKind.i64.wrap ((i : Int) - (from' : Int)) = ((i - from' : Nat) : Int) := by rw [IntWalk.i64_in _ ⟨by omega, by omega⟩]; omega
          have hsub' : wrap64 ((i : Int) - (from' : Int)) = ((i - from' : Nat) : Int) := by rw [IntWalk.wrap64_in _ ⟨by omega, by omega⟩]; omega
          have hm1 : IntKind.u64.wrap (18446744073709551615 - (d : Int)) = ((18446744073709551615 - d : Nat) : Int) := by rw [IntWalk.u64_in _ ⟨by omega, by omega⟩]; omega
          have hquo : ((18446744073709551615 - d : Nat) : Int).tdiv (base : Int) = (((18446744073709551615 - d) / base : Nat) : Int) := by
            rw [Int.tdiv_eq_ediv_of_nonneg (by omega)]; rfl
          have hwq : IntKind.u64.wrap (((18446744073709551615 - d) / base : Nat) : Int) = (((18446744073709551615 - d) / base : Nat) : Int) := IntWalk.u64_in _ ⟨Int.natCast_nonneg _, Int.ofNat_le.2 (Nat.le_trans (Nat.div_le_self _ _) (show 18446744073709551615 - d ≤ 18446744073709551615 by omega))⟩
          have hb0 : (base : Int) ≠ 0 := by omega
          have hok := okStep_iff (base := base) (most := most) (k := i - from') (v := v) (d := d) (by omega) (by unfold MaxW; omega)
          have hok2 : okStep base most (i - from') v d ↔ d < base ∧ i - from' < most ∧ v ≤ (18446744073709551615 - d) / base := Iff.rfl
          have hstep : parseFrom base most (i - from') v (c :: S.drop (i + 1)) = if okStep base most (i - from') v d then parseFrom base most (i - from' + 1) (v * base + d) (S.drop (i + 1)) else .error (i - from') := by rw [parseFrom, hd]
          have HST := hid hstep
          have hSn : S.length ≠ from' := by rw [HL.out]; omega
          have hbad := hid (fun (h : ¬ okStep base most (i - from') v d) => (show parseW S = .error i by
            rw [hPE.out, if_neg hSn, HPF.out, HST.out, if_neg h]
            show Except.error (from' + (i - from')) = _
            congr 1
            omega))
          generalize hkk : i - from' = kk at *
          generalize hqq : (18446744073709551615 - d) / base = qq at *
          generalize 18446744073709551615 - d = md at *
          clear hd hstep
          by_cases h1 : d < base
          · by_cases h2 : kk < most
            · by_cases h3 : v ≤ qq
              · have hstepok : okStep base most kk v d := hok2.2 ⟨h1, h2, h3⟩
                have hle := (hok.1 hstepok).2.2
                unfold MaxW at hle
                obtain ⟨p, hp⟩ : ∃ p, v * base = p := ⟨_, rfl⟩
                rw [hp] at hle
                have hmul : IntKind.u64.wrap ((v : Int) * (base : Int)) = (p : Int) := by rw [← Int.natCast_mul, hp]; exact IntWalk.u64_in _ ⟨by omega, by omega⟩
                have hadd : IntKind.u64.wrap ((p : Int) + (d : Int)) = ((p + d : Nat) : Int) := by rw [IntWalk.u64_in _ ⟨by omega, by omega⟩]; omega
                have HP := hid hp
                have HOK := hid hstepok
                have HKK := hid hkk
                clear hp hok hok2 hstepok hkk hqq
                rw [decide_eq_true h1]
                go_wp2_with fail
                go_round
                case rel => exact ⟨i + 1, p + d, rfl, by go_num, by omega, by omega, by unfold MaxW; omega, by rw [HPF.out, HST.out, if_pos HOK.out, HP.out, ← HKK.out]; congr 1; omega⟩
                case measure => simp [intOf]; omega
              · have HB := hid (hbad.out (fun h => h3 (hok2.1 h).2.2))
                clear hok hok2 hkk hqq hbad
                rw [decide_eq_true h1]
                go_wp2_with fail
                refine (wfail_ok _ _).mono ?_
                rintro e w' ⟨x, rfl, hE⟩
                go_wp2_with fail
                go_ret2
                refine ⟨_, rfl, ?_⟩
                unfold ParseOut
                rw [HB.out]
                exact ⟨_, rfl, hE⟩
            · have HB := hid (hbad.out (fun h => h2 h.2.1))
              clear hok hok2 hkk hqq hbad
              rw [decide_eq_true h1]
              go_wp2_with fail
              refine (wfail_ok _ _).mono ?_
              rintro e w' ⟨x, rfl, hE⟩
              go_wp2_with fail
              go_ret2
              refine ⟨_, rfl, ?_⟩
              unfold ParseOut
              rw [HB.out]
              exact ⟨_, rfl, hE⟩
          · have HB := hid (hbad.out (fun h => h1 h.1))
            clear hok hok2 hkk hqq hbad
            rw [decide_eq_false h1]
            go_wp2_with fail
            refine (wfail_ok _ _).mono ?_
            rintro e w' ⟨x, rfl, hE⟩
            go_wp2_with fail
            go_ret2
            refine ⟨_, rfl, ?_⟩
            unfold ParseOut
            rw [HB.out]
            exact ⟨_, rfl, hE⟩
        · obtain rfl : i = n := by omega
          by_cases e : i = from'
          · subst e
            have HB := hid (show parseW S = .error i by rw [hPE.out, if_pos HL.out])
            go_wp2_with fail
            refine (wfail_ok _ _).mono ?_
            rintro e w' ⟨x, rfl, hE⟩
            go_wp2_with fail
            go_ret2
            refine ⟨_, rfl, ?_⟩
            unfold ParseOut
            rw [HB.out]
            exact ⟨_, rfl, hE⟩
          · have he : ((i : Int) == (from' : Int)) = false := by simp; omega
            have HB := hid (show parseW S = .ok v by
              rw [hPE.out, if_neg (by rw [HL.out]; exact e), HPF.out, List.drop_of_length_le (Nat.le_of_eq HL.out)]
              rfl)
            clear e
            go_wp2_with fail
            go_ret2
            refine ⟨_, rfl, ?_⟩
            unfold ParseOut
            rw [HB.out]
            exact ⟨rfl, rfl⟩

end Go.Proofs.YtbiiggligcfklaaDoor
