/- The document's Parse. -/
import Derived.Test.YtbiiggligcfklaaDoorWordP
namespace Go.Proofs.YtbiiggligcfklaaDoor
open Go Go.RowKit

/-- What the document's Parse answers. -/
def RParseOut (r : Except Nat Nat) (w : World) (v : Value) (w' : World) : Prop :=
  match r with
  | .ok n => v = .tuple #[.int .u64 n, .pointer none] ∧ w = w'
  | .error p => ∃ b, v = .tuple #[.int .u64 0, .pointer (some ⟨b, 0, none⟩)] ∧ FailAt w' b sWord p 6 ∧ Kept [] w w'

set_option maxRecDepth 100000 in
set_option maxHeartbeats 4000000 in
theorem rparse_ok (s : ByteArray) (hs : s.size ≤ 9223372036854775807) (w : World) :
    Calls Tryd.prog 14 #[.string s] w fun e w' => ∃ v, e = .returned v ∧ RParseOut (parseW (byt s)) w v w' := by
  obtain ⟨S, hS⟩ : ∃ S, byt s = S := ⟨_, rfl⟩
  obtain ⟨n, hn⟩ : ∃ n, s.size = n := ⟨_, rfl⟩
  have hlen : S.length = n := by rw [← hS, byt_length, hn]
  have HGET := hid (fun (i : Nat) (h : i < s.size) => (show S[i]? = some (s[i]'h).toNat by rw [← hS]; exact byt_get h))
  have HLT := hid (fun (i c : Nat) (h : S[i]? = some c) => byt_lt (s := s) (i := i) (c := c) (by rw [hS]; exact h))
  have HN := hid hn
  rw [hS]
  rw [hn] at hs
  have HL := hid hlen
  have hPE := hid (parseW_eq S)
  have hfr := fromOf_le S
  rw [HL.out] at hfr
  obtain ⟨hx, hhx⟩ : ∃ hx, isHex S = hx := ⟨_, rfl⟩
  have HHX := hid (show isHex (byt s) = hx by rw [hS]; exact hhx)
  rw [hhx] at hPE hfr
  clear hS hlen hhx
  go_enter Tryd.func14, Tryd.ntmps14
  go_upto_region 2 with fail
  go_cut [22] (fun s22 wx => w = wx ∧ s22 = .bool hx)
  case first =>
    go_wp2_with fail
    · go_meet
      refine ⟨rfl, congrArg Value.bool ?_⟩
      rw [← HHX.out]
      exact hexA (by omega) (by omega) (by assumption)
    · go_meet
      refine ⟨rfl, congrArg Value.bool ?_⟩
      rw [← HHX.out]
      exact (hexB (by omega) (by assumption)).symm
    · go_meet
      refine ⟨rfl, congrArg Value.bool ?_⟩
      rw [← HHX.out]
      exact (hexC (by omega)).symm
  case rest =>
    obtain ⟨rfl, rfl⟩ := hcut
    go_upto_if 22 with fail
    go_cut [4, 5, 6] (fun s4 s5 s6 wx => w = wx ∧ ((hx = false ∧ s4 = .int .u64 10 ∧ s5 = .int .i64 0 ∧ s6 = .int .i64 20) ∨ (hx = true ∧ s4 = .int .u64 16 ∧ s5 = .int .i64 2 ∧ s6 = .int .i64 16)))
    case first =>
      cases hx
      · go_wp2_with fail
        go_meet
        first | exact ⟨trivial, .inl ⟨rfl, rfl, rfl, rfl⟩⟩ | simp
      · go_wp2_with fail
        go_meet
        first | exact ⟨trivial, .inr ⟨rfl, rfl, rfl, rfl⟩⟩ | simp
    case rest =>
      obtain ⟨rfl, hcut2⟩ := hcut
      rcases hcut2 with ⟨rfl, rfl, rfl, rfl⟩ | ⟨rfl, rfl, rfl, rfl⟩
      · have hPE' := hid (show parseW S = if S.length = 0 then .error 0 else shiftW 0 (parseFrom 10 20 0 0 (S.drop 0)) from hPE.out)
        have hfr' : 0 ≤ n := hfr
        go_wp2_with fail
        go_loop [7, 8] (fun s7 s8 => ∃ i v : Nat, s7 = .int .u64 v ∧ s8 = .int .i64 i ∧ 0 ≤ i ∧ i ≤ n ∧ v ≤ MaxW ∧ True ∧ parseFrom 10 20 0 0 (S.drop 0) = parseFrom 10 20 (i - 0) v (S.drop i)) (fun _ s8 => n - (intOf s8).toNat)
        case atStart => exact ⟨0, 0, rfl, rfl, Nat.le_refl _, hfr', Nat.zero_le _, trivial, by rw [Nat.sub_self]⟩
        case round =>
          obtain ⟨i, v, rfl, rfl, hi1, hi2, hv, hinv, hpf⟩ := hrel
          have HPF := hid hpf
          have HTrue := hid hinv
          unfold MaxW at hv
          clear hpf hinv
          by_cases hlt : i < n
          · have hlts : i < s.size := by rw [HN.out]; exact hlt
            obtain ⟨c, hc⟩ : ∃ c, (s[i]'hlts).toNat = c := ⟨_, rfl⟩
            have hSi := HGET.out i hlts
            rw [hc] at hSi
            have hc256 := HLT.out i c hSi
            have hdrop : S.drop i = c :: S.drop (i + 1) := by
              obtain ⟨h1, h2⟩ := List.getElem?_eq_some_iff.1 hSi
              rw [← h2, List.getElem_cons_drop]
            rw [hdrop] at HPF
            have hdl := digW_le c
            have HC := hid hc
            clear hSi hdrop hc
            go_wp2_with fail
            rw [HC.out]
            refine (rdigit_ok c hc256 _).mono ?_
            rintro e w' ⟨rfl, rfl⟩
            obtain ⟨d, hd⟩ : ∃ d, digW c = d := ⟨_, rfl⟩
            rw [hd] at hdl ⊢
            have HD := hid hd
            rw [Nat.sub_zero] at HPF
            have HS1 := hid (IntWalk.wrap64_in (i : Int) ⟨by omega, by omega⟩)
            obtain ⟨md, hmde⟩ : ∃ md, md + d = 18446744073709551615 := ⟨18446744073709551615 - d, by omega⟩
            have hm1 : IntKind.u64.wrap (18446744073709551615 - (d : Int)) = (md : Int) := by rw [IntWalk.u64_in _ ⟨by omega, by omega⟩]; omega
            have hok := okStep_iff (base := 10) (most := 20) (k := i) (v := v) (d := d) (by omega) (by unfold MaxW; omega)
            unfold MaxW at hok
            have hstep : parseFrom 10 20 i v (c :: S.drop (i + 1)) = if okStep 10 20 i v d then parseFrom 10 20 (i + 1) (v * 10 + d) (S.drop (i + 1)) else .error i := by rw [parseFrom, hd]
            have HST := hid hstep
            have hSn : S.length ≠ 0 := by rw [HL.out]; omega
            have hbad := hid (fun (h : ¬ okStep 10 20 i v d) => (show parseW S = .error i by
              rw [hPE'.out, if_neg hSn, HPF.out, HST.out, if_neg h]
              show Except.error (0 + i) = _
              congr 1
              omega))
            clear hd hstep
            by_cases h1 : d < 10
            · have h1' : ¬ 10 ≤ d := by omega
              by_cases h2 : i < 20
              · have h2' : ¬ 20 ≤ i := by omega
                by_cases hA : v ≤ 1844674407370955161
                · have hA' : ¬ (1844674407370955161 : Int) < (v : Int) := by omega
                  by_cases hC : v * 10 ≤ md
                  · have hle : v * 10 + d ≤ 18446744073709551615 := by omega
                    have hmul : IntKind.u64.wrap ((v : Int) * 10) = (v * 10 : Nat) := by rw [IntWalk.u64_in _ ⟨by omega, by omega⟩]; omega
                    obtain ⟨p, hp⟩ : ∃ p, v * 10 = p := ⟨_, rfl⟩
                    rw [hp] at hle hmul
                    have hpd : p ≤ md := by omega
                    have hpd' : ¬ md < p := by omega
                    have hadd : IntKind.u64.wrap ((p : Int) + (d : Int)) = ((p + d : Nat) : Int) := by rw [IntWalk.u64_in _ ⟨by omega, by omega⟩]; omega
                    have HP := hid hp
                    have HOK := hid (hok.2 ⟨h1, h2, by rw [hp]; exact hle⟩)
                    have hinv2 := hid (show (fun i v => True) (i + 1) (p + d) from trivial)
                    clear hp hok hbad hmde hdl hv hpd hC hA
                    have HLE := hid hle
                    clear hle
                    obtain ⟨q, hq⟩ : ∃ q, p + d = q := ⟨_, rfl⟩
                    rw [hq] at hadd
                    have HQ := hid hq
                    clear hq
                    go_wp2_with fail
                    go_round
                    case rel => exact ⟨i + 1, q, rfl, by go_num, by omega, by omega, by have := HLE.out; have := HQ.out; unfold MaxW; omega, trivial, by rw [HPF.out, HST.out, if_pos HOK.out, HP.out, HQ.out]; rfl⟩
                    case measure => simp [intOf]; omega
                  · have HB := hid (hbad.out (fun h => by have := (hok.1 h).2.2; omega))
                    have hmul : IntKind.u64.wrap ((v : Int) * 10) = (v * 10 : Nat) := by rw [IntWalk.u64_in _ ⟨by omega, by omega⟩]; omega
                    obtain ⟨p, hp⟩ : ∃ p, v * 10 = p := ⟨_, rfl⟩
                    rw [hp] at hmul hC
                    have hC' : md < p := by omega
                    clear hok hbad hp hmde hdl hv hC hA
                    go_wp2_with fail
                    refine (no_ok _ _ _ _).mono ?_
                    rintro e w' ⟨b, rfl, hF, hb, hE⟩
                    go_wp2_with fail
                    go_ret2
                    refine ⟨_, rfl, ?_⟩
                    unfold RParseOut
                    rw [HB.out]
                    exact ⟨b, rfl, hF, hE⟩
                · have HB := hid (hbad.out (fun h => by have := (hok.1 h).2.2; omega))
                  have hA' : (1844674407370955161 : Int) < (v : Int) := by omega
                  clear hok hbad hA
                  go_wp2_with fail
                  refine (no_ok _ _ _ _).mono ?_
                  rintro e w' ⟨b, rfl, hF, hb, hE⟩
                  go_wp2_with fail
                  go_ret2
                  refine ⟨_, rfl, ?_⟩
                  unfold RParseOut
                  rw [HB.out]
                  exact ⟨b, rfl, hF, hE⟩
              · have HB := hid (hbad.out (fun h => h2 h.2.1))
                have h2' : 20 ≤ i := by omega
                clear hok hbad
                go_wp2_with fail
                refine (no_ok _ _ _ _).mono ?_
                rintro e w' ⟨b, rfl, hF, hb, hE⟩
                go_wp2_with fail
                go_ret2
                refine ⟨_, rfl, ?_⟩
                unfold RParseOut
                rw [HB.out]
                exact ⟨b, rfl, hF, hE⟩
            · have HB := hid (hbad.out (fun h => h1 h.1))
              have h1' : 10 ≤ d := by omega
              clear hok hbad
              go_wp2_with fail
              refine (no_ok _ _ _ _).mono ?_
              rintro e w' ⟨b, rfl, hF, hb, hE⟩
              go_wp2_with fail
              go_ret2
              refine ⟨_, rfl, ?_⟩
              unfold RParseOut
              rw [HB.out]
              exact ⟨b, rfl, hF, hE⟩
          · obtain rfl : i = n := by omega
            by_cases e : i = 0
            · have HB := hid (show parseW S = .error 0 by rw [hPE'.out, if_pos (by rw [HL.out]; exact e)])
              obtain rfl : i = 0 := e
              go_wp2_with fail
              refine (no_ok _ _ _ _).mono ?_
              rintro e w' ⟨b, rfl, hF, hb, hE⟩
              go_wp2_with fail
              go_ret2
              refine ⟨_, rfl, ?_⟩
              unfold RParseOut
              rw [HB.out]
              exact ⟨b, rfl, hF, hE⟩
            · have he : ((i : Int) == 0) = false := by simp; omega
              have HB := hid (show parseW S = .ok v by
                rw [hPE'.out, if_neg (by rw [HL.out]; exact e), HPF.out, List.drop_of_length_le (Nat.le_of_eq HL.out)]
                rfl)
              clear e
              go_wp2_with fail
              go_ret2
              refine ⟨_, rfl, ?_⟩
              unfold RParseOut
              rw [HB.out]
              exact ⟨rfl, rfl⟩
      · have hPE' := hid (show parseW S = if S.length = 2 then .error 2 else shiftW 2 (parseFrom 16 16 0 0 (S.drop 2)) from hPE.out)
        have hfr' : 2 ≤ n := hfr
        go_wp2_with fail
        go_loop [7, 8] (fun s7 s8 => ∃ i v : Nat, s7 = .int .u64 v ∧ s8 = .int .i64 i ∧ 2 ≤ i ∧ i ≤ n ∧ v ≤ MaxW ∧ v < 16 ^ (i - 2) ∧ parseFrom 16 16 0 0 (S.drop 2) = parseFrom 16 16 (i - 2) v (S.drop i)) (fun _ s8 => n - (intOf s8).toNat)
        case atStart => exact ⟨2, 0, rfl, rfl, Nat.le_refl _, hfr', Nat.zero_le _, by decide, by rw [Nat.sub_self]⟩
        case round =>
          obtain ⟨i, v, rfl, rfl, hi1, hi2, hv, hinv, hpf⟩ := hrel
          have HPF := hid hpf
          have HINV := hid hinv
          unfold MaxW at hv
          clear hpf hinv
          by_cases hlt : i < n
          · have hlts : i < s.size := by rw [HN.out]; exact hlt
            obtain ⟨c, hc⟩ : ∃ c, (s[i]'hlts).toNat = c := ⟨_, rfl⟩
            have hSi := HGET.out i hlts
            rw [hc] at hSi
            have hc256 := HLT.out i c hSi
            have hdrop : S.drop i = c :: S.drop (i + 1) := by
              obtain ⟨h1, h2⟩ := List.getElem?_eq_some_iff.1 hSi
              rw [← h2, List.getElem_cons_drop]
            rw [hdrop] at HPF
            have hdl := digW_le c
            have HC := hid hc
            clear hSi hdrop hc
            go_wp2_with fail
            rw [HC.out]
            refine (rdigit_ok c hc256 _).mono ?_
            rintro e w' ⟨rfl, rfl⟩
            obtain ⟨d, hd⟩ : ∃ d, digW c = d := ⟨_, rfl⟩
            rw [hd] at hdl ⊢
            have HD := hid hd
            obtain ⟨kk, hkk⟩ : ∃ kk, i - 2 = kk := ⟨_, rfl⟩
            rw [hkk] at HPF
            have hsub'' : (i : Int) - 2 = (kk : Int) := by omega
            have hkb : kk ≤ 9223372036854775807 := by omega
            have HS1 := hid (IntWalk.wrap64_in (kk : Int) ⟨by omega, by omega⟩)
            obtain ⟨md, hmde⟩ : ∃ md, md + d = 18446744073709551615 := ⟨18446744073709551615 - d, by omega⟩
            have hm1 : IntKind.u64.wrap (18446744073709551615 - (d : Int)) = (md : Int) := by rw [IntWalk.u64_in _ ⟨by omega, by omega⟩]; omega
            have hok := okStep_iff (base := 16) (most := 16) (k := kk) (v := v) (d := d) (by omega) (by unfold MaxW; omega)
            unfold MaxW at hok
            have hstep : parseFrom 16 16 kk v (c :: S.drop (i + 1)) = if okStep 16 16 kk v d then parseFrom 16 16 (kk + 1) (v * 16 + d) (S.drop (i + 1)) else .error kk := by rw [parseFrom, hd]
            have HST := hid hstep
            have hSn : S.length ≠ 2 := by rw [HL.out]; omega
            have hbad := hid (fun (h : ¬ okStep 16 16 kk v d) => (show parseW S = .error i by
              rw [hPE'.out, if_neg hSn, HPF.out, HST.out, if_neg h]
              show Except.error (2 + kk) = _
              congr 1
              omega))
            have HKK := hid hkk
            clear hd hstep hkk
            by_cases h1 : d < 16
            · have h1' : ¬ 16 ≤ d := by omega
              by_cases h2 : kk < 16
              · have h2' : ¬ 16 ≤ kk := by omega
                have hv15 : v < 1152921504606846976 := by
                  have h3 := HINV.out
                  have h4 : (16 : Nat) ^ kk ≤ 16 ^ 15 := Nat.pow_le_pow_right (by omega) (by omega)
                  rw [HKK.out] at h3
                  have h5 : (16 : Nat) ^ 15 = 1152921504606846976 := by decide
                  omega
                have hle : v * 16 + d ≤ 18446744073709551615 := by omega
                have hmul : IntKind.u64.wrap ((v : Int) * 16) = (v * 16 : Nat) := by rw [IntWalk.u64_in _ ⟨by omega, by omega⟩]; omega
                obtain ⟨p, hp⟩ : ∃ p, v * 16 = p := ⟨_, rfl⟩
                rw [hp] at hle hmul
                have hpd : p ≤ md := by omega
                have hpd' : ¬ md < p := by omega
                have hadd : IntKind.u64.wrap ((p : Int) + (d : Int)) = ((p + d : Nat) : Int) := by rw [IntWalk.u64_in _ ⟨by omega, by omega⟩]; omega
                have HP := hid hp
                have HOK := hid (hok.2 ⟨h1, h2, by rw [hp]; exact hle⟩)
                have hinv2 := hid (show (fun i v => v < 16 ^ (i - 2)) (i + 1) (p + d) from by
                  show p + d < 16 ^ (i + 1 - 2)
                  have h3 := HINV.out
                  rw [HKK.out] at h3
                  rw [show i + 1 - 2 = kk + 1 by have := HKK.out; omega, Nat.pow_succ]
                  omega)
                clear hp hok hbad
                go_wp2_with fail
                go_round
                case rel => exact ⟨i + 1, p + d, rfl, by go_num, by omega, by omega, by unfold MaxW; omega, hinv2.out, by rw [HPF.out, HST.out, if_pos HOK.out, HP.out, ← HKK.out]; congr 1; omega⟩
                case measure => simp [intOf]; omega
              · have HB := hid (hbad.out (fun h => h2 h.2.1))
                have h2' : 16 ≤ kk := by omega
                clear hok hbad
                go_wp2_with fail
                refine (no_ok _ _ _ _).mono ?_
                rintro e w' ⟨b, rfl, hF, hb, hE⟩
                go_wp2_with fail
                go_ret2
                refine ⟨_, rfl, ?_⟩
                unfold RParseOut
                rw [HB.out]
                exact ⟨b, rfl, hF, hE⟩
            · have HB := hid (hbad.out (fun h => h1 h.1))
              have h1' : 16 ≤ d := by omega
              clear hok hbad
              go_wp2_with fail
              refine (no_ok _ _ _ _).mono ?_
              rintro e w' ⟨b, rfl, hF, hb, hE⟩
              go_wp2_with fail
              go_ret2
              refine ⟨_, rfl, ?_⟩
              unfold RParseOut
              rw [HB.out]
              exact ⟨b, rfl, hF, hE⟩
          · obtain rfl : i = n := by omega
            by_cases e : i = 2
            · have HB := hid (show parseW S = .error 2 by rw [hPE'.out, if_pos (by rw [HL.out]; exact e)])
              subst e
              go_wp2_with fail
              refine (no_ok _ _ _ _).mono ?_
              rintro e w' ⟨b, rfl, hF, hb, hE⟩
              go_wp2_with fail
              go_ret2
              refine ⟨_, rfl, ?_⟩
              unfold RParseOut
              rw [HB.out]
              exact ⟨b, rfl, hF, hE⟩
            · have he : ((i : Int) == 2) = false := by simp; omega
              have HB := hid (show parseW S = .ok v by
                rw [hPE'.out, if_neg (by rw [HL.out]; exact e), HPF.out, List.drop_of_length_le (Nat.le_of_eq HL.out)]
                rfl)
              clear e
              go_wp2_with fail
              go_ret2
              refine ⟨_, rfl, ?_⟩
              unfold RParseOut
              rw [HB.out]
              exact ⟨rfl, rfl⟩

end Go.Proofs.YtbiiggligcfklaaDoor
