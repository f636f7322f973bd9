/- The document's clock (distaffref07): Arm, Disarm, Deadline, Tick. -/
import Derived.Test.YtcaikpfdhdbioaaDoorClockU
import Derived.Test.YtcaikpfdhdbioaaDoorAppL
namespace Go.Proofs.YtcaikpfdhdbioaaDoor
open Go Go.RowKit

set_option maxRecDepth 100000 in
set_option maxHeartbeats 1000000 in
theorem rarm_zero {w : World} {rb : Nat} {U : List Nat} {S : List Th} {last now : Nat} (_ : RefIs w rb U S last now) (d : Nat) :
    Calls Tryd.prog 19 #[.pointer (some ⟨rb, 0, none⟩), .int .u64 0, .int .u64 d] w fun e w' => ∃ b, e = .returned (.pointer (some ⟨b, 0, none⟩)) ∧ FailAt w' b sClock 0 1 ∧ Kept [] w w' := by
  go_enter Tryd.func19, Tryd.ntmps19
  go_wp2_with fail
  refine (no_ok _ _ _ _).mono ?_
  rintro e w2 ⟨b, rfl, hF, hb, hK⟩
  have HF := hid hF
  have HK := hid hK
  clear hF hK
  go_wp2_with fail
  go_ret
  exact ⟨b, rfl, HF.out, HK.out⟩
set_option maxRecDepth 100000 in
set_option maxHeartbeats 1000000 in
theorem rarm_twice {w : World} {rb : Nat} {U : List Nat} {S : List Th} {last now : Nat} (h : RefIs w rb U S last now) (hS : S.length ≤ 100000) (hnd : (S.map (·.x)).Nodup) {t : Th} (ht : t ∈ S) (h0 : t.x ≠ 0) (d : Nat) :
    Calls Tryd.prog 19 #[.pointer (some ⟨rb, 0, none⟩), .int .u64 t.x, .int .u64 d] w fun e w' => ∃ b, e = .returned (.pointer (some ⟨b, 0, none⟩)) ∧ FailAt w' b sClock 0 8 ∧ Kept [] w w' := by
  have HFI := hid (rfind_some h hS hnd ht)
  have hid0 : ((t.x : Int) == 0) = false := by simp; exact h0
  clear h hnd ht
  go_enter Tryd.func19, Tryd.ntmps19
  go_wp2_with fail
  refine HFI.out.mono ?_
  rintro e w1 ⟨rfl, hK1⟩
  have HK1 := hid hK1
  clear hK1
  go_wp2_with fail
  refine (no_ok _ _ _ _).mono ?_
  rintro e w2 ⟨b, rfl, hF, hb, hK⟩
  have HF := hid hF
  have HK := hid hK
  clear hF hK
  go_wp2_with fail
  go_ret
  exact ⟨b, rfl, HF.out, (HK1.out.alloc _).trans HK.out⟩
set_option maxRecDepth 100000 in
set_option maxHeartbeats 1000000 in
theorem rarm_never {w : World} {rb : Nat} {U : List Nat} {S : List Th} {last now : Nat} (h : RefIs w rb U S last now) (hS : S.length ≤ 100000) (x : Nat) (h0 : x ≠ 0) (hx : ∀ t, t ∈ S → t.x ≠ x) :
    Calls Tryd.prog 19 #[.pointer (some ⟨rb, 0, none⟩), .int .u64 x, .int .u64 18446744073709551615] w fun e w' => e = .returned (.pointer none) ∧ Kept [] w w' := by
  have HFI := hid (rfind_none h hS x hx)
  have hid0 : ((x : Int) == 0) = false := by simp; exact h0
  clear h hx
  go_enter Tryd.func19, Tryd.ntmps19
  go_wp2_with fail
  refine HFI.out.mono ?_
  rintro e w1 ⟨rfl, hK1⟩
  have HK1 := hid hK1
  clear hK1
  go_wp2_with fail
  go_ret
  exact ⟨rfl, HK1.out.alloc _⟩
set_option maxRecDepth 100000 in
set_option maxHeartbeats 1000000 in
theorem rarm_ok {w : World} {rb : Nat} {U : List Nat} {S : List Th} {last now : Nat} (h : RefIs w rb U S last now) (hS : S.length ≤ 100000) (hla : last ≤ 1000000) (hle : ∀ s, s ∈ S → s.h ≤ last) (x d : Nat) (h0 : x ≠ 0) (hd : d < 18446744073709551615) (hx : ∀ t, t ∈ S → t.x ≠ x) :
    Calls Tryd.prog 19 #[.pointer (some ⟨rb, 0, none⟩), .int .u64 x, .int .u64 d] w fun e w' => e = .returned (.pointer none) ∧ ∃ U', RefIs w' rb U' (insT ⟨d, x, last + 1⟩ S) (last + 1) now ∧ (∀ y, y ∈ U' → y ∈ U ∨ w.heap.size ≤ y) ∧ Kept U w w' := by
  have HFI := hid (rfind_none h hS x hx)
  have hid0 : ((x : Int) == 0) = false := by simp; exact h0
  have hdn : ((d : Int) != 18446744073709551615) = true := by simp; omega
  have H := hid h
  have HLE := hid hle
  clear h hx hle hd
  go_enter Tryd.func19, Tryd.ntmps19
  go_wp2_with fail
  refine HFI.out.mono ?_
  rintro e w1 ⟨rfl, hK1⟩
  have HK1 := hid (hK1.alloc (.cells #[.int .u64 0, .int .u64 0, .int .i64 0] 76))
  have HPUT := hid (rput_ok (H.out.keptN HK1.out) hS hla HLE.out d x)
  clear hK1
  go_wp2_with fail
  refine HPUT.out.mono ?_
  rintro e w2 ⟨rfl, U', hR, hU, hK2⟩
  have HR := hid hR
  have HUU := hid hU
  have HK2 := hid hK2
  clear hR hU hK2
  go_wp2_with fail
  go_ret
  refine ⟨rfl, U', HR.out, fun y hy => ?_, HK1.out.nil.trans HK2.out⟩
  rcases HUU.out y hy with h1 | h1
  · exact .inl h1
  · exact .inr (Nat.le_trans HK1.out.size h1)

set_option maxRecDepth 100000 in
set_option maxHeartbeats 1000000 in
theorem roff_none {w : World} {rb : Nat} {U : List Nat} {S : List Th} {last now : Nat} (h : RefIs w rb U S last now) (hS : S.length ≤ 100000) (x : Nat) (hx : ∀ t, t ∈ S → t.x ≠ x) :
    Calls Tryd.prog 14 #[.pointer (some ⟨rb, 0, none⟩), .int .u64 x] w fun e w' => e = .returned (.bool false) ∧ Kept [] w w' := by
  have HFI := hid (rfind_none h hS x hx)
  clear h hx
  go_enter Tryd.func14, Tryd.ntmps14
  go_wp2_with fail
  refine HFI.out.mono ?_
  rintro e w1 ⟨rfl, hK1⟩
  have HK1 := hid hK1
  clear hK1
  go_wp2_with fail
  go_ret
  exact ⟨rfl, HK1.out.alloc _⟩
set_option maxRecDepth 100000 in
set_option maxHeartbeats 1000000 in
theorem roff_some {w : World} {rb : Nat} {U : List Nat} {S : List Th} {last now : Nat} (h : RefIs w rb U S last now) (hS : S.length ≤ 100000) (hnd : (S.map (·.x)).Nodup) (hnh : (S.map (·.h)).Nodup) {t : Th} (ht : t ∈ S) :
    Calls Tryd.prog 14 #[.pointer (some ⟨rb, 0, none⟩), .int .u64 t.x] w fun e w' => e = .returned (.bool true) ∧ ∃ U', RefIs w' rb U' (outT t.h S) last now ∧ (∀ y, y ∈ U' → y ∈ U ∨ w.heap.size ≤ y) ∧ Kept U w w' := by
  have HFI := hid (rfind_some h hS hnd ht)
  have H := hid h
  have HNH := hid hnh
  have HT := hid ht
  clear h hnd hnh ht
  go_enter Tryd.func14, Tryd.ntmps14
  go_wp2_with fail
  refine HFI.out.mono ?_
  rintro e w1 ⟨rfl, hK1⟩
  obtain ⟨w2, hw2⟩ : ∃ w2, (w1.alloc (.cells #[.int .u64 t.d, .int .u64 t.x, .int .i64 t.h] 76)) = w2 := ⟨_, rfl⟩
  have HK2 := hid (show Kept [] w w2 by rw [← hw2]; exact hK1.alloc _)
  have b2 : w2.cell? ⟨w1.heap.size, 2, none⟩ = some (.int .i64 t.h) := by rw [← hw2]; exact (Blk.newA #[.int .u64 t.d, .int .u64 t.x, .int .i64 t.h] _ rfl).cell rfl
  have HDR := hid (rdrop_ok (H.out.keptN (HK2.out.trans (Kept.refl [] w2).drew)) hS HNH.out HT.out)
  clear hK1
  go_wp2_with fail
  clear hw2
  go_still_tail 5, (by kernel_rfl)
  change wpList _ _ _ _ _ w2.drew
  obtain ⟨wq, hwq⟩ : ∃ wq, w2.drew = wq := ⟨_, rfl⟩
  have HK3 := hid (show Kept [] w wq by rw [← hwq]; exact HK2.out.drew)
  rw [hwq] at HDR ⊢
  clear hwq b2
  go_wp2_with fail
  refine HDR.out.mono ?_
  rintro e w3 ⟨rfl, U', hR, hU, hK4⟩
  have HR := hid hR
  have HUU := hid hU
  have HK4 := hid hK4
  clear hR hU hK4
  go_wp2_with fail
  go_ret
  refine ⟨rfl, U', HR.out, fun y hy => ?_, HK3.out.nil.trans HK4.out⟩
  rcases HUU.out y hy with h1 | h1
  · exact .inl h1
  · exact .inr (Nat.le_trans HK3.out.size h1)

set_option maxRecDepth 100000 in
set_option maxHeartbeats 1000000 in
theorem rdead_none {w : World} {rb : Nat} {U : List Nat} {S : List Th} {last now : Nat} (h : RefIs w rb U S last now) (hS : S.length ≤ 100000) (x : Nat) (hx : ∀ t, t ∈ S → t.x ≠ x) :
    Calls Tryd.prog 16 #[.pointer (some ⟨rb, 0, none⟩), .int .u64 x] w fun e w' => e = .returned (.tuple #[.int .u64 0, .bool false]) ∧ Kept [] w w' := by
  have HFI := hid (rfind_none h hS x hx)
  clear h hx
  go_enter Tryd.func16, Tryd.ntmps16
  go_wp2_with fail
  refine HFI.out.mono ?_
  rintro e w1 ⟨rfl, hK1⟩
  have HK1 := hid hK1
  clear hK1
  go_wp2_with fail
  go_ret2
  exact ⟨rfl, HK1.out.alloc _⟩
set_option maxRecDepth 100000 in
set_option maxHeartbeats 1000000 in
theorem rdead_some {w : World} {rb : Nat} {U : List Nat} {S : List Th} {last now : Nat} (h : RefIs w rb U S last now) (hS : S.length ≤ 100000) (hnd : (S.map (·.x)).Nodup) {t : Th} (ht : t ∈ S) :
    Calls Tryd.prog 16 #[.pointer (some ⟨rb, 0, none⟩), .int .u64 t.x] w fun e w' => e = .returned (.tuple #[.int .u64 t.d, .bool true]) ∧ Kept [] w w' := by
  have HFI := hid (rfind_some h hS hnd ht)
  clear h hnd ht
  go_enter Tryd.func16, Tryd.ntmps16
  go_wp2_with fail
  refine HFI.out.mono ?_
  rintro e w1 ⟨rfl, hK1⟩
  have HK1 := hid hK1
  clear hK1
  go_wp2_with fail
  go_ret2
  exact ⟨rfl, HK1.out.alloc _⟩

/-- What holds at the head of Tick's loop. -/
structure RTickI (w : World) (rb : Nat) (U : List Nat) (A B : List Th) (last n1 : Nat) (wr : World) (k : Nat) (lv : Value) : Prop where
  le : k ≤ A.length
  clock : ∃ U', RefIs wr rb U' (A.drop k ++ B) last n1 ∧ (∀ y, y ∈ U' → y ∈ U ∨ w.heap.size ≤ y) ∧ ∀ y, y ∈ U' → y ∉ lv.ownBlock.toList
  row : wr.ownsRow w.heap.size 25 1 lv k ((A.map numV).take k)
  kept : Kept U w wr

set_option maxRecDepth 100000 in
set_option maxHeartbeats 4000000 in
theorem rtick_ok {w : World} {rb : Nat} {U : List Nat} {A B : List Th} {last now : Nat} (h : RefIs w rb U (A ++ B) last now) (hS : (A ++ B).length ≤ 100000) (hnow : now + 1 < 18446744073709551616) (hA : ∀ s, s ∈ A → s.d ≤ now + 1) (hB : ∀ s, s ∈ B → now + 1 < s.d) :
    Calls Tryd.prog 18 #[.pointer (some ⟨rb, 0, none⟩)] w fun e w' => ∃ v U', e = .returned v ∧ RefIs w' rb U' B last (now + 1) ∧ (∀ y, y ∈ U' → y ∈ U ∨ w.heap.size ≤ y) ∧ w'.ownsRow w.heap.size 25 1 v A.length (A.map numV) ∧ Kept U w w' := by
  have hlt := h.lt
  obtain ⟨n1, hn1⟩ : ∃ n1, now + 1 = n1 := ⟨_, rfl⟩
  rw [hn1] at hA hB ⊢
  have hw1 : IntKind.u64.wrap ((now : Int) + 1) = (n1 : Int) := by rw [IntKind.wrap_u64]; omega
  have hw2 : (now : Int) + 1 = (n1 : Int) := by omega
  have hw3 : IntKind.u64.wrap (n1 : Int) = (n1 : Int) := by rw [IntKind.wrap_u64]; omega
  have hAl : A.length ≤ 100000 := by rw [List.length_append] at hS; omega
  obtain ⟨v, hU, hr⟩ := h
  have c0 := hr.head.cell (o := 0) rfl
  have z0 := hr.head.frozen 0
  have hcl := hr.head.lt
  have hst : RTickI w rb U A B last n1 (w.setCell ⟨rb, 0, none⟩ (.int .u64 n1)) 0 (.slice none 0 0) := by
    subst hU
    exact ⟨Nat.zero_le _, ⟨_, ⟨v, rfl, hr.head.set 0 _, own_set_ne hr.row _ hr.far, hr.far⟩, fun y hy => .inl hy, fun y _ => by simp [Value.ownBlock]⟩, World.ownsRow_nil _ _ _ _, (Kept.refl _ _).setCell (.inl (by simp)) _⟩
  have HST := hid hst
  have HA := hid hA
  have HB := hid hB
  have HLT := hid hlt
  clear hr hst hA hB hlt hn1 hnow hU
  go_enter Tryd.func18, Tryd.ntmps18
  go_wp2_with fail
  clear hw1 hw2 hw3 c0 z0
  go_loopw [3] (fun s3 wr => ∃ k, RTickI w rb U A B last n1 wr k s3) (fun s3 _ => A.length - sliceLen s3)
  case atStart => exact ⟨0, HST.out⟩
  case round =>
    obtain ⟨k, hI⟩ := hrel
    have HI := hid hI
    obtain ⟨U1, hC, hUU, hUl⟩ := hI.clock
    obtain ⟨la, lc, hlv⟩ := own_form' hI.row
    subst hlv
    have hIle := hI.le
    obtain ⟨v1, hU1, hr1⟩ := hC
    have c0 := hr1.head.cell (o := 0) rfl
    have HC := hid (show RefIs wr rb U1 (A.drop k ++ B) last n1 from ⟨v1, hU1, hr1⟩)
    have HRB := hid (show rb ∈ U1 by rw [hU1]; simp)
    have HUU := hid hUU
    have HUL := hid hUl
    clear hI hUU hUl HST hU1 hr1
    go_wp2_with fail
    by_cases hk : k < A.length
    · have HC2 := HC.out
      rw [drop_cons hk] at HC2
      obtain ⟨s, hs⟩ : ∃ s, tat A k = s := ⟨_, rfl⟩
      have hsd : s.d ≤ n1 := by rw [← hs]; exact HA.out _ (tat_mem hk)
      have hsn := take_snocT hk
      rw [hs] at HC2 hsn
      have HSN := hid hsn
      have hlen : (A.drop (k + 1) ++ B).length ≤ 100000 := by
        have := hS
        simp at this ⊢
        omega
      have HPOP := hid (rpop_some (HC2.keptN ((Kept.refl [] wr).drew)) hlen n1 hsd)
      clear HC2 hsn hs hsd hlen
      go_region_held3 (fun w' => w'.cell? ⟨rb, 0, none⟩ = some (.int .u64 n1)) (first | exact c0 | (obtain ⟨q, hq1, hq2⟩ := hR2; exact hq2.head.cell (o := 0) rfl)) (first | (go_at_call 29; refine HPOP.out.mono ?_; rintro e w2 ⟨rfl, U2, hR2, hU2, hK2⟩))
      have HR2 := hid hR2
      have hK2' := ((Kept.refl [] wr).drew.nil).trans hK2
      have hU2' : ∀ y, y ∈ U2 → y ∈ U1 ∨ wr.heap.size ≤ y := hU2
      have hrow2 : w2.ownsRow w.heap.size 25 1 (.slice la k lc) k ((A.map numV).take k) := own_kept HI.out.row hK2' (fun b hb1 hb2 => HUL.out b hb2 hb1)
      have hbase := Nat.le_trans HI.out.kept.size hK2'.size
      have HROW := hid hrow2
      have HK2 := hid hK2'
      have HU2 := hid hU2'
      clear hR2 hU2 hK2 hK2' hrow2 hU2' c0
      go_wp2_with (at_builtin; go_must (refine wp_app1L rfl _ _ 35 25 rfl Tryd.underlying35 info_u64 rfl (by decide) w.heap.size _ _ _ rfl (HROW.out.alloc _) w2.heap.size 1 [.int .u64 s.x] rfl rfl (Blk.newA _ _ rfl) (by simp [Value.oneCell']) (by omega) (by decide) (by simp; omega) ?_))
      intro g cap w3 hrow3 hat3 hK3
      rw [← HSN.out] at hrow3
      have hK3' := ((Kept.refl _ w2).alloc (.cells #[.int .u64 s.x] 25)).trans hK3
      have HROW3 := hid hrow3
      have HK3 := hid hK3'
      have hnold : ∀ y, y ∈ U2 → y ∉ (Value.slice la k lc).ownBlock.toList := fun y hy hy2 => by
        rcases HU2.out y hy with h1 | h1
        · exact HUL.out y h1 hy2
        · have := HI.out.row.lt y (by simpa using hy2)
          omega
      have HG := hid (show ∀ y, y ∈ U2 → y ≠ g from fun y hy e => by
        rcases hat3 with h1 | h1
        · exact hnold y hy (by rw [e]; simpa using h1)
        · have := HR2.out.lt y hy
          omega)
      have HNO := hid hnold
      clear hrow3 hat3 hK3 hK3' hnold
      go_wp2_with fail
      go_roundw
      case rel =>
        refine ⟨k + 1, by omega, ⟨U2, HR2.out.kept HK3.out HNO.out, fun y hy => ?_, fun y hy hy2 => HG.out y hy (by simp [Value.ownBlock] at hy2; omega)⟩, HROW3.out, (HI.out.kept.trans' HK2.out ?_).trans' HK3.out (fun y hy => .inr (own_ge HROW.out y hy))⟩
        · rcases HU2.out y hy with h1 | h1
          · exact HUU.out y h1
          · exact .inr (Nat.le_trans HI.out.kept.size h1)
        · intro y hy
          exact HUU.out y hy
      case measure => simp [sliceLen]; omega
    · have hke : k = A.length := by omega
      subst hke
      have HC2 := HC.out
      rw [List.drop_length, List.nil_append] at HC2
      have HCS := hid HC2
      have hlen : B.length ≤ 100000 := by rw [List.length_append] at hS; omega
      have HPOP := hid (rpop_none (HC2.keptN ((Kept.refl [] wr).drew)) hlen n1 HB.out)
      clear HC2 hlen
      go_region_held3 (fun w' => w'.cell? ⟨rb, 0, none⟩ = some (.int .u64 n1)) (first | exact c0) (first | (go_at_call 29; refine HPOP.out.mono ?_; rintro e w2 ⟨rfl, rfl⟩))
      go_wp2_with fail
      go_ret
      have hrow := HI.out.row
      rw [List.take_of_length_le (by simp)] at hrow
      have hk : Kept [] wr wr.drew := (Kept.refl [] wr).drew
      exact ⟨_, U1, rfl, HCS.out.keptN hk, HUU.out, own_keptN hrow hk, HI.out.kept.trans hk.nil⟩

end Go.Proofs.YtcaikpfdhdbioaaDoor
