/- package clock: the law ClockOnce. -/
import Derived.Test.YtcaikpfdhdbioaaClockO
import Derived.Test.YtcaikpfdhdbioaaOpen
import Derived.Deep.QuietTactic
import Derived.BigQuiet
import Derived.Deep.DeepCutAuto
import Derived.Deep.CutBlock
namespace Go.Proofs.Ytcaikpfdhdbioaa
open Go Go.RowKit

/-- Who is armed when so many were. -/
def onS (D : Nat → Nat) : Nat → List Th
  | 0 => []
  | n + 1 => insT ⟨D n, n + 1, n + 1⟩ (onS D n)
theorem onS_mem {D : Nat → Nat} : ∀ {n : Nat} {t : Th}, t ∈ onS D n → ∃ j, j < n ∧ t = ⟨D j, j + 1, j + 1⟩
  | 0, t, h => by cases h
  | n + 1, t, h => by
    rcases List.mem_cons.1 ((insT_perm _ _).mem_iff.1 h) with rfl | h
    · exact ⟨n, by omega, rfl⟩
    · obtain ⟨j, hj, rfl⟩ := onS_mem h
      exact ⟨j, by omega, rfl⟩
theorem onS_len (D : Nat → Nat) : ∀ n, (onS D n).length = n
  | 0 => rfl
  | n + 1 => by rw [onS, (insT_perm _ _).length_eq, List.length_cons, onS_len D n]
/-- Those whose time has not come ahead of the tick t. -/
def due (S : List Th) (t : Nat) : List Th := S.filter fun s => decide (t ≤ max s.d 1)
def dueA (S : List Th) (t : Nat) : List Th := (due S t).filter fun s => decide (s.d ≤ t)
theorem split_sorted (t : Nat) : ∀ {S : List Th}, S.Pairwise Ah → S = (S.filter fun s => decide (s.d ≤ t)) ++ S.filter fun s => decide (t < s.d)
  | [], _ => rfl
  | s :: S, h => by
    rw [List.pairwise_cons] at h
    by_cases e : s.d ≤ t
    · rw [List.filter_cons_of_pos (by simpa using e), List.filter_cons_of_neg (by simpa using e), List.cons_append, ← split_sorted t h.2]
    · have hall : ∀ u, u ∈ S → t < u.d := fun u hu => by
        have := h.1 u hu
        unfold Ah at this
        omega
      have e2 : (S.filter fun s => decide (s.d ≤ t)) = [] := by
        rw [List.filter_eq_nil_iff]
        intro u hu
        have := hall u hu
        simp
        omega
      have e3 : (S.filter fun s => decide (t < s.d)) = S := by
        rw [List.filter_eq_self]
        intro u hu
        simpa using hall u hu
      rw [List.filter_cons_of_neg (by simpa using e), List.filter_cons_of_pos (by simp; omega), e2, e3]
      rfl
theorem due_split {S : List Th} {t : Nat} (h : S.Pairwise Ah) (ht : 1 ≤ t) : due S t = dueA S t ++ due S (t + 1) := by
  have h1 := split_sorted t (S := due S t) (List.Pairwise.filter _ h)
  have h2 : ((due S t).filter fun s => decide (t < s.d)) = due S (t + 1) := by
    unfold due
    rw [List.filter_filter]
    apply List.filter_congr
    intro s _
    rw [← Bool.decide_and]
    apply decide_eq_decide.2
    omega
  rw [h2] at h1
  exact h1
theorem due_one (S : List Th) : due S 1 = S := by
  unfold due
  rw [List.filter_eq_self]
  intro s _
  simp
  omega
theorem due_end {S : List Th} (h : ∀ s, s ∈ S → s.d < 50) {t : Nat} (ht : 52 ≤ t) : due S t = [] := by
  unfold due
  rw [List.filter_eq_nil_iff]
  intro s hs
  have := h s hs
  simp
  omega
theorem dueA_mem {S : List Th} {t : Nat} {s : Th} (h : s ∈ dueA S t) (ht : 1 ≤ t) : s ∈ S ∧ max s.d 1 = t ∧ s.d ≤ t := by
  obtain ⟨h1, h2⟩ := List.mem_filter.1 h
  obtain ⟨h3, h4⟩ := List.mem_filter.1 h1
  simp at h2 h4
  exact ⟨h3, by omega, h2⟩
theorem due_mem {S : List Th} {t : Nat} {s : Th} (h : s ∈ due S t) : s ∈ S ∧ t ≤ max s.d 1 := by
  obtain ⟨h3, h4⟩ := List.mem_filter.1 h
  simp at h4
  exact ⟨h3, by omega⟩
theorem ClockIs.sorted {w : World} {cb : Nat} {T : List Nat} {S : List Th} {last now : Nat} (h : ClockIs w cb T S last now) : S.Pairwise Ah := by
  obtain ⟨hb, mb, bb, base, v, rfl, h⟩ := h
  exact h.heap.sorted
theorem sorted_le {S : List Th} (h : S.Pairwise Ah) {i : Nat} {s u : Th} (hs : S[i]? = some s) (hu : S[i + 1]? = some u) : s.d ≤ u.d := by
  have h1 := List.getElem?_eq_some_iff.1 hs
  have h2 := List.getElem?_eq_some_iff.1 hu
  obtain ⟨h1, h1'⟩ := h1
  obtain ⟨h2, h2'⟩ := h2
  have := List.pairwise_iff_getElem.1 h i (i + 1) h1 h2 (by omega)
  rw [h1', h2'] at this
  unfold Ah at this
  omega

set_option maxRecDepth 100000 in
set_option maxHeartbeats 4000000 in
theorem once_law (aA : Option Addr) (len cA : Nat) (gA : Nat → Nat → Int) (w : World) (hA : IntRows w aA len [.u64] gA) :
    Calls Try.prog 4 #[.slice aA len cA] w fun e w' => e = .returned (.bool true) ∧ Kept [] w w' := by
  have hlen : len ≤ 9223372036854775807 := by have := hA.small; unfold maxLen at this; omega
  obtain ⟨n, hn⟩ : ∃ n, min len 40 = n := ⟨_, rfl⟩
  have hn40 : n ≤ 40 := by omega
  have hnl : n ≤ len := by omega
  obtain ⟨G, hG⟩ : ∃ G : Nat → Nat, ∀ i, i < len → gA i 0 = (G i : Int) ∧ G i < 18446744073709551616 := by
    refine ⟨fun i => (gA i 0).toNat, fun i hi => ?_⟩
    obtain ⟨b0, b1⟩ := bounds_u64 (hA.wf i 0 .u64 hi rfl)
    refine ⟨by simp; omega, ?_⟩
    show (gA i 0).toNat < _
    omega
  have HCELL := hid (fun i (hi : i < len) => (show ∃ b o, aA = some ⟨b, o, none⟩ ∧ b < w.heap.size ∧ w.cell? ⟨b, o + i, none⟩ = some (.int .u64 (G i)) by
    obtain ⟨b, o, e, hb, hc⟩ := hA.cell i hi
    have := hc 0 .u64 rfl
    simp only [List.length_cons, List.length_nil, Nat.zero_add, Nat.add_zero, Nat.mul_one] at this
    rw [(hG i hi).1] at this
    exact ⟨b, o, e, hb, this⟩))
  have HG := hid (fun i (hi : i < len) => (hG i hi).2)
  obtain ⟨D, hD⟩ : ∃ D : Nat → Nat, D = fun i => G i % 50 := ⟨_, rfl⟩
  have HD := hid (fun i => (show D i = G i % 50 by rw [hD]))
  clear hA hG hD
  go_enter Try.func4, Try.ntmps4
  go_wp2_with fail
  refine (newclock_ok w).mono ?_
  rintro e w1 ⟨cb, T1, rfl, hT1, hC1, hK1⟩
  have HC1 := hid hC1
  have HT1 := hid hT1
  have HK1 := hid hK1
  clear hC1 hK1 hT1
  go_upto_region 4 with fail
  go_cut [3, 4] (fun s3 s4 wx => s3 = .pointer (some ⟨cb, 0, none⟩) ∧ s4 = .int .i64 n ∧ wx = w1)
  case first =>
    by_cases h40 : 40 < len
    · have e : n = 40 := by omega
      have E := hid e
      have h1 : (40 : Int) < (len : Int) := by omega
      clear e h40
      go_wp2_with fail
      go_meet
      exact ⟨rfl, by rw [E.out]; rfl, rfl⟩
    · have e : n = len := by omega
      have E := hid e
      have h1 : ¬ (40 : Int) < (len : Int) := by omega
      clear e h40
      go_wp2_with fail
      go_meet
      exact ⟨rfl, by rw [E.out], rfl⟩
  case rest =>
    obtain ⟨rfl, rfl, rfl⟩ := hcut
    clear hn
    go_wp2_with fail
    go_loopw [5] (fun s5 wr => ∃ (i : Nat) (T : List Nat), i ≤ n ∧ s5 = .int .i64 i ∧ ClockIs wr cb T (onS D i) i 0 ∧ (∀ x, x ∈ T → w.heap.size ≤ x) ∧ Kept [] w wr) (fun s5 _ => n - (intOf s5).toNat)
    case atStart => exact ⟨0, T1, Nat.zero_le _, rfl, HC1.out, HT1.out, HK1.out⟩
    case round =>
      obtain ⟨i, T, hi, rfl, hC, hT, hK⟩ := hrel
      have HC := hid hC
      have HT := hid hT
      have HK := hid hK
      clear hC hT hK
      by_cases hlt : i < n
      · obtain ⟨b, o, rfl, hb, hcell⟩ := HCELL.out i (by omega)
        have hcell := HK.out.cellSome hcell (by simp)
        obtain ⟨y, hy⟩ : ∃ y, G i = y := ⟨_, rfl⟩
        rw [hy] at hcell
        have hmod : (y : Int) % 50 = ((y % 50 : Nat) : Int) := by omega
        have HA1 := hid (arm_ok' HC.out (by rw [onS_len]; omega) (by omega) (i + 1) (D i) (by omega) (by omega) (by rw [HD.out]; omega) (fun t ht => by
          obtain ⟨j, hj, rfl⟩ := onS_mem ht; simp; omega) ((i : Int) + 1) ((y : Int) % 50) (by omega) (by rw [HD.out, hy]; omega))
        clear hmod hy
        go_wp2_with fail
        refine HA1.out.mono ?_
        rintro e w2 ⟨rfl, T2, hC2, hT2, hK2⟩
        have HC2 := hid hC2
        have HT2 := hid (fresh_trans HT.out HK.out hT2)
        have HK2 := hid (HK.out.trans' hK2 (fun x hx => .inr (HT.out x hx)))
        clear hC2 hT2 hK2 HA1
        go_wp2_with fail
        go_roundw
        case rel => exact ⟨i + 1, T2, by omega, by go_num, HC2.out, HT2.out, HK2.out⟩
        case measure => simp [intOf]; omega
      · obtain rfl : i = n := by omega
        obtain ⟨S, hS⟩ : ∃ S, onS D i = S := ⟨_, rfl⟩
        have HMEM := hid (fun t (ht : t ∈ S) => (show ∃ j, j < i ∧ t = ⟨D j, j + 1, j + 1⟩ by rw [← hS] at ht; exact onS_mem ht))
        have HSL := hid (show S.length = i by rw [← hS]; exact onS_len D i)
        have HSO := hid (show S.Pairwise Ah by rw [← hS]; exact HC.out.sorted)
        have HCS := hid HC.out
        rw [hS] at HCS
        clear hS HC HC1 HT1 HK1
        go_wp2_with fail
        go_loopw [6, 7] (fun s6 s7 wr => ∃ (told t1 u : Nat) (T : List Nat), t1 = u + 1 ∧ u ≤ 51 ∧ s6 = .int .i64 told ∧ s7 = .int .u64 t1 ∧ ClockIs wr cb T (due S t1) i u ∧ told + (due S t1).length = i ∧ (∀ x, x ∈ T → w.heap.size ≤ x) ∧ Kept [] w wr) (fun _ s7 _ => 53 - (intOf s7).toNat)
        case atStart => exact ⟨0, 1, 0, T, rfl, by omega, rfl, rfl, by rw [due_one]; exact HCS.out, by rw [due_one, HSL.out]; omega, HT.out, HK.out⟩
        case round =>
          obtain ⟨told, t1, u, T, ht1, hu, rfl, rfl, hC, htold, hT, hK⟩ := hrel
          have htl : told ≤ i := by omega
          have HTOLD := hid htold
          have HC := hid hC
          have HT := hid hT
          have HK := hid hK
          have HT1' := hid ht1
          clear hC hT hK htold ht1
          by_cases hlt : t1 < 52
          · have htp : 1 ≤ t1 := by have := HT1'.out; omega
            have hsp := due_split (t := t1) HSO.out htp
            have HC' := hid HC.out
            rw [hsp] at HC'
            have hdl : (dueA S t1 ++ due S (t1 + 1)).length ≤ 100000 := by
              rw [← hsp]
              have := HTOLD.out
              omega
            have HTI := hid (tick_ok HC'.out hdl (by omega) (by omega) (fun s hs => by have := (dueA_mem hs htp).2.2; have := HT1'.out; omega) (fun s hs => by have := (due_mem hs).2; have := HT1'.out; omega))
            obtain ⟨A, hA⟩ : ∃ A, dueA S t1 = A := ⟨_, rfl⟩
            have HAM := hid (fun s (hs : s ∈ A) => dueA_mem (S := S) (t := t1) (by rw [hA]; exact hs) htp)
            have HAS := hid (show A.Pairwise Ah by rw [← hA]; exact List.Pairwise.filter _ (List.Pairwise.filter _ HSO.out))
            have HLN := hid (show told + A.length + (due S (t1 + 1)).length = i by
              have := HTOLD.out
              rw [hsp, List.length_append, hA] at this
              omega)
            rw [hA, ← HT1'.out] at HTI
            clear hsp hdl hA
            go_wp2_with fail
            refine HTI.out.mono ?_
            rintro e w2 ⟨v2, T2, rfl, hC2, hT2, hR2, hK2⟩
            obtain ⟨a2, c2, rfl⟩ := own_form' hR2
            have HC2 := hid hC2
            have HT2 := hid (fun x (hx : x ∈ T2) => HT.out x (hT2 x hx))
            have HK2 := hid (HK.out.trans' hK2 (fun x hx => .inr (HT.out x hx)))
            have HR2 := hid hR2
            have hal : A.length ≤ 40 := by have := HLN.out; omega
            clear hC2 hT2 hK2 hR2 HTI
            go_wp2_with fail
            go_loopw [9] (fun s9 wr => ∃ (q : Nat), q ≤ A.length ∧ s9 = .int .i64 q ∧ Kept [] w2 wr) (fun s9 _ => A.length - (intOf s9).toNat)
            case atStart => exact ⟨0, Nat.zero_le _, rfl, Kept.refl _ _⟩
            case round =>
              obtain ⟨q, hq, rfl, hKq⟩ := hrel
              have HKq := hid hKq
              clear hKq
              by_cases hql : q < A.length
              · obtain ⟨s, hs⟩ : ∃ s, A[q]? = some s := ⟨_, List.getElem?_eq_getElem hql⟩
                obtain ⟨hsS, hmax, hsd⟩ := HAM.out s (List.mem_of_getElem? hs)
                obtain ⟨j, hj, hse⟩ := HMEM.out s hsS
                obtain ⟨b, o, rfl, hb, hcell⟩ := HCELL.out j (by omega)
                have hcell := (HK2.out.trans HKq.out).cellSome hcell (by simp)
                obtain ⟨g, rfl, -⟩ : ∃ g, a2 = some ⟨g, 0, none⟩ ∧ True := by
                  obtain ⟨m, hm⟩ : ∃ m, A.length = m + 1 := ⟨A.length - 1, by omega⟩
                  have := HR2.out
                  rw [hm] at this
                  obtain ⟨g, cap, e, -⟩ := own_form this
                  cases e
                  exact ⟨g, rfl, trivial⟩
                have hx := own_cell HR2.out (i := q) (u := .int .u64 s.x) (by rw [List.getElem?_map, hs]; rfl)
                have hx := HKq.out.cellSome hx (by simp)
                obtain ⟨x, hxe⟩ : ∃ x, s.x = x := ⟨_, rfl⟩
                rw [hxe] at hx
                have hxj : x = j + 1 := by rw [← hxe, hse]
                have hx1 : (x : Int) - 1 = (j : Int) := by omega
                have hx2 : IntKind.u64.wrap (j : Int) = (j : Int) := by rw [IntKind.wrap_u64]; omega
                have hx3 : ¬ (x : Int) < 1 := by omega
                have hx4 : ¬ (i : Int) < (x : Int) := by omega
                obtain ⟨y, hy⟩ : ∃ y, G j = y := ⟨_, rfl⟩
                rw [hy] at hcell
                have hyd : y % 50 = s.d := by rw [hse]; show y % 50 = D j; rw [HD.out, hy]
                have HS := hid hs
                have hj0 : (0 : Int) ≤ (j : Int) := by omega
                have hj1 : (j : Int) < (len : Int) := by omega
                have hq0 : (0 : Int) ≤ (q : Int) := by omega
                have hq1 : (q : Int) < (A.length : Int) := by omega
                have HSE := hid hse
                have HSD := hid hsd
                clear hs hxe hse hsS hy hsd
                have hd1 : decide ((x : Int) < 1) = false := decide_eq_false hx3
                have hd2 : decide (i < x) = false := decide_eq_false (by omega)
                have hd4 : (if (y : Int) % 50 < 1 then 1 else (y : Int) % 50) = (t1 : Int) := by split <;> omega
                by_cases hqz : q = 0
                · have hd3 : decide (0 < q) = false := by simp; omega
                  clear hqz hxj hmax hyd
                  go_wp2_with fail
                  go_quiet (fail)
                  rename_i nq
                  go_wp2_with fail
                  go_roundw
                  case rel => exact ⟨q + 1, by omega, by go_num, HKq.out.drewN nq⟩
                  case measure => simp [intOf]; omega
                · have hd3 : decide (0 < q) = true := by simp; omega
                  obtain ⟨p, hp⟩ : ∃ p, q = p + 1 := ⟨q - 1, by omega⟩
                  obtain ⟨s', hs'⟩ : ∃ s, A[p]? = some s := ⟨_, List.getElem?_eq_getElem (by omega)⟩
                  obtain ⟨hsS', -, -⟩ := HAM.out s' (List.mem_of_getElem? hs')
                  obtain ⟨j', hj', hse'⟩ := HMEM.out s' hsS'
                  have hle : s'.d ≤ s.d := sorted_le HAS.out hs' (by rw [← hp]; exact HS.out)
                  obtain ⟨b', o', ebo, hb', hcell'⟩ := HCELL.out j' (by omega)
                  cases ebo
                  have hcell' := (HK2.out.trans HKq.out).cellSome hcell' (by simp)
                  have hx' := own_cell HR2.out (i := p) (u := .int .u64 s'.x) (by rw [List.getElem?_map, hs']; rfl)
                  have hx' := HKq.out.cellSome hx' (by simp)
                  obtain ⟨x', hxe'⟩ : ∃ x, s'.x = x := ⟨_, rfl⟩
                  rw [hxe'] at hx'
                  have hxj' : x' = j' + 1 := by rw [← hxe', hse']
                  have hx1' : (x' : Int) - 1 = (j' : Int) := by omega
                  have hx2' : IntKind.u64.wrap (j' : Int) = (j' : Int) := by rw [IntKind.wrap_u64]; omega
                  obtain ⟨y', hy'⟩ : ∃ y, G j' = y := ⟨_, rfl⟩
                  rw [hy'] at hcell'
                  have hyd' : y' % 50 = s'.d := by rw [hse']; show y' % 50 = D j'; rw [HD.out, hy']
                  have hd5 : decide ((y : Int) % 50 < (y' : Int) % 50) = false := decide_eq_false (by omega)
                  have hp1 : (q : Int) - 1 = (p : Int) := by omega
                  have hp2 : IntKind.i64.wrap (p : Int) = (p : Int) := IntWalk.i64_in _ ⟨by omega, by omega⟩
                  have hj0' : (0 : Int) ≤ (j' : Int) := by omega
                  have hj1' : (j' : Int) < (len : Int) := by omega
                  have hp0 : (0 : Int) ≤ (p : Int) := by omega
                  have hp3 : (p : Int) < (A.length : Int) := by omega
                  clear hqz hxj hmax hyd hxj' hyd' hle hse' hsS' hs' hp hxe' hy'
                  go_wp2_with fail
                  go_quiet (fail)
                  rename_i nq
                  clear hp1 hp2 hx1' hx2'
                  go_wp2_with fail
                  go_roundw
                  case rel => exact ⟨q + 1, by omega, by go_num, HKq.out.drewN nq⟩
                  case measure => simp [intOf]; omega
              · obtain rfl : q = A.length := by omega
                have htb : told + A.length ≤ 40 := by have := HLN.out; omega
                go_wp2_with fail
                go_roundw
                case rel => exact ⟨told + A.length, t1 + 1, t1, T2, rfl, by omega, by go_num, by go_num, HC2.out.keptN HKq.out, by have := HLN.out; omega, HT2.out, HK2.out.trans HKq.out⟩
                case measure => simp [intOf]; omega
          · obtain rfl : t1 = 52 := by have := HT1'.out; omega
            obtain rfl : u = 51 := by have := HT1'.out; omega
            have hdue : due S 52 = [] := due_end (fun s hs => by
              obtain ⟨j, hj, rfl⟩ := HMEM.out s hs
              show D j < 50
              rw [HD.out]
              omega) (by omega)
            have HCE := hid HC.out
            rw [hdue] at HCE
            have htd : told = i := by have := HTOLD.out; rw [hdue] at this; simpa using this
            subst htd
            clear hdue
            go_wp2_with fail
            refine (armed_ok HCE.out).mono ?_
            rintro e w2 ⟨rfl, rfl⟩
            go_wp2_with fail
            refine (now_ok HCE.out).mono ?_
            rintro e w2 ⟨rfl, rfl⟩
            go_wp2_with fail
            refine (awake_ok _).mono ?_
            rintro e w5 ⟨rfl, hK5⟩
            have HK5 := hid hK5
            clear hK5
            go_wp2_with fail
            go_ret
            exact ⟨rfl, HK.out.trans HK5.out⟩

end Go.Proofs.Ytcaikpfdhdbioaa
