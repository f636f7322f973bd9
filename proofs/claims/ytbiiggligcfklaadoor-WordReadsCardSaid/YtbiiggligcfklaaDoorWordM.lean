/- Numbers and their texts, as plain arithmetic. No program in sight. -/
import Derived.Test.YtbiiggligcfklaaDoorLib
namespace Go.Proofs.YtbiiggligcfklaaDoor

/-- What a byte is worth; 99: it is no digit. -/
def digW (c : Nat) : Nat := if 48 ≤ c ∧ c ≤ 57 then c - 48 else if 97 ≤ c ∧ c ≤ 102 then c - 87 else if 65 ≤ c ∧ c ≤ 70 then c - 55 else 99
theorem digW_le (c : Nat) : digW c ≤ 99 := by unfold digW; split; omega; split; omega; split <;> omega
def MaxW : Nat := 18446744073709551615
def okStep (base most k v d : Nat) : Prop := d < base ∧ k < most ∧ v ≤ (MaxW - d) / base
instance (base most k v d : Nat) : Decidable (okStep base most k v d) := by unfold okStep; infer_instance

/-- Digits behind the k-th, v read so far: the number, or the place where it fails. -/
def parseFrom (base most : Nat) : Nat → Nat → List Nat → Except Nat Nat
  | _, v, [] => .ok v
  | k, v, c :: l => if okStep base most k v (digW c) then parseFrom base most (k + 1) (v * base + digW c) l else .error k

theorem okStep_iff {base most k v d : Nat} (hb : 0 < base) (hd : d ≤ MaxW) : okStep base most k v d ↔ d < base ∧ k < most ∧ v * base + d ≤ MaxW := by
  unfold okStep
  rw [Nat.le_div_iff_mul_le hb]
  constructor
  · rintro ⟨h1, h2, h3⟩; exact ⟨h1, h2, by omega⟩
  · rintro ⟨h1, h2, h3⟩; exact ⟨h1, h2, by omega⟩

/-- The value of digits. -/
def foldW (base : Nat) (v : Nat) (l : List Nat) : Nat := l.foldl (fun a c => a * base + digW c) v
theorem foldW_nil (base v : Nat) : foldW base v [] = v := rfl
theorem foldW_cons (base v c : Nat) (l : List Nat) : foldW base v (c :: l) = foldW base (v * base + digW c) l := rfl
theorem foldW_snoc (base v c : Nat) (l : List Nat) : foldW base v (l ++ [c]) = foldW base v l * base + digW c := by simp [foldW]
theorem foldW_append (base v : Nat) (l m : List Nat) : foldW base v (l ++ m) = foldW base (foldW base v l) m := by simp [foldW]
theorem foldW_ge {base : Nat} (hb : 0 < base) : ∀ (l : List Nat) (v : Nat), v ≤ foldW base v l
  | [], v => Nat.le_refl _
  | c :: l, v => by
    rw [foldW_cons]
    refine Nat.le_trans ?_ (foldW_ge hb l _)
    have : v * 1 ≤ v * base := Nat.mul_le_mul_left v hb
    omega

theorem parseFrom_ok {base most : Nat} (hb : 0 < base) : ∀ (l : List Nat) (k v : Nat), (∀ c, c ∈ l → digW c < base) → k + l.length ≤ most → foldW base v l ≤ MaxW → parseFrom base most k v l = .ok (foldW base v l)
  | [], _, _, _, _, _ => rfl
  | c :: l, k, v, hd, hk, hm => by
    have h1 := hd c (by simp)
    rw [foldW_cons] at hm
    have h2 := foldW_ge hb l (v * base + digW c)
    have h3 := digW_le c
    simp only [List.length_cons] at hk
    rw [parseFrom, if_pos ((okStep_iff hb (by unfold MaxW; omega)).2 ⟨h1, by omega, by omega⟩), foldW_cons]
    exact parseFrom_ok hb l _ _ (fun x hx => hd x (by simp [hx])) (by omega) hm
theorem parseFrom_err {base most : Nat} : ∀ (l : List Nat) (k v : Nat), most < k + l.length → k ≤ most → ∃ p, parseFrom base most k v l = .error p
  | [], k, v, h, h' => by simp at h; omega
  | c :: l, k, v, h, h' => by
    rw [parseFrom]
    split
    · rename_i hs
      simp only [List.length_cons] at h
      exact parseFrom_err l _ _ (by omega) (by have := hs.2.1; omega)
    · exact ⟨k, rfl⟩
theorem parseFrom_long {base most : Nat} (hb : 0 < base) : ∀ (l : List Nat) (k v : Nat), (∀ c, c ∈ l → digW c < base) → k ≤ most → most < k + l.length → foldW base v (l.take (most - k)) ≤ MaxW → parseFrom base most k v l = .error most
  | [], k, v, _, h, h', _ => by simp at h'; omega
  | c :: l, k, v, hd, h, h', hm => by
    have h1 := hd c (by simp)
    have h3 := digW_le c
    simp only [List.length_cons] at h'
    by_cases e : k = most
    · subst e
      rw [parseFrom, if_neg]
      intro h
      exact Nat.lt_irrefl _ h.2.1
    · have e2 : most - k = (most - (k + 1)) + 1 := by omega
      rw [e2, List.take_succ_cons, foldW_cons] at hm
      have h2 := foldW_ge hb (l.take (most - (k + 1))) (v * base + digW c)
      rw [parseFrom, if_pos ((okStep_iff hb (by unfold MaxW; omega)).2 ⟨h1, by omega, by omega⟩)]
      exact parseFrom_long hb l _ _ (fun x hx => hd x (by simp [hx])) (by omega) (by omega) hm

/-- Does a text begin with 0x? -/
def isHex (s : List Nat) : Bool := s[0]? == some 48 && s[1]? == some 120
def shiftW (k : Nat) : Except Nat Nat → Except Nat Nat
  | .ok v => .ok v
  | .error p => .error (k + p)
/-- A text as a number, or the place where it fails. -/
def parseW (s : List Nat) : Except Nat Nat :=
  if isHex s then (if s.length = 2 then .error 2 else shiftW 2 (parseFrom 16 16 0 0 (s.drop 2)))
  else (if s.length = 0 then .error 0 else parseFrom 10 20 0 0 s)

/-- A number's decimal digits. -/
def dec (v : Nat) : List Nat := if h : v < 10 then [48 + v] else dec (v / 10) ++ [48 + v % 10]
termination_by v
decreasing_by omega
theorem dec_small {v : Nat} (h : v < 10) : dec v = [48 + v] := by rw [dec]; simp [h]
theorem dec_large {v : Nat} (h : ¬ v < 10) : dec v = dec (v / 10) ++ [48 + v % 10] := by rw [dec]; simp [h]
theorem digW_dec {d : Nat} (h : d < 10) : digW (48 + d) = d := by unfold digW; rw [if_pos (by omega)]; omega
theorem dec_digit : ∀ (v : Nat) (c : Nat), c ∈ dec v → 48 ≤ c ∧ c ≤ 57 := by
  intro v
  induction v using Nat.strongRecOn with
  | ind v ih =>
    intro c hc
    by_cases h : v < 10
    · rw [dec_small h] at hc
      simp at hc
      omega
    · rw [dec_large h] at hc
      rcases List.mem_append.1 hc with h1 | h1
      · exact ih _ (by omega) c h1
      · simp at h1
        omega
theorem dec_fold : ∀ (v : Nat), foldW 10 0 (dec v) = v := by
  intro v
  induction v using Nat.strongRecOn with
  | ind v ih =>
    by_cases h : v < 10
    · rw [dec_small h, foldW_cons, foldW_nil, digW_dec h]; omega
    · rw [dec_large h, foldW_snoc, ih _ (by omega), digW_dec (by omega)]
      omega
theorem dec_length : ∀ (n v : Nat), v < 10 ^ (n + 1) → (dec v).length ≤ n + 1
  | 0, v, h => by
    rw [dec_small (by simpa using h)]
    simp
  | n + 1, v, h => by
    by_cases h' : v < 10
    · rw [dec_small h']; simp
    · rw [dec_large h', List.length_append]
      have := dec_length n (v / 10) (by
        rw [Nat.pow_succ] at h
        exact Nat.div_lt_of_lt_mul (by rw [Nat.mul_comm]; exact h))
      simp
      omega
theorem dec_20 {v : Nat} (h : v < 18446744073709551616) : (dec v).length ≤ 20 := dec_length 19 v (by simp; omega)
theorem dec_pos (v : Nat) : 1 ≤ (dec v).length := by
  by_cases h : v < 10
  · rw [dec_small h]; simp
  · rw [dec_large h]; simp
theorem dec_head : ∀ (v : Nat), v ≠ 0 → (dec v)[0]? ≠ some 48 := by
  intro v
  induction v using Nat.strongRecOn with
  | ind v ih =>
    intro h0
    by_cases h : v < 10
    · rw [dec_small h]; simp; omega
    · rw [dec_large h, List.getElem?_append_left (by have := dec_pos (v / 10); omega)]
      exact ih _ (by omega) (by omega)

/-- n digits in sixteen, the last ones of v. -/
def hexW (f : Nat → Nat) : Nat → Nat → List Nat
  | 0, _ => []
  | n + 1, v => f (v / 16 ^ n % 16) :: hexW f n v
theorem hexW_length (f : Nat → Nat) : ∀ (n v : Nat), (hexW f n v).length = n
  | 0, _ => rfl
  | n + 1, v => by simp [hexW, hexW_length f n v]
theorem hexW_digit {f : Nat → Nat} (hf : ∀ d, d < 16 → digW (f d) = d) : ∀ (n v : Nat) (c : Nat), c ∈ hexW f n v → digW c < 16
  | 0, _, c, h => by simp [hexW] at h
  | n + 1, v, c, h => by
    rcases List.mem_cons.1 h with rfl | h
    · rw [hf _ (Nat.mod_lt _ (by omega))]; exact Nat.mod_lt _ (by omega)
    · exact hexW_digit hf n v c h
theorem hexW_fold {f : Nat → Nat} (hf : ∀ d, d < 16 → digW (f d) = d) : ∀ (n v a : Nat), foldW 16 a (hexW f n v) = a * 16 ^ n + v % 16 ^ n
  | 0, v, a => by simp [hexW, foldW_nil, Nat.mod_one]
  | n + 1, v, a => by
    rw [hexW, foldW_cons, hf _ (Nat.mod_lt _ (by omega)), hexW_fold hf n v, Nat.mod_pow_succ, Nat.pow_succ, Nat.add_mul, Nat.mul_assoc, Nat.mul_comm 16 (16 ^ n), Nat.mul_comm (v / 16 ^ n % 16)]
    omega
theorem hexW_take (f : Nat → Nat) : ∀ (n v : Nat), (hexW f (n + 1) v).take n = hexW (fun d => f d) n (v / 16)
  | 0, v => by simp [hexW]
  | n + 1, v => by
    rw [hexW, List.take_succ_cons, hexW_take f n v, hexW]
    congr 3
    rw [Nat.div_div_eq_div_mul, Nat.pow_succ, Nat.mul_comm 16]

end Go.Proofs.YtbiiggligcfklaaDoor
