/- The text of a row of rules is read as those rules. No memory. -/
import Derived.Test.YtccdkchmeelkfaaGreatDoorS15
import Derived.Test.YtccdkchmeelkfaaGreatDoorA2
namespace Go.Proofs.YtccdkchmeelkfaaGreatDoor

def relTxt (k : Nat) : List Int := if k = 4 then [61] else List.replicate k 60
def rowTxt (i : Nat) : List Nat → List Int
  | [] => []
  | k :: r => 32 :: (relTxt k ++ (32 :: (49 + (i : Int)) :: rowTxt (i + 1) r))
theorem rowTxt_shape (i : Nat) {r : List Nat} (h : ∀ k ∈ r, 1 ≤ k ∧ k ≤ 4) : rowTxt i r = [] ∨ ∃ c t, rowTxt i r = 32 :: c :: t ∧ (c = 60 ∨ c = 61) := by
  cases r with
  | nil => exact .inl rfl
  | cons k r =>
    refine .inr ?_
    have hk := h k (by simp)
    rw [rowTxt]
    have : k = 1 ∨ k = 2 ∨ k = 3 ∨ k = 4 := by omega
    rcases this with rfl | rfl | rfl | rfl
    · exact ⟨60, _, rfl, .inl rfl⟩
    · exact ⟨60, _, rfl, .inl rfl⟩
    · exact ⟨60, _, rfl, .inl rfl⟩
    · exact ⟨61, _, rfl, .inr rfl⟩
theorem seqL_one {d : Int} (hd : specialS d = false) {t : List Int} (ht : t = [] ∨ ∃ c u, t = 32 :: c :: u ∧ (c = 60 ∨ c = 61)) : seqL (32 :: d :: t) = (some [d], t) := by
  have h92 : d ≠ 92 := by rintro rfl; exact absurd hd (by decide)
  have h32 : d ≠ 32 := by rintro rfl; exact absurd hd (by decide)
  have h10 : d ≠ 10 := by rintro rfl; exact absurd hd (by decide)
  have hb : blankL (32 :: d :: t) = d :: t := by rw [blankL, if_pos (.inl rfl), blankL, if_neg (by simp [h32, h10])]
  have h1 : seqGo [d] t = (some [d], t) := by
    rcases ht with rfl | ⟨c, u, rfl, _⟩
    · simp [seqGo]
    · rw [seqGo_cons, if_pos (by decide)]
  have h2 : seqGo [] (d :: t) = (some [d], t) := by
    rw [seqGo_cons, if_neg (by simp [hd]), if_neg (by simp), if_neg h92]
    exact h1
  unfold seqL
  rw [hb, h2]
  simp
theorem sgn_tail {t : List Int} (ht : t = [] ∨ ∃ c u, t = 32 :: c :: u ∧ (c = 60 ∨ c = 61)) : sgnL (blankL t) ≠ 47 := by
  rcases ht with rfl | ⟨c, u, rfl, hc⟩
  · simp [blankL, sgnL]
  · have : blankL (32 :: c :: u) = c :: u := by rw [blankL, if_pos (.inl rfl), blankL, if_neg (by rcases hc with rfl | rfl <;> decide)]
    rw [this]
    rcases hc with rfl | rfl <;> simp [sgnL]
theorem digit_plain {i : Nat} (hi : i < 8) : specialS (49 + (i : Int)) = false := by
  have : ∀ i : Nat, i < 8 → specialS (49 + (i : Int)) = false := by decide
  exact this i hi
theorem relL_row {k : Nat} (hk : 1 ≤ k ∧ k ≤ 4) (u : List Int) : relL (relTxt k ++ 32 :: u) = ((k : Int) + 1, 32 :: u) := by
  have : k = 1 ∨ k = 2 ∨ k = 3 ∨ k = 4 := by omega
  rcases this with rfl | rfl | rfl | rfl <;> simp [relTxt, relL, sgnL, ltL, List.replicate]
theorem ruleL_row {k i : Nat} (hk : 1 ≤ k ∧ k ≤ 4) (hi : i < 8) {t : List Int} (ht : t = [] ∨ ∃ c u, t = 32 :: c :: u ∧ (c = 60 ∨ c = 61)) :
    ruleL false (relTxt k ++ 32 :: (49 + (i : Int)) :: t) = (some ⟨(k : Int) + 1, [49 + (i : Int)], []⟩, t) := by
  unfold ruleL
  rw [relL_row hk]
  simp only []
  rw [if_neg (by simp; omega), seqL_one (digit_plain hi) ht]
  simp only []
  rw [if_pos (.inr (sgn_tail ht))]
theorem blank_row {k : Nat} (hk : 1 ≤ k ∧ k ≤ 4) (u : List Int) : blankL (32 :: (relTxt k ++ u)) = relTxt k ++ u ∧ relTxt k ++ u ≠ [] := by
  have : k = 1 ∨ k = 2 ∨ k = 3 ∨ k = 4 := by omega
  rcases this with rfl | rfl | rfl | rfl <;> simp [relTxt, blankL, List.replicate]
theorem parse_row : ∀ (r : List Nat) (i n : Nat) (out : List RuleP), (∀ k ∈ r, 1 ≤ k ∧ k ≤ 4) → i + r.length ≤ 8 → r.length < n → out ≠ [] → parseL n out (rowTxt i r) = .ok (out ++ rowsL i r)
  | [], i, n, out, _, _, hn, _ => by
    obtain ⟨n, rfl⟩ : ∃ m, n = m + 1 := ⟨n - 1, by simp at hn; omega⟩
    rw [rowTxt, parseL, if_pos (by simp [blankL]), rowsL, List.append_nil]
  | k :: r, i, n, out, hk, h8, hn, ho => by
    simp only [List.length_cons] at h8 hn
    obtain ⟨n, rfl⟩ : ∃ m, n = m + 1 := ⟨n - 1, by omega⟩
    have hk1 := hk k (by simp)
    have hk2 : ∀ k ∈ r, 1 ≤ k ∧ k ≤ 4 := fun x hx => hk x (by simp [hx])
    obtain ⟨b1, b2⟩ := blank_row hk1 (32 :: (49 + (i : Int)) :: rowTxt (i + 1) r)
    have hl : (out.length == 0) = false := by
      cases out with
      | nil => exact absurd rfl ho
      | cons a b => simp
    rw [rowTxt, parseL, b1, if_neg b2, hl, ruleL_row hk1 (by omega) (rowTxt_shape _ hk2)]
    simp only []
    rw [parse_row r (i + 1) n _ hk2 (by omega) (by omega) (by simp), rowsL]
    simp
theorem rowTxt_len (r : List Nat) : ∀ i, r.length ≤ (rowTxt i r).length := by
  induction r with
  | nil => intro i; simp
  | cons k r ih => intro i; have := ih (i + 1); rw [rowTxt]; simp; omega
theorem rowsL_len (r : List Nat) : ∀ i, (rowsL i r).length = r.length := by
  induction r with
  | nil => intro i; rfl
  | cons k r ih => intro i; rw [rowsL, List.length_cons, ih, List.length_cons]
theorem parseS_row {ks : List Nat} (hk : ∀ k ∈ ks, 1 ≤ k ∧ k ≤ 4) (h8 : ks.length ≤ 8) : parseS ([38, 32, 109] ++ rowTxt 0 ks) = .ok (⟨1, [109], []⟩ :: rowsL 0 ks) := by
  have hr : ruleL true ([38, 32, 109] ++ rowTxt 0 ks) = (some ⟨1, [109], []⟩, rowTxt 0 ks) := by
    have hs := seqL_one (d := 109) (by decide) (rowTxt_shape 0 hk)
    unfold ruleL
    have : relL ([38, 32, 109] ++ rowTxt 0 ks) = (1, 32 :: 109 :: rowTxt 0 ks) := by simp [relL, sgnL]
    rw [this]
    simp only []
    rw [if_neg (by simp), hs]
    simp
  have hp : parseL (([38, 32, 109] ++ rowTxt 0 ks).length + 1) [] ([38, 32, 109] ++ rowTxt 0 ks) = .ok (⟨1, [109], []⟩ :: rowsL 0 ks) := by
    rw [parseL]
    have hb : blankL ([38, 32, 109] ++ rowTxt 0 ks) = [38, 32, 109] ++ rowTxt 0 ks := by simp [blankL]
    have hr' : ruleL (([] : List RuleP).length == 0) ([38, 32, 109] ++ rowTxt 0 ks) = (some ⟨1, [109], []⟩, rowTxt 0 ks) := hr
    rw [hb, if_neg (by simp), hr']
    simp only []
    rw [parse_row ks 0 _ _ hk (by omega) (by have := rowTxt_len ks 0; simp; omega) (by simp)]
    rfl
  unfold parseS
  rw [hp]
  simp only []
  rw [if_neg (by simp [rowsL_len]; omega)]
theorem read_row {ks : List Nat} (hk : ∀ k ∈ ks, 1 ≤ k ∧ k ≤ 4) (h8 : ks.length ≤ 8) : ∃ T, readS ([38, 32, 109] ++ rowTxt 0 ks) = .ok T ∧ RowsOk T ks := by
  obtain ⟨T, h1, h2⟩ := rows_law ks h8 hk
  exact ⟨T, readS_ok (parseS_row hk h8) h1, h2⟩
end Go.Proofs.YtccdkchmeelkfaaGreatDoor
