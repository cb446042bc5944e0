/- A row's text as bytes; levels of a row. No memory. -/
import Derived.Test.YtccdkchmeelkfaaGreatDoorS17
import Derived.Test.YtccdkchmeelkfaaGreatDoorB1
namespace Go.Proofs.YtccdkchmeelkfaaGreatDoor

/-- A level of a row, out of any number. -/
def lvR (x : Int) : Nat := ((bits .and .i64 x 65535).tmod 4).toNat + 1
theorem lvR_eq (x : Int) : ∃ K : Nat, K < 4 ∧ (bits .and .i64 x 65535).tmod 4 = (K : Int) ∧ lvR x = K + 1 := by
  obtain ⟨m, _, h⟩ := and16 x
  refine ⟨m % 4, Nat.mod_lt _ (by decide), ?_, ?_⟩
  · rw [h]; rfl
  · unfold lvR; rw [h]; rfl
theorem lvR_bd (x : Int) : 1 ≤ lvR x ∧ lvR x ≤ 4 := by
  obtain ⟨K, h1, _, h2⟩ := lvR_eq x
  omega
theorem rowTxt_snoc (r : List Nat) (k : Nat) : ∀ i, rowTxt i (r ++ [k]) = rowTxt i r ++ (32 :: (relTxt k ++ [32, 49 + ((i + r.length : Nat) : Int)])) := by
  induction r with
  | nil => intro i; simp [rowTxt]
  | cons a r ih =>
    intro i
    rw [List.cons_append, rowTxt, ih (i + 1), rowTxt]
    rw [show i + 1 + r.length = i + (a :: r).length by simp; omega]
    simp
theorem rowTxt_bd {r : List Nat} (h8 : r.length ≤ 8) : ∀ i, i + r.length ≤ 8 → ∀ c ∈ rowTxt i r, c < 128 := by
  induction r with
  | nil => intro i _ c hc; simp [rowTxt] at hc
  | cons a r ih =>
    intro i hi c hc
    simp only [List.length_cons] at hi h8
    rw [rowTxt] at hc
    simp only [List.mem_cons, List.mem_append] at hc
    rcases hc with rfl | hc | rfl | rfl | hc
    · decide
    · unfold relTxt at hc
      split at hc
      · simp at hc; omega
      · have := List.eq_of_mem_replicate hc; omega
    · decide
    · omega
    · exact ih (by omega) (i + 1) (by omega) c hc
theorem rowTxt_len_le {r : List Nat} (hk : ∀ k ∈ r, k ≤ 4) : ∀ i, (rowTxt i r).length ≤ 7 * r.length := by
  induction r with
  | nil => intro i; simp [rowTxt]
  | cons a r ih =>
    intro i
    have h1 := ih (fun k hk' => hk k (by simp [hk'])) (i + 1)
    have h2 := hk a (by simp)
    rw [rowTxt]
    simp only [List.length_cons, List.length_append]
    have h3 : (relTxt a).length ≤ 4 := by unfold relTxt; split <;> simp; omega
    omega
theorem signs_of_map {l : List UInt8} {S : List Int} (h : l.map (fun x => (x.toNat : Int)) = S) (hb : ∀ c ∈ S, c < 128) : signsT l = S := by
  rw [← h, signsT_ascii]
  intro x hx
  have := hb (x.toNat : Int) (by rw [← h]; exact List.mem_map.2 ⟨x, hx, rfl⟩)
  omega
/-- The levels of a row, out of any numbers. -/
def lvsR (l : List Int) : List Nat := (l.take 8).map lvR
theorem lvsR_len (l : List Int) : (lvsR l).length = min l.length 8 := by simp [lvsR]; omega
theorem lvsR_bd (l : List Int) : ∀ k ∈ lvsR l, 1 ≤ k ∧ k ≤ 4 := by
  intro k hk
  obtain ⟨x, _, rfl⟩ := List.mem_map.1 hk
  exact lvR_bd x
theorem lvsR_at {l : List Int} {q : Nat} (hq : q < min l.length 8) {x : Int} (h : l[q]? = some x) : (lvsR l)[q]? = some (lvR x) := by
  unfold lvsR
  rw [List.getElem?_map, List.getElem?_take_of_lt (by omega), h]; rfl
/-- A row's text when one sign more is written. -/
theorem row_more {l : List Int} {q : Nat} (hq : q < min l.length 8) {x : Int} (h : l[q]? = some x) : [38, 32, 109] ++ rowTxt 0 ((lvsR l).take (q + 1)) = [38, 32, 109] ++ rowTxt 0 ((lvsR l).take q) ++ (32 :: (relTxt (lvR x) ++ [32, 49 + (q : Int)])) := by
  have hl := lvsR_len l
  rw [List.take_add_one, lvsR_at hq h]
  simp only [Option.toList_some]
  rw [rowTxt_snoc, List.append_assoc]
  have : 0 + ((lvsR l).take q).length = q := by rw [List.length_take]; omega
  rw [this]
end Go.Proofs.YtccdkchmeelkfaaGreatDoor
