/- Raised weights keep their order; lists of weights compared. No memory. -/
import Derived.Test.YtccdkchmeelkfaaGreatDoorA2
namespace Go.Proofs.YtccdkchmeelkfaaGreatDoor

/-- A level's weights of elements, those that there are. -/
def lvS (l : Int) (A : List Nat) : List Nat := (A.map (wt l)).filter fun w => w != 0
/-- How two lists of weights stand. -/
def cmpL : List Nat → List Nat → Int
  | [], [] => 0
  | [], _ :: _ => -1
  | _ :: _, [] => 1
  | a :: p, b :: q => if a < b then -1 else if b < a then 1 else cmpL p q
/-- How two lists of elements stand by a level. -/
def cmpE (l : Int) (A B : List Nat) : Int := cmpL (lvS l A) (lvS l B)

theorem cmpL_self : ∀ p, cmpL p p = 0
  | [] => rfl
  | a :: p => by rw [cmpL, if_neg (by omega), if_neg (by omega)]; exact cmpL_self p
theorem cmpL_map (g : Nat → Nat) (hg : ∀ a b, a < b → g a < g b) : ∀ p q, cmpL (p.map g) (q.map g) = cmpL p q
  | [], [] => rfl
  | [], _ :: _ => rfl
  | _ :: _, [] => rfl
  | a :: p, b :: q => by
    rw [List.map_cons, List.map_cons, cmpL, cmpL, cmpL_map g hg p q]
    have h1 := hg a b
    have h2 := hg b a
    by_cases hab : a < b
    · rw [if_pos hab, if_pos (h1 hab)]
    · by_cases hba : b < a
      · have := h2 hba
        rw [if_neg hab, if_pos hba, if_neg (by omega), if_pos this]
      · obtain rfl : a = b := by omega
        rw [if_neg hab, if_neg (by omega), if_neg hab, if_neg (by omega)]
theorem cmpE_eq {l : Int} {x y : Nat} (h : wt l x = wt l y) : cmpE l [x] [y] = 0 := by
  unfold cmpE lvS
  rw [List.map_cons, List.map_cons, h]
  exact cmpL_self _
theorem cmpE_lt {l : Int} {x y : Nat} (h : wt l x < wt l y) : cmpE l [x] [y] = -1 := by
  unfold cmpE lvS
  by_cases h0 : wt l x = 0
  · have hy : wt l y ≠ 0 := by omega
    simp [h0, hy, cmpL]
  · have hy : wt l y ≠ 0 := by omega
    simp [h0, hy, cmpL, h]
theorem cmpE_gt {l : Int} {x y : Nat} (h : wt l y < wt l x) : cmpE l [x] [y] = 1 := by
  unfold cmpE lvS
  by_cases h0 : wt l y = 0
  · have hx : wt l x ≠ 0 := by omega
    simp [h0, hx, cmpL]
  · have hx : wt l x ≠ 0 := by omega
    have : ¬ wt l x < wt l y := by omega
    simp [h0, hx, cmpL, h, this]
theorem cmpE_map {l : Int} (f g : Nat → Nat) (hg : ∀ a b, a < b → g a < g b) (h0 : g 0 = 0) {A B : List Nat} (hA : ∀ x ∈ A, wt l (f x) = g (wt l x)) (hB : ∀ x ∈ B, wt l (f x) = g (wt l x)) : cmpE l (A.map f) (B.map f) = cmpE l A B := by
  have key : ∀ A : List Nat, (∀ x ∈ A, wt l (f x) = g (wt l x)) → lvS l (A.map f) = (lvS l A).map g := by
    intro A hA
    induction A with
    | nil => rfl
    | cons x r ih =>
      have h1 := hA x (by simp)
      have h2 := ih fun y hy => hA y (by simp [hy])
      unfold lvS at *
      rw [List.map_cons, List.map_cons, List.map_cons, h1]
      by_cases hx : wt l x = 0
      · rw [hx, h0, List.filter_cons_of_neg (by simp), List.filter_cons_of_neg (by simp)]; exact h2
      · have : g (wt l x) ≠ 0 := by have := hg 0 (wt l x) (by omega); omega
        rw [List.filter_cons_of_pos (by simpa using this), List.filter_cons_of_pos (by simpa using hx), List.map_cons, h2]
  unfold cmpE
  rw [key A hA, key B hB, cmpL_map g hg]

/-- The elements of one sign that is an entry. -/
theorem ofS_one {T : Tab Nat} {c : Int} {l : List Nat} (h : alook T [c] = some l) : ofS implW T [c] = l := by
  have h1 : atS implW T [c] = (l, 1) := by
    show (tryS T [c] 1).getD _ = _
    rw [tryS]
    rw [show [c].take (0 + 1) = [c] from rfl, h]; rfl
  rw [ofS_cons implW T (by simp), h1]
  simp [ofS_nil]
/-- Signs that stand alone. -/
theorem ofS_alone {T : Tab Nat} {C : Int → Prop} {E : Int → List Nat} (h1 : ∀ c, C c → alook T [c] = some (E c)) (h2 : ∀ k c r, C c → alook T (c :: k :: r) = none) : ∀ s : List Int, (∀ c ∈ s, C c) → ofS implW T s = s.flatMap E
  | [], _ => rfl
  | c :: r, h => by
    have hc := h c (by simp)
    have ha : atS implW T (c :: r) = (E c, 1) := by
      have key : ∀ n, n + 1 ≤ (c :: r).length → tryS T (c :: r) (n + 1) = some (E c, 1) := by
        intro n
        induction n with
        | zero => intro _; rw [tryS]; rw [show (c :: r).take (0 + 1) = [c] from rfl, h1 c hc]
        | succ n ih =>
          intro hn
          rw [tryS]
          cases r with
          | nil => simp at hn
          | cons d r => rw [show (c :: d :: r).take (n + 1 + 1) = c :: d :: r.take n by simp, h2 _ _ _ hc]; exact ih (by omega)
      unfold atS
      simp only
      obtain ⟨n, hn⟩ : ∃ n, min 3 (c :: r).length = n + 1 := ⟨min 3 (c :: r).length - 1, by simp; omega⟩
      rw [hn, key n (by omega)]; rfl
    rw [ofS_cons implW T (by simp), ha, List.flatMap_cons]
    show E c ++ ofS implW T r = _
    rw [ofS_alone h1 h2 r fun x hx => h x (by simp [hx])]

/-- May an element be raised at a level? -/
def roomL (l : Int) (x : Nat) : Prop := x < 4294967296 ∧ (wt l x : Int) < mostW l
theorem roomL_up {l j : Int} (hl : lvl l) (hj : lvl j) (p : Nat) {x : Nat} (h : roomL l x) : wt j (upW l p x) = if j = l ∧ p < wt l x then wt l x + 1 else wt j x := by
  obtain ⟨h1, h2⟩ := h
  have hb : wt l x + 1 < bndW l ∨ l = 1 := by rcases hl with rfl | rfl | rfl <;> simp [mostW, bndW] at * <;> omega
  have h3 : 1 < l ∨ wt l x ≤ 64255 := by rcases hl with rfl | rfl | rfl <;> simp [mostW] at * <;> omega
  rw [upW_wt hl hj p h1 hb]
  by_cases hc : j = l ∧ p < wt l x
  · rw [if_pos hc, if_pos ⟨hc.1, hc.2, h3⟩]
  · rw [if_neg hc, if_neg (fun h => hc ⟨h.1, h.2.1⟩)]
theorem up_lt {l j : Int} (hl : lvl l) (hj : lvl j) (p : Nat) {x y : Nat} (hx : roomL l x) (hy : roomL l y) (h : wt j x < wt j y) : wt j (upW l p x) < wt j (upW l p y) := by
  rw [roomL_up hl hj p hx, roomL_up hl hj p hy]
  by_cases hjl : j = l
  · subst hjl; simp only [true_and]; split <;> split <;> omega
  · simp [hjl, h]
theorem up_eq {l j : Int} (hl : lvl l) (hj : lvl j) (p : Nat) {x y : Nat} (hx : roomL l x) (hy : roomL l y) (h : wt j x = wt j y) : wt j (upW l p x) = wt j (upW l p y) := by
  rw [roomL_up hl hj p hx, roomL_up hl hj p hy]
  by_cases hjl : j = l
  · subst hjl; simp only [true_and]; split <;> split <;> omega
  · simp [hjl, h]
theorem has_room {T : Tab Nat} {l : Int} (h : hasS T l (mostW l) = false) {e : List Int × List Nat} (he : e ∈ T) {x : Nat} (hx : x ∈ e.2) (h32 : x < 4294967296) (hle : (wt l x : Int) ≤ mostW l) : roomL l x := by
  refine ⟨h32, ?_⟩
  have : (wt l x : Int) ≠ mostW l := by
    intro e1
    have : hasS T l (mostW l) = true := List.any_eq_true.2 ⟨e, he, List.any_eq_true.2 ⟨x, hx, by simp [e1]⟩⟩
    rw [h] at this; cases this
  omega
theorem wt_most {l : Int} (hl : l = 2 ∨ l = 3) {x : Nat} (_h : x < 4294967296) : (wt l x : Int) ≤ mostW l := by
  rcases hl with rfl | rfl <;> simp [wt, mostW] <;> omega
end Go.Proofs.YtccdkchmeelkfaaGreatDoor
