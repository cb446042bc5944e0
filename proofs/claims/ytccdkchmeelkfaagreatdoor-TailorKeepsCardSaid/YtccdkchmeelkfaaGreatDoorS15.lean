/- A row of rules: each sign stands behind the one ahead of it, on its own level. No memory. -/
import Derived.Test.YtccdkchmeelkfaaGreatDoorS14
namespace Go.Proofs.YtccdkchmeelkfaaGreatDoor

theorem aput_same {α β : Type} [DecidableEq α] {m : List (α × β)} {k : α} (v : β) (h : k ∈ m.map (·.1)) : (aput m k v).map (·.1) = m.map (·.1) := by
  induction m with
  | nil => simp at h
  | cons p r ih =>
    rw [aput]
    by_cases hp : p.1 = k
    · rw [if_pos hp]; simp [hp]
    · rw [if_neg hp, List.map_cons, List.map_cons, ih]
      rw [List.map_cons, List.mem_cons] at h
      rcases h with h | h
      · exact absurd h.symm hp
      · exact h

theorem newW_wt {k : Int} (hk : lvl k) {x : Nat} (hx : x < 4294967296) (hb : (wt k x : Int) < mostW k) :
    wt k (newW k x) = wt k x + 1 ∧ (∀ j, lvl j → j < k → wt j (newW k x) = wt j x) ∧ (∀ j, lvl j → (∀ j, lvl j → 0 < wt j x) → 0 < wt j (newW k x)) ∧
    newW k x < 4294967296 ∧ wt 1 (newW k x) ≤ wt 1 x + 1 ∧ wt 2 (newW k x) ≤ max (wt 2 x + 1) 32 ∧ wt 3 (newW k x) ≤ max (wt 3 x + 1) 2 := by
  have hlt : newW k x < 4294967296 := newW_lt k hx (by rintro rfl; simp [mostW] at hb; omega)
  rcases hk with rfl | rfl | rfl
  · have h := wt_mkw (p := wt 1 x + 1) (s := 32) (t := 2) false (by simp [mostW] at hb; omega) (by decide) (by decide)
    have hn : newW 1 x = mkw (wt 1 x + 1) 32 2 false := rfl
    rw [hn] at hlt ⊢
    obtain ⟨h1, h2, h3⟩ := h
    refine ⟨h1, ?_, ?_, hlt, by omega, by omega, by omega⟩
    · rintro j (rfl | rfl | rfl) h <;> omega
    · rintro j (rfl | rfl | rfl) _ <;> omega
  · have hn : newW 2 x = setw 3 (setw 2 x (wt 2 x + 1)) 2 := by simp [newW]
    have hw : wt 2 x + 1 < 256 := by simp [mostW] at hb; omega
    have hs := setw_lt 2 (wt 2 x + 1) hx
    have g := fun j (hj : lvl j) => wt_setw (l := 3) (.inr (.inr rfl)) hj hs (show 2 < bndW 3 by simp [bndW])
    have f := fun j (hj : lvl j) => wt_setw (l := 2) (.inr (.inl rfl)) hj hx (show wt 2 x + 1 < bndW 2 by simpa [bndW] using hw)
    have g1 : wt 1 (newW 2 x) = wt 1 x := by rw [hn, g 1 (.inl rfl), if_neg (by decide), f 1 (.inl rfl), if_neg (by decide)]
    have g2 : wt 2 (newW 2 x) = wt 2 x + 1 := by rw [hn, g 2 (.inr (.inl rfl)), if_neg (by decide), f 2 (.inr (.inl rfl)), if_pos rfl]
    have g3 : wt 3 (newW 2 x) = 2 := by rw [hn, g 3 (.inr (.inr rfl)), if_pos rfl]
    refine ⟨g2, ?_, ?_, hlt, by omega, by omega, by omega⟩
    · rintro j (rfl | rfl | rfl) h
      · exact g1
      · omega
      · omega
    · rintro j (rfl | rfl | rfl) h
      · have := h 1 (.inl rfl); omega
      · omega
      · omega
  · have hn : newW 3 x = setw 3 x (wt 3 x + 1) := by simp [newW]
    have hw : wt 3 x + 1 < 128 := by simp [mostW] at hb; omega
    have f := fun j (hj : lvl j) => wt_setw (l := 3) (.inr (.inr rfl)) hj hx (show wt 3 x + 1 < bndW 3 by simpa [bndW] using hw)
    have g1 : wt 1 (newW 3 x) = wt 1 x := by rw [hn, f 1 (.inl rfl), if_neg (by decide)]
    have g2 : wt 2 (newW 3 x) = wt 2 x := by rw [hn, f 2 (.inr (.inl rfl)), if_neg (by decide)]
    have g3 : wt 3 (newW 3 x) = wt 3 x + 1 := by rw [hn, f 3 (.inr (.inr rfl)), if_pos rfl]
    refine ⟨g3, ?_, ?_, hlt, by omega, by omega, by omega⟩
    · rintro j (rfl | rfl | rfl) h
      · exact g1
      · exact g2
      · omega
    · rintro j (rfl | rfl | rfl) h
      · have := h 1 (.inl rfl); omega
      · have := h 2 (.inr (.inl rfl)); omega
      · omega
theorem ok_pos {x : Nat} (h : ∀ j, lvl j → 0 < wt j x) : okw x = true := by
  have h1 := h 1 (.inl rfl)
  have h2 := h 2 (.inr (.inl rfl))
  have h3 := h 3 (.inr (.inr rfl))
  unfold okw
  simp [h1, h2, h3]

/-- Elements that stay small for n rules. -/
def smallW (n : Nat) (x : Nat) : Prop := x < 4294967296 ∧ wt 1 x ≤ 1000 + n ∧ wt 2 x ≤ 100 + n ∧ wt 3 x ≤ 100 + n ∧ okw x = true
theorem smallW.room {n : Nat} (hn : n ≤ 20) {x : Nat} (h : smallW n x) {l : Int} (hl : lvl l) : roomL l x := by
  obtain ⟨h1, h2, h3, h4, _⟩ := h
  refine ⟨h1, ?_⟩
  rcases hl with rfl | rfl | rfl <;> simp [mostW] <;> omega
theorem smallW.up {n : Nat} (hn : n ≤ 20) {x : Nat} (h : smallW n x) {l : Int} (hl : lvl l) {p : Nat} (hp : 0 < p) : smallW (n + 1) (upW l p x) := by
  have hr := h.room hn hl
  have g := fun j hj => roomL_up (j := j) hl hj p hr
  have g1 := g 1 (.inl rfl)
  have g2 := g 2 (.inr (.inl rfl))
  have g3 := g 3 (.inr (.inr rfl))
  have hok := h.2.2.2.2
  obtain ⟨h1, h2, h3, h4, _⟩ := h
  refine ⟨upW_lt l p h1, ?_, ?_, ?_, upW_ok hl p h1 ?_ hp hok⟩
  · rw [g1]; split
    · rename_i hc; obtain ⟨rfl, _⟩ := hc; omega
    · omega
  · rw [g2]; split
    · rename_i hc; obtain ⟨rfl, _⟩ := hc; omega
    · omega
  · rw [g3]; split
    · rename_i hc; obtain ⟨rfl, _⟩ := hc; omega
    · omega
  · rcases hl with rfl | rfl | rfl
    · exact .inr rfl
    · left; simp [bndW]; omega
    · left; simp [bndW]; omega

def rowsL (i : Nat) : List Nat → List RuleP
  | [] => []
  | k :: r => ⟨(k : Int) + 1, [49 + (i : Int)], []⟩ :: rowsL (i + 1) r

structure RowI (T : Tab Nat) (ks : List Nat) (e : Nat → Nat) (el en : Nat) : Prop where
  hl : alook T [108] = some [el]
  hm : alook T [109] = some [e 0]
  hn : alook T [110] = some [en]
  hd : ∀ i, i < ks.length → alook T [49 + (i : Int)] = some [e (i + 1)]
  rel : ∀ (i k : Nat), ks[i]? = some k → ∀ j : Int, lvl j → (j < k → wt j (e i) = wt j (e (i + 1))) ∧ (j = k → wt j (e i) < wt j (e (i + 1)))
  last : wt 1 (e ks.length) < wt 1 en
  first : wt 1 el < wt 1 (e 0)
  pos : ∀ j, lvl j → 0 < wt j (e ks.length)
  keys : T.map (·.1) = rootS.map (·.1)
  bd : ∀ p ∈ T, ∀ x ∈ p.2, smallW ks.length x

theorem root_small : (rootS.all fun p => p.2.all fun x => decide (x < 4294967296) && decide (wt 1 x ≤ 1000) && decide (wt 2 x ≤ 100) && decide (wt 3 x ≤ 100) && okw x) = true := by decide +kernel
theorem RowI.start : RowI rootS [] (fun _ => letterW 109 2) (letterW 108 2) (letterW 110 2) where
  hl := by decide +kernel
  hm := by decide +kernel
  hn := by decide +kernel
  hd i h := by simp at h
  rel i k h := by simp at h
  last := by decide +kernel
  first := by decide +kernel
  pos := by rintro j (rfl | rfl | rfl) <;> decide +kernel
  keys := rfl
  bd p hp x hx := by
    have h := List.all_eq_true.1 (List.all_eq_true.1 root_small p hp) x hx
    simp only [Bool.and_eq_true, decide_eq_true_eq] at h
    exact ⟨h.1.1.1.1, h.1.1.1.2, h.1.1.2, h.1.2, h.2⟩

theorem RowI.el_in {T : Tab Nat} {ks : List Nat} {e : Nat → Nat} {el en : Nat} (h : RowI T ks e el en) {i : Nat} (hi : i ≤ ks.length) : smallW ks.length (e i) := by
  cases i with
  | zero => exact h.bd _ (alook_mem h.hm) _ (by simp)
  | succ i => exact h.bd _ (alook_mem (h.hd i (by omega))) _ (by simp)

theorem digit_key {n : Nat} (hn : n < 8) : okKey [49 + (n : Int)] ∧ [49 + (n : Int)] ∈ rootS.map (·.1) := by
  have : ∀ n : Nat, n < 8 → okKey [49 + (n : Int)] ∧ [49 + (n : Int)] ∈ rootS.map (·.1) := by decide +kernel
  exact this n hn

theorem with_digit {T : Tab Nat} (hk : T.map (·.1) = rootS.map (·.1)) {n : Nat} (hn : n < 8) (x : Nat) : withS T [49 + (n : Int)] ([x] ++ ofS implW T []) = .ok (aput T [49 + (n : Int)] [x]) ∧ (aput T [49 + (n : Int)] [x]).map (·.1) = rootS.map (·.1) := by
  have hd := digit_key hn
  have h1 : (aput T [49 + (n : Int)] [x]).map (·.1) = rootS.map (·.1) := by rw [aput_same _ (by rw [hk]; exact hd.2), hk]
  have hlen : (aput T [49 + (n : Int)] [x]).length = rootS.length := by have := congrArg List.length h1; simpa using this
  refine ⟨?_, h1⟩
  unfold withS
  rw [ofS_nil, List.append_nil, if_neg (by simp [hd.1]), if_neg]
  rw [hlen]; exact by decide +kernel

set_option maxRecDepth 100000 in
theorem RowI.step {T : Tab Nat} {ks : List Nat} {e : Nat → Nat} {el en : Nat} (h : RowI T ks e el en) (hn : ks.length < 8) {k : Nat} (hk : 1 ≤ k ∧ k ≤ 4) :
    ∃ T' e' el' en', ruleS T [e ks.length] ⟨(k : Int) + 1, [49 + (ks.length : Int)], []⟩ = .ok (T', [e' (ks.length + 1)]) ∧ RowI T' (ks ++ [k]) e' el' en' := by
  generalize hN : ks.length = n at hn
  have hx := h.el_in (i := n) (by omega)
  rw [hN] at hx
  have hlk : ∀ (T1 : Tab Nat) (v : List Nat) (c : Int), c ≠ 49 + (n : Int) → alook (aput T1 [49 + (n : Int)] v) [c] = alook T1 [c] := fun T1 v c hc => by
    rw [alook_aput, if_neg (by simpa using fun e => hc e.symm)]
  have hpos := h.pos
  rw [hN] at hpos
  by_cases h4 : k = 4
  · subst h4
    obtain ⟨hw, hks⟩ := with_digit h.keys hn (e n)
    refine ⟨aput T [49 + (n : Int)] [e n], fun i => if i ≤ n then e i else e n, el, en, ?_, ?_⟩
    · unfold ruleS
      rw [if_neg (by simp), if_pos (by simp)]
      simp only []
      rw [hw]
      have : ¬ n + 1 ≤ n := by omega
      simp [this]
    · constructor
      · rw [hlk _ _ _ (by omega)]; exact h.hl
      · rw [hlk _ _ _ (by omega)]; simpa using h.hm
      · rw [hlk _ _ _ (by omega)]; exact h.hn
      · intro i hi
        simp only [List.length_append, List.length_cons, List.length_nil, hN] at hi
        by_cases hin : i = n
        · subst hin
          have : ¬ i + 1 ≤ i := by omega
          rw [alook_aput, if_pos rfl]; simp [this]
        · rw [hlk _ _ _ (by omega), h.hd i (by omega)]
          have : i + 1 ≤ n := by omega
          simp [this]
      · intro i k' hik j hj
        rw [List.getElem?_append] at hik
        split at hik
        · rename_i hi
          rw [hN] at hi
          have h1 : i ≤ n := by omega
          have h2 : i + 1 ≤ n := by omega
          simp only [h1, h2, if_true]
          exact h.rel i k' hik j hj
        · rename_i hi
          rw [hN] at hi
          have hi0 : i = n := by
            by_cases h0 : i = n
            · exact h0
            · rw [hN, List.getElem?_eq_none (by simp; omega)] at hik; cases hik
          subst hi0
          rw [hN, Nat.sub_self] at hik
          simp at hik
          subst hik
          have : ¬ i + 1 ≤ i := by omega
          simp only [this, if_false, Nat.le_refl, if_true]
          refine ⟨fun _ => by trivial, fun e1 => ?_⟩
          rcases hj with rfl | rfl | rfl <;> omega
      · have := h.last
        rw [hN] at this
        have h1 : ¬ n + 1 ≤ n := by omega
        simp only [List.length_append, List.length_cons, List.length_nil, hN, h1, if_false]
        exact this
      · simpa using h.first
      · have h1 : ¬ n + 1 ≤ n := by omega
        simp only [List.length_append, List.length_cons, List.length_nil, hN, h1, if_false]
        exact hpos
      · exact hks
      · intro p hp x hxp
        simp only [List.length_append, List.length_cons, List.length_nil, hN]
        have wk : ∀ {y}, smallW n y → smallW (n + (0 + 1)) y := fun ⟨a, b, c, d, f⟩ => ⟨a, by omega, by omega, by omega, f⟩
        rcases aput_keys_mem hp with rfl | hp
        · simp at hxp; subst hxp; exact wk hx
        · exact wk (hN ▸ h.bd p hp x hxp)
  · have hl : lvl (k : Int) := by unfold lvl; omega
    have hrm := fun {y : Nat} (hy : smallW n y) => hy.room (by omega) hl
    obtain ⟨n1, n2, n3, n4, n5, n6, n7⟩ := newW_wt hl hx.1 (hrm hx).2
    have hp0 := hpos k hl
    have hbdT : ∀ p ∈ T, ∀ x ∈ p.2, smallW n x := hN ▸ h.bd
    have hcut : cutS (k : Int) [e n] = [e n] := by
      unfold cutS
      rw [List.reverse_cons, List.reverse_nil, List.nil_append, List.dropWhile_cons_of_neg (by simp; omega)]
    have hhas : hasS T k (mostW k) = false := by
      rw [Bool.eq_false_iff]
      intro hh
      obtain ⟨p, hp, hh⟩ := List.any_eq_true.1 hh
      obtain ⟨y, hy, hh⟩ := List.any_eq_true.1 hh
      have h1 := (hrm (hbdT p hp y hy)).2
      simp at hh; omega
    have hmv : moveS T [e n] k = .ok (mapT (upW k (wt k (e n))) T, [newW k (e n)]) := by
      unfold moveS
      rw [hcut]
      simp only []
      have h1 := hx.2.1
      rw [if_neg (by omega), hhas]
      simp
    have hk1 : (mapT (upW k (wt k (e n))) T).map (·.1) = rootS.map (·.1) := by rw [mapT_keys, h.keys]
    obtain ⟨hw, hks⟩ := with_digit hk1 hn (newW k (e n))
    have hml : ∀ c v, alook T [c] = some v → alook (mapT (upW k (wt k (e n))) T) [c] = some (v.map (upW k (wt k (e n)))) := fun c v hv => by rw [alook_mapT, hv]; rfl
    have hupx : ∀ j, lvl j → wt j (upW k (wt k (e n)) (e n)) = wt j (e n) := fun j hj => by rw [roomL_up hl hj _ (hrm hx), if_neg (by omega)]
    refine ⟨aput (mapT (upW k (wt k (e n))) T) [49 + (n : Int)] [newW k (e n)], fun i => if i ≤ n then upW k (wt k (e n)) (e i) else newW k (e n), upW k (wt k (e n)) el, upW k (wt k (e n)) en, ?_, ?_⟩
    · unfold ruleS
      rw [if_neg (by simp; omega), if_neg (by simp; omega)]
      simp only []
      rw [show (k : Int) + 1 - 1 = k by omega, hmv]
      simp only []
      rw [hw]
      have : ¬ n + 1 ≤ n := by omega
      simp [this]
    · constructor
      · rw [hlk _ _ _ (by omega), hml _ _ h.hl]; rfl
      · rw [hlk _ _ _ (by omega), hml _ _ h.hm]; simp
      · rw [hlk _ _ _ (by omega), hml _ _ h.hn]; rfl
      · intro i hi
        simp only [List.length_append, List.length_cons, List.length_nil, hN] at hi
        by_cases hin : i = n
        · subst hin
          have : ¬ i + 1 ≤ i := by omega
          rw [alook_aput, if_pos rfl]; simp [this]
        · rw [hlk _ _ _ (by omega), hml _ _ (h.hd i (by omega))]
          have : i + 1 ≤ n := by omega
          simp [this]
      · intro i k' hik j hj
        rw [List.getElem?_append] at hik
        split at hik
        · rename_i hi
          rw [hN] at hi
          have h1 : i ≤ n := by omega
          have h2 : i + 1 ≤ n := by omega
          simp only [h1, h2, if_true]
          have hr := h.rel i k' hik j hj
          have s1 := hN ▸ h.el_in (i := i) (by omega)
          have s2 := hN ▸ h.el_in (i := i + 1) (by omega)
          exact ⟨fun hjk => up_eq hl hj _ (hrm s1) (hrm s2) (hr.1 hjk), fun hjk => up_lt hl hj _ (hrm s1) (hrm s2) (hr.2 hjk)⟩
        · rename_i hi
          rw [hN] at hi
          have hi0 : i = n := by
            by_cases h0 : i = n
            · exact h0
            · rw [hN, List.getElem?_eq_none (by simp; omega)] at hik; cases hik
          subst hi0
          rw [hN, Nat.sub_self] at hik
          simp at hik
          subst hik
          have : ¬ i + 1 ≤ i := by omega
          simp only [this, if_false, Nat.le_refl, if_true]
          rw [hupx j hj]
          refine ⟨fun hjk => (n2 j hj hjk).symm, fun hjk => ?_⟩
          subst hjk
          rw [n1]; omega
      · have hlast := h.last
        rw [hN] at hlast
        have h1 : ¬ n + 1 ≤ n := by omega
        simp only [List.length_append, List.length_cons, List.length_nil, hN, h1, if_false]
        have sn := hrm (hbdT _ (alook_mem h.hn) en (by simp))
        rw [roomL_up hl (.inl rfl) _ sn]
        by_cases hk1 : (k : Int) = 1
        · rw [hk1] at n1 ⊢
          rw [if_pos ⟨rfl, hlast⟩, n1]
          omega
        · rw [if_neg (by omega), n2 1 (.inl rfl) (by omega)]; exact hlast
      · simp only [Nat.zero_le, if_true]
        have s0 := hrm (hN ▸ h.el_in (i := 0) (Nat.zero_le _))
        have sl := hrm (hbdT _ (alook_mem h.hl) el (by simp))
        exact up_lt hl (.inl rfl) _ sl s0 h.first
      · have h1 : ¬ n + 1 ≤ n := by omega
        simp only [List.length_append, List.length_cons, List.length_nil, hN, h1, if_false]
        exact fun j hj => n3 j hj hpos
      · exact hks
      · intro p hp x hxp
        simp only [List.length_append, List.length_cons, List.length_nil, hN]
        rcases aput_keys_mem hp with rfl | hp
        · simp at hxp; subst hxp
          have q := hx.2
          exact ⟨n4, by omega, by omega, by omega, ok_pos fun j hj => n3 j hj hpos⟩
        · obtain ⟨p0, hp0', rfl⟩ := List.mem_map.1 hp
          obtain ⟨y, hy, rfl⟩ := List.mem_map.1 hxp
          exact (hbdT p0 hp0' y hy).up (by omega) hl hp0

theorem RowI.go : ∀ {r : List Nat} {T : Tab Nat} {ks : List Nat} {e : Nat → Nat} {el en : Nat}, RowI T ks e el en → ks.length + r.length ≤ 8 → (∀ k ∈ r, 1 ≤ k ∧ k ≤ 4) →
    ∃ T' e' el' en', goS T [e ks.length] true (rowsL ks.length r) = .ok T' ∧ RowI T' (ks ++ r) e' el' en'
  | [], T, ks, e, el, en, h, _, _ => ⟨T, e, el, en, rfl, by simpa using h⟩
  | k :: r, T, ks, e, el, en, h, h8, hk => by
    simp only [List.length_cons] at h8
    have hk1 := hk k (by simp)
    obtain ⟨T1, e1, el1, en1, h1, h2⟩ := h.step (by omega) hk1
    obtain ⟨T2, e2, el2, en2, h3, h4⟩ := RowI.go (r := r) h2 (by simp; omega) fun x hx => hk x (by simp [hx])
    refine ⟨T2, e2, el2, en2, ?_, by simpa using h4⟩
    rw [rowsL, goS, if_neg (by simp; omega), h1]
    simp only [Bool.true_or]
    simpa using h3

theorem RowI.check {T : Tab Nat} {ks : List Nat} {e : Nat → Nat} {el en : Nat} (h : RowI T ks e el en) (h8 : ks.length ≤ 8) : checkS T = 0 := by
  unfold checkS
  rw [if_pos]
  rw [List.all_eq_true]
  intro p hp
  have hk : p.1.length = 1 := by
    have h1 : (rootS.map (·.1)).all (fun k => k.length == 1) = true := by decide +kernel
    have h2 : p.1 ∈ rootS.map (·.1) := by rw [← h.keys]; exact List.mem_map.2 ⟨p, hp, rfl⟩
    simpa using List.all_eq_true.1 h1 _ h2
  unfold soundE
  rw [hk]
  have hb : p.2.any badW = false := by
    rw [Bool.eq_false_iff]
    intro hh
    obtain ⟨y, hy, hh⟩ := List.any_eq_true.1 hh
    obtain ⟨_, s1, _, _, s2⟩ := h.bd p hp y hy
    unfold badW at hh
    rw [s2] at hh
    simp at hh; omega
  rw [hb]; rfl

/-- The sign at a place of the row. -/
def sgR (i : Nat) : Int := if i = 0 then 109 else 48 + (i : Int)

/-- What a row of rules makes. -/
structure RowsOk (T : Tab Nat) (ks : List Nat) : Prop where
  check : checkS T = 0
  rel : ∀ (i k : Nat), ks[i]? = some k → ∀ j : Int, lvl j → (j < k → cmpE j (ofS implW T [sgR i]) (ofS implW T [sgR (i + 1)]) = 0) ∧ (j = k → cmpE j (ofS implW T [sgR i]) (ofS implW T [sgR (i + 1)]) = -1)
  last : cmpE 1 (ofS implW T [sgR ks.length]) (ofS implW T [110]) = -1
  first : ks ≠ [] → cmpE 1 (ofS implW T [108]) (ofS implW T [49]) = -1

theorem rows_law (ks : List Nat) (h8 : ks.length ≤ 8) (hk : ∀ k ∈ ks, 1 ≤ k ∧ k ≤ 4) : ∃ T, applyS rootS (⟨1, [109], []⟩ :: rowsL 0 ks) = .ok T ∧ RowsOk T ks := by
  obtain ⟨T, e, el, en, h1, h⟩ := RowI.start.go (r := ks) (by simpa using h8) hk
  rw [List.nil_append] at h
  have hm : ofS implW rootS [109] = [letterW 109 2] := ofS_one RowI.start.hm
  have hc := h.check h8
  have hsg : ∀ i, i ≤ ks.length → ofS implW T [sgR i] = [e i] := by
    intro i hi
    unfold sgR
    cases i with
    | zero => exact ofS_one h.hm
    | succ i =>
      rw [if_neg (by omega), show (48 : Int) + ((i + 1 : Nat) : Int) = 49 + (i : Int) by omega]
      exact ofS_one (h.hd i (by omega))
  refine ⟨T, ?_, hc, ?_, ?_, ?_⟩
  · unfold applyS
    have : goS rootS [] false (⟨1, [109], []⟩ :: rowsL 0 ks) = .ok T := by
      rw [goS, if_neg (by simp)]
      unfold ruleS
      rw [if_pos rfl, hm, if_neg (by simp)]
      simpa using h1
    rw [this]
    simp only []
    rw [if_pos hc]
  · intro i k hik j hj
    have hi : i < ks.length := (List.getElem?_eq_some_iff.1 hik).1
    rw [hsg i (by omega), hsg (i + 1) (by omega)]
    have := h.rel i k hik j hj
    exact ⟨fun hjk => cmpE_eq (this.1 hjk), fun hjk => cmpE_lt (this.2 hjk)⟩
  · rw [hsg _ (Nat.le_refl _), ofS_one h.hn]
    exact cmpE_lt h.last
  · intro h0
    cases ks with
    | nil => exact absurd rfl h0
    | cons k r =>
      rw [ofS_one h.hl]
      have := hsg 1 (by simp)
      rw [show sgR 1 = 49 from rfl] at this
      rw [this]
      refine cmpE_lt ?_
      have hr := h.rel 0 k rfl 1 (.inl rfl)
      rw [Nat.zero_add] at hr
      have hk1 := hk k (by simp)
      have := h.first
      by_cases hk2 : k = 1
      · subst hk2; have := hr.2 rfl; omega
      · have := hr.1 (by omega); omega
end Go.Proofs.YtccdkchmeelkfaaGreatDoor
