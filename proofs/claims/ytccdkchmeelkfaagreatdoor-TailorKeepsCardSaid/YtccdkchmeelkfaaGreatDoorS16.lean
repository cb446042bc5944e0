/- What is put behind a letter stands right behind it; what no rule names stands as before. No memory. -/
import Derived.Test.YtccdkchmeelkfaaGreatDoorS15
namespace Go.Proofs.YtccdkchmeelkfaaGreatDoor

theorem move_one {T : Tab Nat} {n : Nat} (hbd : ∀ p ∈ T, ∀ x ∈ p.2, smallW n x) (hn : n ≤ 20) {x : Nat} (hx : smallW n x) {k : Int} (hl : lvl k) (hp : 0 < wt k x) : moveS T [x] k = .ok (mapT (upW k (wt k x)) T, [newW k x]) := by
  have hcut : cutS k [x] = [x] := by
    unfold cutS
    rw [List.reverse_cons, List.reverse_nil, List.nil_append, List.dropWhile_cons_of_neg (by simp; omega)]
  have hhas : hasS T k (mostW k) = false := by
    rw [Bool.eq_false_iff]
    intro hh
    obtain ⟨p, hp, hh⟩ := List.any_eq_true.1 hh
    obtain ⟨y, hy, hh⟩ := List.any_eq_true.1 hh
    have h1 := ((hbd p hp y hy).room hn hl).2
    simp at hh; omega
  unfold moveS
  rw [hcut]
  simp only []
  have h1 := hx.2.1
  rw [if_neg (by omega), hhas]
  simp
theorem with_key {T : Tab Nat} (hk : T.map (·.1) = rootS.map (·.1)) {c : Int} (hc : [c] ∈ rootS.map (·.1)) (x : Nat) : withS T [c] ([x] ++ ofS implW T []) = .ok (aput T [c] [x]) ∧ (aput T [c] [x]).map (·.1) = rootS.map (·.1) := by
  have h1 : (aput T [c] [x]).map (·.1) = rootS.map (·.1) := by rw [aput_same _ (by rw [hk]; exact hc), hk]
  have hlen : (aput T [c] [x]).length = rootS.length := by have := congrArg List.length h1; simpa using this
  have hok : okKey [c] := by obtain ⟨p, hp, e⟩ := List.mem_map.1 hc; rw [← e]; exact rootS_ok.1 p hp
  refine ⟨?_, h1⟩
  unfold withS
  rw [ofS_nil, List.append_nil, if_neg (by simp [hok]), if_neg]
  rw [hlen]; exact by decide +kernel

theorem root_letters : ((List.range 26).all fun i => alook rootS [97 + (i : Int)] == some [letterW (97 + i) 2]) = true := by decide +kernel
theorem root_letter {c : Int} (h : 97 ≤ c ∧ c ≤ 122) : alook rootS [c] = some [letterW c 2] := by
  have := List.all_eq_true.1 root_letters (c - 97).toNat (by rw [List.mem_range]; omega)
  rw [show (97 : Int) + ((c - 97).toNat : Nat) = c by omega] at this
  exact eq_of_beq this
theorem letter_wt {c : Int} (h : 97 ≤ c ∧ c ≤ 122) : wt 1 (letterW c 2) = 256 + 8 * (c - 97).toNat ∧ wt 2 (letterW c 2) = 32 ∧ wt 3 (letterW c 2) = 2 :=
  wt_mkw false (by omega) (by decide) (by decide)
theorem root_bd : ∀ p ∈ rootS, ∀ x ∈ p.2, smallW 0 x := RowI.start.bd
theorem keys_check {T : Tab Nat} (hk : T.map (·.1) = rootS.map (·.1)) {n : Nat} (hn : n ≤ 20) (hb : ∀ p ∈ T, ∀ x ∈ p.2, smallW n x) : checkS T = 0 := by
  unfold checkS
  rw [if_pos]
  rw [List.all_eq_true]
  intro p hp
  have hk : p.1.length = 1 := by
    have h1 : (rootS.map (·.1)).all (fun k => k.length == 1) = true := by decide +kernel
    have h2 : p.1 ∈ rootS.map (·.1) := by rw [← hk]; exact List.mem_map.2 ⟨p, hp, rfl⟩
    simpa using List.all_eq_true.1 h1 _ h2
  unfold soundE
  rw [hk]
  have hb : p.2.any badW = false := by
    rw [Bool.eq_false_iff]
    intro hh
    obtain ⟨y, hy, hh⟩ := List.any_eq_true.1 hh
    obtain ⟨_, s1, _, _, s2⟩ := hb p hp y hy
    unfold badW at hh
    rw [s2] at hh
    simp at hh; omega
  rw [hb]; rfl

/-- TailorPlaces as lists. -/
theorem places_law {x y z : Int} (hx : 97 ≤ x ∧ x ≤ 122) (hy : 97 ≤ y ∧ y ≤ 122) (hz : 97 ≤ z ∧ z ≤ 122) (hxy : x ≠ y) (hzx : z ≠ x) (hzy : z ≠ y) {k : Int} (hl : lvl k) :
    ∃ T, applyS rootS [⟨1, [x], []⟩, ⟨1 + k, [y], []⟩] = .ok T ∧ (∀ j, lvl j → j < k → cmpE j (ofS implW T [x]) (ofS implW T [y]) = 0) ∧ cmpE k (ofS implW T [x]) (ofS implW T [y]) = -1 ∧
      cmpE 1 (ofS implW T [z]) (ofS implW T [x]) = cmpE 1 (ofS implW rootS [z]) (ofS implW rootS [x]) ∧ (decide (cmpE 1 (ofS implW rootS [z]) (ofS implW rootS [x]) < 0) = decide (cmpE 1 (ofS implW T [z]) (ofS implW T [y]) < 0)) := by
  have rx := root_letter hx
  have rz := root_letter hz
  have ry := root_letter hy
  obtain ⟨wx1, wx2, wx3⟩ := letter_wt hx
  obtain ⟨wz1, wz2, wz3⟩ := letter_wt hz
  have sx := root_bd _ (alook_mem rx) _ (List.mem_singleton.2 rfl)
  have sz := root_bd _ (alook_mem rz) _ (List.mem_singleton.2 rfl)
  have hpos : ∀ j, lvl j → 0 < wt j (letterW x 2) := by rintro j (rfl | rfl | rfl) <;> omega
  have hox := ofS_one rx
  have hoz := ofS_one rz
  generalize letterW x 2 = ex at *
  generalize letterW z 2 = ez at *
  have hmv := move_one root_bd (by decide) sx hl (hpos k hl)
  have rmx := sx.room (by decide) hl
  have rmz := sz.room (by decide) hl
  obtain ⟨n1, n2, n3, n4, n5, n6, n7⟩ := newW_wt hl sx.1 rmx.2
  obtain ⟨hw, hks⟩ := with_key (T := mapT (upW k (wt k ex)) rootS) (mapT_keys _ _) (c := y) (List.mem_map.2 ⟨_, alook_mem ry, rfl⟩) (newW k ex)
  obtain ⟨T, hT⟩ : ∃ T, aput (mapT (upW k (wt k ex)) rootS) [y] [newW k ex] = T := ⟨_, rfl⟩
  rw [hT] at hw hks
  have hlk : ∀ c v, c ≠ y → alook rootS [c] = some [v] → ofS implW T [c] = [upW k (wt k ex) v] := fun c v hc hv => by
    refine ofS_one ?_
    rw [← hT, alook_aput, if_neg (by simpa using fun e => hc e.symm), alook_mapT, hv]; rfl
  have tx := hlk x ex hxy rx
  have tz := hlk z ez hzy rz
  have ty : ofS implW T [y] = [newW k ex] := ofS_one (by rw [← hT, alook_aput, if_pos rfl])
  have hbd : ∀ p ∈ T, ∀ x ∈ p.2, smallW 1 x := by
    intro p hp v hv
    rw [← hT] at hp
    rcases aput_keys_mem hp with rfl | hp
    · simp at hv; subst hv
      have q := sx.2
      exact ⟨n4, by omega, by omega, by omega, ok_pos fun j hj => n3 j hj hpos⟩
    · obtain ⟨p0, hp0', rfl⟩ := List.mem_map.1 hp
      obtain ⟨v0, hv0, rfl⟩ := List.mem_map.1 hv
      exact (root_bd p0 hp0' v0 hv0).up (by decide) hl (hpos k hl)
  have hupx : ∀ j, lvl j → wt j (upW k (wt k ex) ex) = wt j ex := fun j hj => by rw [roomL_up hl hj _ rmx, if_neg (by omega)]
  refine ⟨T, ?_, ?_, ?_, ?_, ?_⟩
  · have hgo : goS rootS [] false [⟨1, [x], []⟩, ⟨1 + k, [y], []⟩] = .ok T := by
      have h1 : ruleS rootS [] ⟨1, [x], []⟩ = .ok (rootS, [ex]) := by
        unfold ruleS
        rw [if_pos rfl, hox, if_neg (by simp)]
      have h2 : ruleS rootS [ex] ⟨1 + k, [y], []⟩ = .ok (T, [newW k ex]) := by
        unfold ruleS
        have hk : 1 ≤ k ∧ k ≤ 3 := by rcases hl with rfl | rfl | rfl <;> decide
        rw [if_neg (by simp; omega), if_neg (by simp; omega)]
        simp only []
        rw [show 1 + k - 1 = k by omega, hmv]
        simp only []
        rw [hw]
      have hk : 1 ≤ k ∧ k ≤ 3 := by rcases hl with rfl | rfl | rfl <;> decide
      rw [goS, if_neg (by simp), h1]
      simp only []
      rw [goS, if_neg (by simp; omega), h2]
      simp only []
      rw [goS]
    unfold applyS
    rw [hgo]
    simp only []
    rw [if_pos (keys_check hks (by decide) hbd)]
  · intro j hj hjk
    rw [tx, ty]
    exact cmpE_eq (by rw [hupx j hj, n2 j hj hjk])
  · rw [tx, ty]
    exact cmpE_lt (by rw [hupx k hl, n1]; omega)
  · rw [tx, tz, hox, hoz]
    rcases Nat.lt_trichotomy (wt 1 ez) (wt 1 ex) with h | h | h
    · rw [cmpE_lt h, cmpE_lt (up_lt hl (.inl rfl) _ rmz rmx h)]
    · rw [cmpE_eq h, cmpE_eq (up_eq hl (.inl rfl) _ rmz rmx h)]
    · rw [cmpE_gt h, cmpE_gt (up_lt hl (.inl rfl) _ rmx rmz h)]
  · rw [tz, ty, hox, hoz]
    have uz := roomL_up hl (.inl rfl) (wt k ex) rmz (j := 1)
    have hne : wt 1 ez ≠ wt 1 ex := by rw [wx1, wz1]; omega
    have hw1 : wt 1 (newW k ex) = if k = 1 then wt 1 ex + 1 else wt 1 ex := by
      by_cases hk : k = 1
      · subst hk; rw [if_pos rfl]; exact n1
      · rw [if_neg hk]; exact n2 1 (.inl rfl) (by rcases hl with rfl | rfl | rfl <;> simp_all)
    by_cases hk : k = 1
    · subst hk
      rw [if_pos rfl] at hw1
      rcases Nat.lt_trichotomy (wt 1 ez) (wt 1 ex) with h | h | h
      · rw [cmpE_lt h, cmpE_lt (by rw [uz, if_neg (by omega), hw1]; omega)]
      · exact absurd h hne
      · rw [cmpE_gt h, cmpE_gt (by rw [uz, if_pos ⟨rfl, h⟩, hw1]; omega)]
    · rw [if_neg hk] at hw1
      rw [if_neg (by omega)] at uz
      rcases Nat.lt_trichotomy (wt 1 ez) (wt 1 ex) with h | h | h
      · rw [cmpE_lt h, cmpE_lt (by rw [uz, hw1]; omega)]
      · exact absurd h hne
      · rw [cmpE_gt h, cmpE_gt (by rw [uz, hw1]; omega)]

/-- Signs that no rule names. -/
def keepC (c : Int) : Prop := (110 ≤ c ∧ c ≤ 122) ∨ (48 ≤ c ∧ c ≤ 57) ∨ (78 ≤ c ∧ c ≤ 90)
instance (c : Int) : Decidable (keepC c) := by unfold keepC; infer_instance
def xrC (c : Int) : Nat := ((alook rootS [c]).getD []).headD 0
theorem root_keepB : ((List.range 123).all fun n => !decide (keepC (n : Int)) || (alook rootS [(n : Int)] == some [xrC n] && decide (xrC n < 4294967296) && decide (wt 1 (xrC n) ≤ 64255))) = true := by decide +kernel
theorem root_keep {c : Int} (h : keepC c) : alook rootS [c] = some [xrC c] ∧ xrC c < 4294967296 ∧ wt 1 (xrC c) ≤ 64255 := by
  have := List.all_eq_true.1 root_keepB c.toNat (by rw [List.mem_range]; unfold keepC at h; omega)
  have hc : ((c.toNat : Nat) : Int) = c := by unfold keepC at h; omega
  rw [hc] at this
  simp [h] at this
  exact ⟨this.1.1, this.1.2, this.2⟩
theorem root_alone (c d : Int) (r : List Int) : alook rootS (c :: d :: r) = none := by
  refine alook_none fun p hp e => ?_
  have h1 : (rootS.map (·.1)).all (fun k => k.length == 1) = true := by decide +kernel
  have h2 := List.all_eq_true.1 h1 p.1 (List.mem_map.2 ⟨p, hp, rfl⟩)
  rw [e] at h2
  simp at h2

structure KeepI (T : Tab Nat) (f : Nat → Nat) : Prop where
  look : ∀ c, keepC c → alook T [c] = some [f (xrC c)]
  alone : ∀ c d r, keepC c → alook T (c :: d :: r) = none
  mono : ∀ l, lvl l → ∃ g : Nat → Nat, (∀ a b, a < b → g a < g b) ∧ g 0 = 0 ∧ ∀ c, keepC c → wt l (f (xrC c)) = g (wt l (xrC c))
  bd : ∀ c, keepC c → f (xrC c) < 4294967296 ∧ wt 1 (f (xrC c)) ≤ 64255
theorem KeepI.start : KeepI rootS id where
  look _ h := (root_keep h).1
  alone c d r _ := root_alone c d r
  mono _ _ := ⟨id, fun _ _ h => h, rfl, fun _ _ => rfl⟩
  bd _ h := (root_keep h).2
theorem KeepI.move {T : Tab Nat} {f : Nat → Nat} (h : KeepI T f) {l : Int} (hl : lvl l) (hh : hasS T l (mostW l) = false) (p : Nat) : KeepI (mapT (upW l p) T) (fun x => upW l p (f x)) := by
  have room : ∀ c, keepC c → roomL l (f (xrC c)) := fun c hc => has_room hh (alook_mem (h.look c hc)) (by simp) (h.bd c hc).1 (by
    have hb := h.bd c hc
    by_cases h1 : l = 1
    · subst h1; simp [mostW]; omega
    · exact wt_most (by rcases hl with h | h | h; exact absurd h h1; exact .inl h; exact .inr h) hb.1)
  refine ⟨fun c hc => by rw [alook_mapT, h.look c hc]; rfl, fun c d r hc => by rw [alook_mapT, h.alone c d r hc]; rfl, fun j hj => ?_, fun c hc => ?_⟩
  · obtain ⟨g, g1, g2, g3⟩ := h.mono j hj
    by_cases hjl : j = l
    · subst hjl
      refine ⟨fun n => if p < g n then g n + 1 else g n, fun a b hab => ?_, by simp [g2], fun c hc => ?_⟩
      · have := g1 a b hab
        simp only []
        split <;> split <;> omega
      · rw [roomL_up hl hj p (room c hc), g3 c hc]
        simp
    · refine ⟨g, g1, g2, fun c hc => ?_⟩
      rw [roomL_up hl hj p (room c hc), if_neg (by simp [hjl])]; exact g3 c hc
  · refine ⟨upW_lt l p (h.bd c hc).1, ?_⟩
    rw [roomL_up hl (.inl rfl) p (room c hc)]
    have hb := h.bd c hc
    split
    · rename_i hc1
      obtain ⟨rfl, _⟩ := hc1
      have := (room c hc).2
      simp [mostW] at this; omega
    · exact hb.2
theorem KeepI.put {T : Tab Nat} {f : Nat → Nat} (h : KeepI T f) {k : List Int} (hk : ∀ c ∈ k, 97 ≤ c ∧ c ≤ 109) (l : List Nat) : KeepI (aput T k l) f := by
  refine ⟨fun c hc => ?_, fun c d r hc => ?_, h.mono, h.bd⟩
  · rw [alook_aput, if_neg, h.look c hc]
    rintro rfl
    have := hk c (by simp)
    unfold keepC at hc; omega
  · rw [alook_aput, if_neg, h.alone c d r hc]
    rintro rfl
    have := hk c (by simp)
    unfold keepC at hc; omega
theorem KeepI.rule {T T' : Tab Nat} {A A' : List Nat} {f : Nat → Nat} (h : KeepI T f) {x : RuleP} (hx : x.rel ≠ 1 → ∀ c ∈ x.seq, 97 ≤ c ∧ c ≤ 109) (h1 : 1 ≤ x.rel) (h5 : x.rel ≤ 5) (hr : ruleS T A x = .ok (T', A')) : ∃ f', KeepI T' f' := by
  unfold ruleS at hr
  split at hr
  · split at hr
    · cases hr
    · cases hr; exact ⟨f, h⟩
  · rename_i hn1
    have hq := hx hn1
    split at hr
    · cases hr
    · rename_i T1 A1 hm
      have hk1 : ∃ f', KeepI T1 f' := by
        split at hm
        · cases hm; exact ⟨f, h⟩
        · rename_i hn5
          have hl : lvl (x.rel - 1) := by unfold lvl; omega
          unfold moveS at hm
          split at hm
          · cases hm
          · split at hm
            · cases hm
            · split at hm
              · cases hm
              · rename_i hh
                cases hm
                exact ⟨_, h.move hl (by simpa using hh) _⟩
      obtain ⟨f', hf'⟩ := hk1
      split at hr
      · cases hr
      · rename_i T2 hw
        cases hr
        unfold withS at hw
        split at hw
        · cases hw
        · split at hw
          · cases hw
          · cases hw
            exact ⟨f', hf'.put hq _⟩
theorem KeepI.go : ∀ {L : List RuleP} {T T' : Tab Nat} {A : List Nat} {b : Bool} {f : Nat → Nat}, KeepI T f → (∀ x ∈ L, x.rel ≠ 1 → ∀ c ∈ x.seq, 97 ≤ c ∧ c ≤ 109) → goS T A b L = .ok T' → ∃ f', KeepI T' f'
  | [], T, T', A, b, f, h, _, hg => by rw [goS] at hg; cases hg; exact ⟨f, h⟩
  | x :: r, T, T', A, b, f, h, hx, hg => by
    rw [goS] at hg
    split at hg
    · cases hg
    · rename_i hn
      split at hg
      · cases hg
      · rename_i T1 A1 hr
        obtain ⟨f', hf'⟩ := h.rule (hx x (by simp)) (by omega) (by omega) hr
        exact KeepI.go hf' (fun y hy => hx y (by simp [hy])) hg

/-- TailorKeeps as lists. -/
theorem keeps_law {L : List RuleP} (hL : ∀ x ∈ L, x.rel ≠ 1 → ∀ c ∈ x.seq, 97 ≤ c ∧ c ≤ 109) {T : Tab Nat} (h : applyS rootS L = .ok T) {a b : List Int} (ha : ∀ c ∈ a, keepC c) (hb : ∀ c ∈ b, keepC c) {l : Int} (hl : lvl l) :
    cmpE l (ofS implW T a) (ofS implW T b) = cmpE l (ofS implW rootS a) (ofS implW rootS b) := by
  have hg : ∃ f, KeepI T f := by
    unfold applyS at h
    split at h
    · cases h
    · rename_i T1 hg
      split at h
      · cases h; exact KeepI.start.go hL hg
      · cases h
  obtain ⟨f, hf⟩ := hg
  obtain ⟨g, g1, g2, g3⟩ := hf.mono l hl
  have hT : ∀ s : List Int, (∀ c ∈ s, keepC c) → ofS implW T s = (s.map xrC).map f := fun s hs => by
    rw [ofS_alone (E := fun c => [f (xrC c)]) hf.look (fun k c r hc => hf.alone c k r hc) s hs]
    induction s with
    | nil => rfl
    | cons c r ih => simp [List.flatMap_cons, ih fun x hx => hs x (by simp [hx])]
  have hR : ∀ s : List Int, (∀ c ∈ s, keepC c) → ofS implW rootS s = s.map xrC := fun s hs => by
    rw [ofS_alone (E := fun c => [xrC c]) (fun c hc => (root_keep hc).1) (fun k c r _ => root_alone c k r) s hs]
    induction s with
    | nil => rfl
    | cons c r ih => simp [List.flatMap_cons, ih fun x hx => hs x (by simp [hx])]
  rw [hT a ha, hT b hb, hR a ha, hR b hb]
  refine cmpE_map f g g1 g2 ?_ ?_
  · intro x hx
    obtain ⟨c, hc, rfl⟩ := List.mem_map.1 hx
    exact g3 c (ha c hc)
  · intro x hx
    obtain ⟨c, hc, rfl⟩ := List.mem_map.1 hx
    exact g3 c (hb c hc)
end Go.Proofs.YtccdkchmeelkfaaGreatDoor
