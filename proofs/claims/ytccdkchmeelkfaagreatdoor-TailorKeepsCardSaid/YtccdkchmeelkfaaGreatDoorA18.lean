/- A rule, and rules, applied. -/
import Derived.Test.YtccdkchmeelkfaaGreatDoorA17
import Derived.Deep.RegionHeld3
import Derived.Test.YtccdkchmeelkfaaGreatDoorA12

/- (W30) tailor's rule. -/
namespace Go.Proofs.YtccdkchmeelkfaaGreatDoor
open Go.RowKit Go.Shelf

/-- What ruleS wants of a rule's signs. -/
structure RuleFit (x : RuleP) : Prop where
  rel : 1 ≤ x.rel ∧ x.rel ≤ 5
  seq : x.seq.length ≤ 1000 ∧ ∀ c ∈ x.seq, i64ok c
  exp : x.exp.length ≤ 60 ∧ ∀ c ∈ x.exp, i64ok c

/-- With, behind a rule's move. -/
def wS (T : Tab Nat) (A : List Nat) (x : RuleP) : Except Int (Tab Nat × List Nat) :=
  match withS T x.seq (A ++ ofS implW T x.exp) with
  | .error e => .error e
  | .ok T2 => .ok (T2, A)
theorem wS_err {T : Tab Nat} {A : List Nat} {x : RuleP} {c : Int} (h : withS T x.seq (A ++ ofS implW T x.exp) = .error c) : wS T A x = .error c := by unfold wS; rw [h]
theorem wS_ok {T T2 : Tab Nat} {A : List Nat} {x : RuleP} (h : withS T x.seq (A ++ ofS implW T x.exp) = .ok T2) : wS T A x = .ok (T2, A) := by unfold wS; rw [h]
theorem ruleS_five {T : Tab Nat} {A : List Nat} {x : RuleP} (h : x.rel = 5) : ruleS T A x = wS T A x := by
  unfold ruleS wS
  rw [if_neg (by omega), if_pos h]
  simp only []
  cases withS T x.seq (A ++ ofS implW T x.exp) <;> rfl
theorem ruleS_moved {T T1 : Tab Nat} {A A1 : List Nat} {x : RuleP} (h1 : x.rel ≠ 1) (h5 : x.rel ≠ 5) (h : moveS T A (x.rel - 1) = .ok (T1, A1)) : ruleS T A x = wS T1 A1 x := by
  unfold ruleS wS
  rw [if_neg h1, if_neg h5, h]
  simp only []
  cases withS T1 x.seq (A1 ++ ofS implW T1 x.exp) <;> rfl
theorem ruleS_err {T : Tab Nat} {A : List Nat} {x : RuleP} {c : Int} (h1 : x.rel ≠ 1) (h5 : x.rel ≠ 5) (h : moveS T A (x.rel - 1) = .error c) : ruleS T A x = .error c := by
  unfold ruleS
  rw [if_neg h1, if_neg h5, h]
theorem cutS_len (l : Int) (A : List Nat) : (cutS l A).length ≤ A.length := by
  unfold cutS
  have := (List.dropWhile_sublist (fun e => wt l e == 0) (l := A.reverse)).length_le
  simpa using this
theorem moveS_cases (T : Tab Nat) (A : List Nat) (l : Int) : (∃ c, moveS T A l = .error c ∧ (c = 1 ∨ c = 60)) ∨ ∃ T1 A1, moveS T A l = .ok (T1, A1) ∧ A1.length ≤ A.length := by
  have hl := cutS_len l A
  unfold moveS
  split
  · exact .inl ⟨1, rfl, .inl rfl⟩
  · rename_i x r hx
    rw [hx] at hl
    split
    · exact .inl ⟨1, rfl, .inl rfl⟩
    · split
      · exact .inl ⟨60, rfl, .inr rfl⟩
      · refine .inr ⟨_, _, rfl, ?_⟩
        simp at hl ⊢; omega
theorem withS_cases (T : Tab Nat) (k : List Int) (l : List Nat) : (∃ c, withS T k l = .error c ∧ (c = 1 ∨ c = 65)) ∨ ∃ T1, withS T k l = .ok T1 := by
  unfold withS
  split
  · exact .inl ⟨1, rfl, .inl rfl⟩
  · split
    · exact .inl ⟨65, rfl, .inr rfl⟩
    · exact .inr ⟨_, rfl⟩
theorem ofS_len {T : Tab Nat} (h : okTab T) (s : List Int) : ∀ n, s.length ≤ n → (ofS implW T s).length ≤ 8 * n := by
  intro n
  induction n generalizing s with
  | zero =>
    intro hs
    have : s = [] := List.eq_nil_of_length_eq_zero (by omega)
    subst this; simp [ofS_nil]
  | succ n ih =>
    intro hs
    by_cases h0 : s = []
    · subst h0; simp [ofS_nil]
    · have hp := atS_pos implW T h0
      have h8 := atS_len h s
      rw [ofS_cons implW T h0, List.length_append]
      have := ih (s.drop (atS implW T s).2) (by rw [List.length_drop]; omega)
      omega

set_option maxRecDepth 100000 in
set_option maxHeartbeats 4000000 in
theorem rule_any (w : World) (wb : Nat) (p av : Value) (T : Tab Nat) (A : List Nat) (h : WkAt w wb p av T A) (sv ev : Value) (x : RuleP) (hf : RuleFit x) (hs : SlI w sv x.seq) (he : SlI w ev x.exp) (hA : A.length ≤ 8) :
    Calls Tryz.prog 55 #[.pointer (some ⟨wb, 0, none⟩), .agg #[.int .i64 x.rel, sv, ev]] w (WkRet (ruleS T A x) w wb) := by
  have hwb := h.lt
  obtain ⟨tb0, rfl⟩ := h.tab.ptr
  obtain ⟨aa, ac, rfl, hac, _, _⟩ := h.anc.open
  obtain ⟨sa, sc, rfl, hsc, _, _⟩ := hs.open
  obtain ⟨ea, ec, rfl, hec, _, _⟩ := he.open
  obtain ⟨rel, seq, exp⟩ := x
  obtain ⟨⟨hr1, hr5⟩, ⟨hsn, hs64⟩, ⟨hen, he64⟩⟩ := hf
  simp only at *
  have b0 := (Below.refl w.heap.size w).alloc (Nat.le_refl _) (.cells #[.int .i64 rel, .slice sa seq.length sc, .slice ea exp.length ec] 110)
  have h0 := h.below b0
  have hbx := heap_alloc_last w (.cells #[.int .i64 rel, .slice sa seq.length sc, .slice ea exp.length ec] 110)
  have c0 := cell_of_block (i := 0) h0.blk rfl
  have c1 := cell_of_block (i := 1) h0.blk rfl
  have f1 : (w.alloc (.cells #[.int .i64 rel, .slice sa seq.length sc, .slice ea exp.length ec] 110)).frozen? ⟨wb, 1, none⟩ = false := frozen_of_block h0.blk
  have H := Lib.hid (And.intro h0 (And.intro (hs.below b0) (And.intro (he.below b0) (And.intro hbx (And.intro hs64 (And.intro he64 b0))))))
  clear h hs he h0 hbx hs64 he64 b0
  by_cases h1 : rel = 1
  · subst h1
    obtain ⟨W0, hW0⟩ : ∃ W0, w.alloc (.cells #[.int .i64 1, .slice sa seq.length sc, .slice ea exp.length ec] 110) = W0 := ⟨_, rfl⟩
    have hsz0 : W0.heap.size = w.heap.size + 1 := by rw [← hW0]; simp
    have r0 := cell_of_block (i := 0) H.out.2.2.2.1 rfl
    have r1 := cell_of_block (i := 1) H.out.2.2.2.1 rfl
    rw [hW0] at H c0 c1 f1 r0 r1
    have hof := fun W' (hb : Below W0.heap.size W0 W') => of_tab W' _ _ T (H.out.1.tab.below hb) seq (H.out.2.1.below hb) H.out.2.2.2.2.1 (by omega)
    have hwb0 : wb < W0.heap.size := by omega
    have hxb0 : w.heap.size < W0.heap.size := by omega
    go_enter Tryz.func55, Tryz.ntmps55
    go_wp2_with fail
    try rw [hW0]
    clear hW0
    have HOF := Lib.hid hof
    clear hof
    go_region_held3 (fun w' => w'.cell? ⟨wb, 0, none⟩ = some (.pointer (some ⟨tb0, 0, none⟩)) ∧ w'.cell? ⟨w.heap.size, 1, none⟩ = some (.slice sa seq.length sc)) (first | go_keep | (refine ⟨(World.cell?_setCell_other _ _ _ _ ?_).trans (by assumption), (World.cell?_setCell_other _ _ _ _ ?_).trans (by assumption)⟩ <;> (intro h; simp at h; try omega))) (first | (go_at_call 92; refine (HOF.out _ (Below.drewN (Below.refl _ _) 1)).mono ?_; rintro e w1 ⟨lv, rfl, hlv, hb1⟩; have k0 := (hb1.cell (p := ⟨wb, 0, none⟩) hwb0).trans c0; have k1 := (hb1.cell (p := ⟨w.heap.size, 1, none⟩) hxb0).trans r1; have k2 := (hb1.cell (p := ⟨wb, 1, none⟩) hwb0).trans c1; have k3 := (hb1.frozen (p := ⟨wb, 1, none⟩) hwb0).trans f1; have HL := Lib.hid (And.intro hlv (Below.next (Below.drewN (Below.refl W0.heap.size W0) 1) hb1)); obtain ⟨la, lc, rfl, hlc, _, _⟩ := hlv.open; clear hlv hb1))
    have hbk1 := blk_below H.out.1.blk HL.out.2
    have hgs := grownBy_setCell w1 wb 1 (.slice la (ofS implW T seq).length lc)
    have hT1 := (H.out.1.tab.below HL.out.2).off hgs hbk1
    have hA1 := HL.out.1.off hgs hbk1
    have hbk2 := heap_setCell (i := 1) (.slice la (ofS implW T seq).length lc) hbk1
    have hg2 := ((grown_below (Below.next H.out.2.2.2.2.2.2 HL.out.2)).but (some wb)).trans hgs
    have HR := Lib.hid (And.intro hT1 (And.intro hA1 (And.intro hbk2 hg2)))
    have hrs : ruleS T A ⟨1, seq, exp⟩ = if 8 < (ofS implW T seq).length then .error 1 else .ok (T, ofS implW T seq) := by unfold ruleS; rw [if_pos rfl]
    have HS := Lib.hid hrs
    clear hbk1 hgs hT1 hA1 hbk2 hg2 hrs
    by_cases h8 : 8 < (ofS implW T seq).length
    · go_wp2_with fail
      go_ret
      exact ⟨HR.out.2.2.2, by rw [HS.out, if_pos h8]; rfl⟩
    · go_wp2_with fail
      go_ret
      refine ⟨HR.out.2.2.2, ?_⟩
      rw [HS.out, if_neg h8]
      exact ⟨rfl, _, _, HR.out.2.2.1, HR.out.1, HR.out.2.1, (by show (ofS implW T seq).length ≤ 1000; omega)⟩
  · have h1' : (rel == 1) = false := by simpa using h1
    obtain ⟨W0, hW0⟩ : ∃ W0, w.alloc (.cells #[.int .i64 rel, .slice sa seq.length sc, .slice ea exp.length ec] 110) = W0 := ⟨_, rfl⟩
    have hsz0 : W0.heap.size = w.heap.size + 1 := by rw [← hW0]; simp
    have r0 := cell_of_block (i := 0) H.out.2.2.2.1 rfl
    rw [hW0] at H c0 c1 f1 r0
    have hwb0 : wb < W0.heap.size := by omega
    have H1 := Lib.hid h1
    have H64 := Lib.hid (And.intro H.out.2.2.2.2.1 H.out.2.2.2.2.2.1)
    clear h1
    have hbw0 := H.out.2.2.2.2.2.2
    by_cases h5 : rel = 5
    · have h5' : (rel != 5) = false := by simpa using h5
      have HRS := Lib.hid (ruleS_five (T := T) (A := A) (x := ⟨rel, seq, exp⟩) h5)
      have HW := Lib.hid (And.intro H.out.1 (And.intro H.out.2.1 (And.intro H.out.2.2.1 (And.intro H.out.2.2.2.1 ((grown_below hbw0).but (some wb))))))
      clear h5 H hbw0
      go_enter Tryz.func55, Tryz.ntmps55
      go_wp2_with fail
      try rw [hW0]
      clear hW0 c0 c1 f1 r0
      obtain ⟨hWk, hsl, hel, hbx, hgw⟩ := HW.out
      have hTok : okTab T := by obtain ⟨_, _, _, _, _, _, _, _, _, _, _, h⟩ := hWk.tab; exact h
      have hexl := ofS_len hTok exp 60 hen
      have hwbW := hWk.lt
      have hbxW := (Array.getElem?_eq_some_iff.1 hbx).1
      have x0 := cell_of_block (i := 0) hWk.blk rfl
      have x1 := cell_of_block (i := 1) hWk.blk rfl
      have y1 := cell_of_block (i := 1) hbx rfl
      have y2 := cell_of_block (i := 2) hbx rfl
      have z0 : W0.frozen? ⟨wb, 0, none⟩ = false := frozen_of_block hWk.blk
      have hof := fun W' (hb : Below W0.heap.size W0 W') => of_tab W' _ _ T (hWk.tab.below hb) exp (hel.below hb) H64.out.2 (by omega)
      have hcl : (A ++ ofS implW T exp).length ≤ 1000000000 := by rw [List.length_append]; omega
      have hwi := fun W' cv (hb : Below W0.heap.size W0 W') (hc : SlE W' cv (A ++ ofS implW T exp)) => withT_any W' _ _ cv T (hWk.tab.below hb) seq (hsl.below hb) (by omega) _ hc hcl
      have hca := fun W' g ov (c0 : W'.cell? ⟨g, 0, none⟩ = some (.slice aa A.length ac)) (c1 : W'.cell? ⟨g, 1, none⟩ = some ov) (hg : g < W'.heap.size) (hb : Below W0.heap.size W0 W') (ho : SlE W' ov (ofS implW T exp)) => concat_any W' g _ ov A (ofS implW T exp) c0 c1 hg (hWk.anc.below hb) ho (by omega) (by omega)
      have hres := withS_cases T seq (A ++ ofS implW T exp)
      have hwse := fun c => wS_err (T := T) (A := A) (x := ⟨rel, seq, exp⟩) (c := c)
      have hwso := fun T2 => wS_ok (T := T) (A := A) (x := ⟨rel, seq, exp⟩) (T2 := T2)
      simp only at hwse hwso
      obtain ⟨C, hCe⟩ : ∃ C, A ++ ofS implW T exp = C := ⟨_, rfl⟩
      rw [hCe] at hcl hres
      simp only [hCe] at hwi hca hwse hwso
      have HC := Lib.hid (And.intro hof (And.intro hwi hca))
      have HWS := Lib.hid (And.intro hwse hwso)
      have HK := Lib.hid (And.intro hWk hgw)
      clear hWk hsl hel hbx hgw hTok hof hwi hca hwse hwso hCe hcl
      rcases hres with ⟨c, hc, hc0⟩ | ⟨T2, hc⟩
      · have HE := Lib.hid (HWS.out.1 c hc)
        have hcz : (c == 0) = false := by simp; omega
        have HC2 := Lib.hid hc
        clear hc hc0
        go_region_held3 (fun w' => w'.cell? ⟨wb, 0, none⟩ = some (.pointer (some ⟨tb0, 0, none⟩)) ∧ w'.cell? ⟨wb, 1, none⟩ = some (.slice aa A.length ac) ∧ w'.cell? ⟨w.heap.size, 1, none⟩ = some (.slice sa seq.length sc) ∧ w'.cell? ⟨w.heap.size, 2, none⟩ = some (.slice ea exp.length ec)) (go_keep)
          (first
            | (go_at_call 92; refine (HC.out.1 _ (Below.drewN (Below.refl _ _) 1)).mono ?_; rintro e w2 ⟨ov, rfl, hov, hb2⟩; have hb2 := Below.next (Below.drewN (Below.refl W0.heap.size W0) 1) hb2; have k0 := (hb2.cell (p := ⟨wb, 0, none⟩) hwbW).trans x0; have k1 := (hb2.cell (p := ⟨wb, 1, none⟩) hwbW).trans x1; have k2 := (hb2.cell (p := ⟨w.heap.size, 1, none⟩) hbxW).trans y1; have k3 := (hb2.cell (p := ⟨w.heap.size, 2, none⟩) hbxW).trans y2; have hbxz2 := Nat.lt_of_lt_of_le hbxW hb2.size; have hwbz2 := Nat.lt_of_lt_of_le hwbW hb2.size; have HO := Lib.hid (And.intro hov hb2); obtain ⟨oa, oc, rfl, hoc, hon, hoo⟩ := hov.open; have hcc := HC.out.2.2 (w2.alloc (.cells #[.slice aa A.length ac, .slice oa (ofS implW T exp).length oc] 43)) w2.heap.size (.slice oa (ofS implW T exp).length oc) (cell_of_block (heap_alloc_last w2 _) rfl) (cell_of_block (heap_alloc_last w2 _) rfl) (by simp) (hb2.alloc hb2.size _) (hov.below ((Below.refl w2.heap.size w2).alloc (Nat.le_refl _) _)); clear hov hb2 hon hoo)
            | (go_at_call 100; refine hcc.mono ?_; rintro e w3 ⟨cv, rfl, hcv, hb3⟩; have hb3 := Below.next (HO.out.2.alloc HO.out.2.size _) hb3; have j0 := (hb3.cell (p := ⟨wb, 0, none⟩) hwbW).trans x0; have j1 := (hb3.cell (p := ⟨wb, 1, none⟩) hwbW).trans x1; have j2 := (hb3.cell (p := ⟨w.heap.size, 1, none⟩) hbxW).trans y1; have j3 := (hb3.cell (p := ⟨w.heap.size, 2, none⟩) hbxW).trans y2; have hwi := HC.out.2.1 _ cv hb3 hcv; rw [HC2.out] at hwi; have HI := Lib.hid hb3; obtain ⟨va, vc, rfl, hvc, hvn, hvo⟩ := hcv.open; clear hcv hb3 hvn hvo hcc)
            | (go_at_call 99; refine hwi.mono ?_; rintro e w4 ⟨hb4, rfl⟩; have hb4 := Below.next HI.out hb4; have i0 := (hb4.cell (p := ⟨wb, 0, none⟩) hwbW).trans x0; have i1 := (hb4.cell (p := ⟨wb, 1, none⟩) hwbW).trans x1; have i2 := (hb4.cell (p := ⟨w.heap.size, 1, none⟩) hbxW).trans y1; have i3 := (hb4.cell (p := ⟨w.heap.size, 2, none⟩) hbxW).trans y2; have g0 := (hb4.frozen (p := ⟨wb, 0, none⟩) hwbW).trans z0; have HJ := Lib.hid hb4; clear hb4 hwi))
        go_wp2_with fail
        go_ret
        exact ⟨HK.out.2.trans ((grown_below HJ.out).but _), by rw [HRS.out, HE.out]; rfl⟩
      · have HE := Lib.hid (HWS.out.2 T2 hc)
        have HC2 := Lib.hid hc
        clear hc
        go_region_held3 (fun w' => w'.cell? ⟨wb, 0, none⟩ = some (.pointer (some ⟨tb0, 0, none⟩)) ∧ w'.cell? ⟨wb, 1, none⟩ = some (.slice aa A.length ac) ∧ w'.cell? ⟨w.heap.size, 1, none⟩ = some (.slice sa seq.length sc) ∧ w'.cell? ⟨w.heap.size, 2, none⟩ = some (.slice ea exp.length ec)) (go_keep)
          (first
            | (go_at_call 92; refine (HC.out.1 _ (Below.drewN (Below.refl _ _) 1)).mono ?_; rintro e w2 ⟨ov, rfl, hov, hb2⟩; have hb2 := Below.next (Below.drewN (Below.refl W0.heap.size W0) 1) hb2; have k0 := (hb2.cell (p := ⟨wb, 0, none⟩) hwbW).trans x0; have k1 := (hb2.cell (p := ⟨wb, 1, none⟩) hwbW).trans x1; have k2 := (hb2.cell (p := ⟨w.heap.size, 1, none⟩) hbxW).trans y1; have k3 := (hb2.cell (p := ⟨w.heap.size, 2, none⟩) hbxW).trans y2; have hbxz2 := Nat.lt_of_lt_of_le hbxW hb2.size; have hwbz2 := Nat.lt_of_lt_of_le hwbW hb2.size; have HO := Lib.hid (And.intro hov hb2); obtain ⟨oa, oc, rfl, hoc, hon, hoo⟩ := hov.open; have hcc := HC.out.2.2 (w2.alloc (.cells #[.slice aa A.length ac, .slice oa (ofS implW T exp).length oc] 43)) w2.heap.size (.slice oa (ofS implW T exp).length oc) (cell_of_block (heap_alloc_last w2 _) rfl) (cell_of_block (heap_alloc_last w2 _) rfl) (by simp) (hb2.alloc hb2.size _) (hov.below ((Below.refl w2.heap.size w2).alloc (Nat.le_refl _) _)); clear hov hb2 hon hoo)
            | (go_at_call 100; refine hcc.mono ?_; rintro e w3 ⟨cv, rfl, hcv, hb3⟩; have hb3 := Below.next (HO.out.2.alloc HO.out.2.size _) hb3; have j0 := (hb3.cell (p := ⟨wb, 0, none⟩) hwbW).trans x0; have j1 := (hb3.cell (p := ⟨wb, 1, none⟩) hwbW).trans x1; have j2 := (hb3.cell (p := ⟨w.heap.size, 1, none⟩) hbxW).trans y1; have j3 := (hb3.cell (p := ⟨w.heap.size, 2, none⟩) hbxW).trans y2; have hwi := HC.out.2.1 _ cv hb3 hcv; rw [HC2.out] at hwi; have HI := Lib.hid hb3; obtain ⟨va, vc, rfl, hvc, hvn, hvo⟩ := hcv.open; clear hcv hb3 hvn hvo hcc)
            | (go_at_call 99; refine hwi.mono ?_; rintro e w4 ⟨hb4, p4, rfl, hT4⟩; have hb4 := Below.next HI.out hb4; obtain ⟨tb4, rfl⟩ := hT4.ptr; have HT4 := Lib.hid hT4; have i0 := (hb4.cell (p := ⟨wb, 0, none⟩) hwbW).trans x0; have i1 := (hb4.cell (p := ⟨wb, 1, none⟩) hwbW).trans x1; have i2 := (hb4.cell (p := ⟨w.heap.size, 1, none⟩) hbxW).trans y1; have i3 := (hb4.cell (p := ⟨w.heap.size, 2, none⟩) hbxW).trans y2; have g0 := (hb4.frozen (p := ⟨wb, 0, none⟩) hwbW).trans z0; have HJ := Lib.hid hb4; clear hb4 hwi hT4))
        go_wp2_with fail
        go_ret
        have hbk4 := blk_below HK.out.1.blk HJ.out
        have hgs := grownBy_setCell w4 wb 0 (.pointer (some ⟨tb4, 0, none⟩))
        refine ⟨(HK.out.2.trans ((grown_below HJ.out).but _)).trans hgs, ?_⟩
        rw [HRS.out, HE.out]
        exact ⟨rfl, _, _, heap_setCell _ hbk4, HT4.out.off hgs hbk4, (HK.out.1.anc.below HJ.out).off hgs hbk4, by show A.length ≤ 1000; omega⟩
    · have h5' : (rel != 5) = true := by simpa using h5
      have hmv := move_any W0 wb _ _ T A H.out.1 (rel - 1) (by have := H1.out; omega)
      have H5 := Lib.hid h5
      rcases moveS_cases T A (rel - 1) with ⟨c, hc, hc0⟩ | ⟨T1, A1, hc, hA1⟩
      · have HRS := Lib.hid (ruleS_err (T := T) (A := A) (x := ⟨rel, seq, exp⟩) H1.out h5 hc)
        rw [hc] at hmv
        have hc1 : (c != 0) = true := by simp; omega
        clear h5 hc hc0 H
        go_enter Tryz.func55, Tryz.ntmps55
        go_wp2_with fail
        try rw [hW0]
        clear hW0
        rw [show rel - 2 + 1 = rel - 1 by omega]
        refine hmv.mono ?_
        clear hmv
        rintro e w1 ⟨hg1, rfl⟩
        have HG := Lib.hid hg1
        clear hg1
        go_wp2_with fail
        go_ret
        exact ⟨((grown_below hbw0).but _).trans HG.out, by rw [HRS.out]; rfl⟩
      · have HRS := Lib.hid (ruleS_moved (T := T) (A := A) (x := ⟨rel, seq, exp⟩) H1.out h5 hc)
        rw [hc] at hmv
        have hA8 : A1.length ≤ 8 := by omega
        have HH := Lib.hid (And.intro H.out.1.blk (And.intro H.out.2.1 (And.intro H.out.2.2.1 (And.intro H.out.2.2.2.1 hbw0))))
        clear hc hA1 H h5
        go_enter Tryz.func55, Tryz.ntmps55
        go_wp2_with fail
        try rw [hW0]
        clear hW0 c0 c1 f1 r0 hbw0
        rw [show rel - 2 + 1 = rel - 1 by omega]
        refine hmv.mono ?_
        clear hmv
        rintro e w1 ⟨hg1, rfl, p1, av1, hW1⟩
        obtain ⟨tb1, rfl⟩ := hW1.tab.ptr
        obtain ⟨aa1, ac1, rfl, hac1, _, _⟩ := hW1.anc.open
        have HW := Lib.hid (And.intro hW1 (And.intro (HH.out.2.1.off hg1 HH.out.1) (And.intro (HH.out.2.2.1.off hg1 HH.out.1) (And.intro (blk_grown HH.out.2.2.2.1 hg1 (by omega)) (((grown_below HH.out.2.2.2.2).but (some wb)).trans hg1)))))
        clear hg1 hW1 HH
        go_wp2_with fail
        obtain ⟨hWk, hsl, hel, hbx, hgw⟩ := HW.out
        have hTok : okTab T1 := by obtain ⟨_, _, _, _, _, _, _, _, _, _, _, h⟩ := hWk.tab; exact h
        have hexl := ofS_len hTok exp 60 hen
        have hwbW := hWk.lt
        have hbxW := (Array.getElem?_eq_some_iff.1 hbx).1
        have x0 := cell_of_block (i := 0) hWk.blk rfl
        have x1 := cell_of_block (i := 1) hWk.blk rfl
        have y1 := cell_of_block (i := 1) hbx rfl
        have y2 := cell_of_block (i := 2) hbx rfl
        have z0 : w1.frozen? ⟨wb, 0, none⟩ = false := frozen_of_block hWk.blk
        have hof := fun W' (hb : Below w1.heap.size w1 W') => of_tab W' _ _ T1 (hWk.tab.below hb) exp (hel.below hb) H64.out.2 (by omega)
        have hcl : (A1 ++ ofS implW T1 exp).length ≤ 1000000000 := by rw [List.length_append]; omega
        have hwi := fun W' cv (hb : Below w1.heap.size w1 W') (hc : SlE W' cv (A1 ++ ofS implW T1 exp)) => withT_any W' _ _ cv T1 (hWk.tab.below hb) seq (hsl.below hb) (by omega) _ hc hcl
        have hca := fun W' g ov (c0 : W'.cell? ⟨g, 0, none⟩ = some (.slice aa1 A1.length ac1)) (c1 : W'.cell? ⟨g, 1, none⟩ = some ov) (hg : g < W'.heap.size) (hb : Below w1.heap.size w1 W') (ho : SlE W' ov (ofS implW T1 exp)) => concat_any W' g _ ov A1 (ofS implW T1 exp) c0 c1 hg (hWk.anc.below hb) ho (by omega) (by omega)
        have hres := withS_cases T1 seq (A1 ++ ofS implW T1 exp)
        have hwse := fun c => wS_err (T := T1) (A := A1) (x := ⟨rel, seq, exp⟩) (c := c)
        have hwso := fun T2 => wS_ok (T := T1) (A := A1) (x := ⟨rel, seq, exp⟩) (T2 := T2)
        simp only at hwse hwso
        obtain ⟨C, hCe⟩ : ∃ C, A1 ++ ofS implW T1 exp = C := ⟨_, rfl⟩
        rw [hCe] at hcl hres
        simp only [hCe] at hwi hca hwse hwso
        have HC := Lib.hid (And.intro hof (And.intro hwi hca))
        have HWS := Lib.hid (And.intro hwse hwso)
        have HK := Lib.hid (And.intro hWk hgw)
        clear hWk hsl hel hbx hgw hTok hof hwi hca hwse hwso hCe hcl
        rcases hres with ⟨c, hc, hc0⟩ | ⟨T2, hc⟩
        · have HE := Lib.hid (HWS.out.1 c hc)
          have hcz : (c == 0) = false := by simp; omega
          have HC2 := Lib.hid hc
          clear hc hc0
          go_region_held3 (fun w' => w'.cell? ⟨wb, 0, none⟩ = some (.pointer (some ⟨tb1, 0, none⟩)) ∧ w'.cell? ⟨wb, 1, none⟩ = some (.slice aa1 A1.length ac1) ∧ w'.cell? ⟨w.heap.size, 1, none⟩ = some (.slice sa seq.length sc) ∧ w'.cell? ⟨w.heap.size, 2, none⟩ = some (.slice ea exp.length ec)) (go_keep)
            (first
              | (go_at_call 92; refine (HC.out.1 _ (Below.drewN (Below.refl _ _) 1)).mono ?_; rintro e w2 ⟨ov, rfl, hov, hb2⟩; have hb2 := Below.next (Below.drewN (Below.refl w1.heap.size w1) 1) hb2; have k0 := (hb2.cell (p := ⟨wb, 0, none⟩) hwbW).trans x0; have k1 := (hb2.cell (p := ⟨wb, 1, none⟩) hwbW).trans x1; have k2 := (hb2.cell (p := ⟨w.heap.size, 1, none⟩) hbxW).trans y1; have k3 := (hb2.cell (p := ⟨w.heap.size, 2, none⟩) hbxW).trans y2; have hbxz2 := Nat.lt_of_lt_of_le hbxW hb2.size; have hwbz2 := Nat.lt_of_lt_of_le hwbW hb2.size; have HO := Lib.hid (And.intro hov hb2); obtain ⟨oa, oc, rfl, hoc, hon, hoo⟩ := hov.open; have hcc := HC.out.2.2 (w2.alloc (.cells #[.slice aa1 A1.length ac1, .slice oa (ofS implW T1 exp).length oc] 43)) w2.heap.size (.slice oa (ofS implW T1 exp).length oc) (cell_of_block (heap_alloc_last w2 _) rfl) (cell_of_block (heap_alloc_last w2 _) rfl) (by simp) (hb2.alloc hb2.size _) (hov.below ((Below.refl w2.heap.size w2).alloc (Nat.le_refl _) _)); clear hov hb2 hon hoo)
              | (go_at_call 100; refine hcc.mono ?_; rintro e w3 ⟨cv, rfl, hcv, hb3⟩; have hb3 := Below.next (HO.out.2.alloc HO.out.2.size _) hb3; have j0 := (hb3.cell (p := ⟨wb, 0, none⟩) hwbW).trans x0; have j1 := (hb3.cell (p := ⟨wb, 1, none⟩) hwbW).trans x1; have j2 := (hb3.cell (p := ⟨w.heap.size, 1, none⟩) hbxW).trans y1; have j3 := (hb3.cell (p := ⟨w.heap.size, 2, none⟩) hbxW).trans y2; have hwi := HC.out.2.1 _ cv hb3 hcv; rw [HC2.out] at hwi; have HI := Lib.hid hb3; obtain ⟨va, vc, rfl, hvc, hvn, hvo⟩ := hcv.open; clear hcv hb3 hvn hvo hcc)
              | (go_at_call 99; refine hwi.mono ?_; rintro e w4 ⟨hb4, rfl⟩; have hb4 := Below.next HI.out hb4; have i0 := (hb4.cell (p := ⟨wb, 0, none⟩) hwbW).trans x0; have i1 := (hb4.cell (p := ⟨wb, 1, none⟩) hwbW).trans x1; have i2 := (hb4.cell (p := ⟨w.heap.size, 1, none⟩) hbxW).trans y1; have i3 := (hb4.cell (p := ⟨w.heap.size, 2, none⟩) hbxW).trans y2; have g0 := (hb4.frozen (p := ⟨wb, 0, none⟩) hwbW).trans z0; have HJ := Lib.hid hb4; clear hb4 hwi))
          go_wp2_with fail
          go_ret
          exact ⟨HK.out.2.trans ((grown_below HJ.out).but _), by rw [HRS.out, HE.out]; rfl⟩
        · have HE := Lib.hid (HWS.out.2 T2 hc)
          have HC2 := Lib.hid hc
          clear hc
          go_region_held3 (fun w' => w'.cell? ⟨wb, 0, none⟩ = some (.pointer (some ⟨tb1, 0, none⟩)) ∧ w'.cell? ⟨wb, 1, none⟩ = some (.slice aa1 A1.length ac1) ∧ w'.cell? ⟨w.heap.size, 1, none⟩ = some (.slice sa seq.length sc) ∧ w'.cell? ⟨w.heap.size, 2, none⟩ = some (.slice ea exp.length ec)) (go_keep)
            (first
              | (go_at_call 92; refine (HC.out.1 _ (Below.drewN (Below.refl _ _) 1)).mono ?_; rintro e w2 ⟨ov, rfl, hov, hb2⟩; have hb2 := Below.next (Below.drewN (Below.refl w1.heap.size w1) 1) hb2; have k0 := (hb2.cell (p := ⟨wb, 0, none⟩) hwbW).trans x0; have k1 := (hb2.cell (p := ⟨wb, 1, none⟩) hwbW).trans x1; have k2 := (hb2.cell (p := ⟨w.heap.size, 1, none⟩) hbxW).trans y1; have k3 := (hb2.cell (p := ⟨w.heap.size, 2, none⟩) hbxW).trans y2; have hbxz2 := Nat.lt_of_lt_of_le hbxW hb2.size; have hwbz2 := Nat.lt_of_lt_of_le hwbW hb2.size; have HO := Lib.hid (And.intro hov hb2); obtain ⟨oa, oc, rfl, hoc, hon, hoo⟩ := hov.open; have hcc := HC.out.2.2 (w2.alloc (.cells #[.slice aa1 A1.length ac1, .slice oa (ofS implW T1 exp).length oc] 43)) w2.heap.size (.slice oa (ofS implW T1 exp).length oc) (cell_of_block (heap_alloc_last w2 _) rfl) (cell_of_block (heap_alloc_last w2 _) rfl) (by simp) (hb2.alloc hb2.size _) (hov.below ((Below.refl w2.heap.size w2).alloc (Nat.le_refl _) _)); clear hov hb2 hon hoo)
              | (go_at_call 100; refine hcc.mono ?_; rintro e w3 ⟨cv, rfl, hcv, hb3⟩; have hb3 := Below.next (HO.out.2.alloc HO.out.2.size _) hb3; have j0 := (hb3.cell (p := ⟨wb, 0, none⟩) hwbW).trans x0; have j1 := (hb3.cell (p := ⟨wb, 1, none⟩) hwbW).trans x1; have j2 := (hb3.cell (p := ⟨w.heap.size, 1, none⟩) hbxW).trans y1; have j3 := (hb3.cell (p := ⟨w.heap.size, 2, none⟩) hbxW).trans y2; have hwi := HC.out.2.1 _ cv hb3 hcv; rw [HC2.out] at hwi; have HI := Lib.hid hb3; obtain ⟨va, vc, rfl, hvc, hvn, hvo⟩ := hcv.open; clear hcv hb3 hvn hvo hcc)
              | (go_at_call 99; refine hwi.mono ?_; rintro e w4 ⟨hb4, p4, rfl, hT4⟩; have hb4 := Below.next HI.out hb4; obtain ⟨tb4, rfl⟩ := hT4.ptr; have HT4 := Lib.hid hT4; have i0 := (hb4.cell (p := ⟨wb, 0, none⟩) hwbW).trans x0; have i1 := (hb4.cell (p := ⟨wb, 1, none⟩) hwbW).trans x1; have i2 := (hb4.cell (p := ⟨w.heap.size, 1, none⟩) hbxW).trans y1; have i3 := (hb4.cell (p := ⟨w.heap.size, 2, none⟩) hbxW).trans y2; have g0 := (hb4.frozen (p := ⟨wb, 0, none⟩) hwbW).trans z0; have HJ := Lib.hid hb4; clear hb4 hwi hT4))
          go_wp2_with fail
          go_ret
          have hbk4 := blk_below HK.out.1.blk HJ.out
          have hgs := grownBy_setCell w4 wb 0 (.pointer (some ⟨tb4, 0, none⟩))
          refine ⟨(HK.out.2.trans ((grown_below HJ.out).but _)).trans hgs, ?_⟩
          rw [HRS.out, HE.out]
          exact ⟨rfl, _, _, heap_setCell _ hbk4, HT4.out.off hgs hbk4, (HK.out.1.anc.below HJ.out).off hgs hbk4, by show A1.length ≤ 1000; omega⟩
end Go.Proofs.YtccdkchmeelkfaaGreatDoor

/- (W31) tailor.Apply. -/
namespace Go.Proofs.YtccdkchmeelkfaaGreatDoor
open Go.RowKit Go.Shelf

/-- Rules that Apply takes: their signs are few. -/
def FitL (L : List RuleP) : Prop := ∀ x ∈ L, i64ok x.rel ∧ (x.seq.length ≤ 1000 ∧ ∀ c ∈ x.seq, i64ok c) ∧ (x.exp.length ≤ 60 ∧ ∀ c ∈ x.exp, i64ok c)
/-- What Apply tells. -/
def ApplyRet (r : Except Int (Tab Nat)) (w : World) (e : Ending) (w' : World) : Prop :=
  Below w.heap.size w w' ∧ match r with
    | .error c => e = .returned (.tuple #[.pointer none, .int .i64 c])
    | .ok T => ∃ p, e = .returned (.tuple #[p, .int .i64 0]) ∧ TableAt w' p T

theorem ruleS_len {T T1 : Tab Nat} {A A1 : List Nat} {x : RuleP} (h : ruleS T A x = .ok (T1, A1)) (hA : A.length ≤ 8) : A1.length ≤ 8 := by
  by_cases h1 : x.rel = 1
  · unfold ruleS at h
    rw [if_pos h1] at h
    split at h
    · cases h
    · cases h; omega
  · have key : ∀ {T A}, A.length ≤ 8 → wS T A x = .ok (T1, A1) → A1.length ≤ 8 := by
      intro T A hA h
      unfold wS at h
      split at h
      · cases h
      · cases h; exact hA
    by_cases h5 : x.rel = 5
    · rw [ruleS_five h5] at h; exact key hA h
    · rcases moveS_cases T A (x.rel - 1) with ⟨c, hc, _⟩ | ⟨T2, A2, hc, hA2⟩
      · rw [ruleS_err h1 h5 hc] at h; cases h
      · rw [ruleS_moved h1 h5 hc] at h; exact key (by omega) h
theorem ruleS_cases (T : Tab Nat) (A : List Nat) (x : RuleP) : (∃ c, ruleS T A x = .error c ∧ c ≠ 0) ∨ ∃ T1 A1, ruleS T A x = .ok (T1, A1) := by
  by_cases h1 : x.rel = 1
  · unfold ruleS
    rw [if_pos h1]
    split
    · exact .inl ⟨1, rfl, by decide⟩
    · exact .inr ⟨_, _, rfl⟩
  · have key : ∀ T A, (∃ c, wS T A x = .error c ∧ c ≠ 0) ∨ ∃ T1 A1, wS T A x = .ok (T1, A1) := by
      intro T A
      rcases withS_cases T x.seq (A ++ ofS implW T x.exp) with ⟨c, hc, hc0⟩ | ⟨T2, hc⟩
      · exact .inl ⟨c, wS_err hc, by omega⟩
      · exact .inr ⟨_, _, wS_ok hc⟩
    by_cases h5 : x.rel = 5
    · rw [ruleS_five h5]; exact key T A
    · rcases moveS_cases T A (x.rel - 1) with ⟨c, hc, hc0⟩ | ⟨T2, A2, hc, _⟩
      · exact .inl ⟨c, ruleS_err h1 h5 hc, by omega⟩
      · rw [ruleS_moved h1 h5 hc]; exact key T2 A2
theorem goS_bad {T : Tab Nat} {A : List Nat} {b : Bool} {x : RuleP} {r : List RuleP} (h : (b || x.rel == 1) = false ∨ x.rel < 1 ∨ 5 < x.rel) : goS T A b (x :: r) = .error 1 := by rw [goS, if_pos h]
theorem goS_err {T : Tab Nat} {A : List Nat} {b : Bool} {x : RuleP} {r : List RuleP} {c : Int} (h : ¬ ((b || x.rel == 1) = false ∨ x.rel < 1 ∨ 5 < x.rel)) (hr : ruleS T A x = .error c) : goS T A b (x :: r) = .error c := by rw [goS, if_neg h, hr]
theorem goS_ok {T T1 : Tab Nat} {A A1 : List Nat} {b : Bool} {x : RuleP} {r : List RuleP} (h : ¬ ((b || x.rel == 1) = false ∨ x.rel < 1 ∨ 5 < x.rel)) (hr : ruleS T A x = .ok (T1, A1)) : goS T A b (x :: r) = goS T1 A1 true r := by
  rw [goS, if_neg h, hr]
  have : (b || x.rel == 1) = true := by cases hb : (b || x.rel == 1) with | true => rfl | false => exact absurd (.inl hb) h
  rw [this]
theorem encR_at {E : List RulM} {k : Nat} {x : RulM} (h : E[k]? = some x) : (E.flatMap encR)[k * 3]? = some (.int .i64 x.r.rel) ∧ (E.flatMap encR)[k * 3 + 1]? = some x.sv ∧ (E.flatMap encR)[k * 3 + 2]? = some x.ev :=
  ⟨by have := flatMap_at (enc := encR) (fun _ => rfl) h (show 0 < 3 by decide); simpa [encR] using this, by have := flatMap_at (enc := encR) (fun _ => rfl) h (show 1 < 3 by decide); simpa [encR] using this, by have := flatMap_at (enc := encR) (fun _ => rfl) h (show 2 < 3 by decide); simpa [encR] using this⟩

set_option maxRecDepth 100000 in
set_option maxHeartbeats 4000000 in
theorem apply_any (w : World) (p v : Value) (T : Tab Nat) (L : List RuleP) (h : TableAt w p T) (hL : RulesAt w v L) (hf : FitL L) (hl : L.length ≤ 1000000) :
    Calls Tryz.prog 23 #[p, v] w (ApplyRet (applyS T L) w) := by
  obtain ⟨tb0, rfl⟩ := h.ptr
  obtain ⟨R, rfl, hrow, hrs⟩ := hL
  obtain ⟨_, a, c, rfl, hRc, _, hop⟩ := hrow
  rw [List.length_map] at hl
  have b0 := (Below.refl w.heap.size w).alloc (Nat.le_refl _) (.cells #[.pointer (some ⟨tb0, 0, none⟩), .slice none 0 0] 109)
  have hW0 : WkAt (w.alloc (.cells #[.pointer (some ⟨tb0, 0, none⟩), .slice none 0 0] 109)) w.heap.size (.pointer (some ⟨tb0, 0, none⟩)) (.slice none 0 0) T [] :=
    ⟨heap_alloc_last _ _, h.below b0, ⟨Sl.nil _ 1 0 none fun _ => rfl, by simp⟩, by simp⟩
  have H := Lib.hid (And.intro hop (And.intro hrs hf))
  clear h hop hrs hf
  go_enter Tryz.func23, Tryz.ntmps23
  go_wp2_with fail
  go_loopw [7, 17] (fun rb i wr => ∃ (q : Nat) (T1 : Tab Nat) (A1 : List Nat) (p1 av1 : Value) (b : Bool), q ≤ R.length ∧ i = .int .i64 q ∧ rb = .bool b ∧ WkAt wr w.heap.size p1 av1 T1 A1 ∧ A1.length ≤ 8 ∧ Below w.heap.size w wr ∧ Hid (goS T [] false (R.map (·.r)) = goS T1 A1 b ((R.map (·.r)).drop q))) (fun _ i _ => R.length - (RowKit.intOf i).toNat)
  case atStart => exact ⟨0, T, [], _, _, false, Nat.zero_le _, rfl, rfl, hW0, by simp, b0, Lib.hid rfl⟩
  case round =>
    clear hW0 b0
    obtain ⟨q, T1, A1, p1, av1, b, hq, rfl, rfl, hWk, hA1, hnx, hI⟩ := hrel
    obtain ⟨tb1, rfl⟩ := hWk.tab.ptr
    by_cases hq1 : q < R.length
    · obtain ⟨bb, o, rfl, hbb, hcell⟩ := H.out.1 (by omega)
      obtain ⟨x, hx⟩ : ∃ x, R[q]? = some x := ⟨R[q], List.getElem?_eq_getElem hq1⟩
      have hxm : x.r ∈ R.map (·.r) := List.mem_map.2 ⟨x, List.mem_of_getElem? hx, rfl⟩
      have hxs := H.out.2.1 x (List.mem_of_getElem? hx)
      obtain ⟨he1, he2, he3⟩ := encR_at hx
      have d0 := (hnx.cell (p := ⟨bb, o + q * 3, none⟩) hbb).trans (hcell _ _ he1)
      have d1 := (hnx.cell (p := ⟨bb, o + (q * 3 + 1), none⟩) hbb).trans (hcell _ _ he2)
      have d2 := (hnx.cell (p := ⟨bb, o + (q * 3 + 2), none⟩) hbb).trans (hcell _ _ he3)
      rw [← Nat.add_assoc] at d1 d2
      obtain ⟨sa, sc, hsv, _⟩ := hxs.1.open
      obtain ⟨ea, ec, hev, _⟩ := hxs.2.open
      rw [hsv] at d1
      rw [hev] at d2
      have hdr : (R.map (·.r)).drop q = x.r :: (R.map (·.r)).drop (q + 1) := by
        have : (R.map (·.r))[q]? = some x.r := by rw [List.getElem?_map, hx]; rfl
        obtain ⟨h1, h2⟩ := List.getElem?_eq_some_iff.1 this
        rw [← h2]; exact List.drop_eq_getElem_cons h1
      have hri := (H.out.2.2 x.r hxm).1
      unfold i64ok at hri
      have b1 := (Below.refl wr.heap.size wr).alloc (Nat.le_refl _) (.cells #[.int .i64 x.r.rel, .slice sa x.r.seq.length sc, .slice ea x.r.exp.length ec] 110)
      have HX := Lib.hid (And.intro hx (And.intro he1 (And.intro he2 he3)))
      clear hcell hx he1 he2 he3
      have htest : (b = false ∧ x.r.rel ≠ 1) ∨ (b = false ∧ x.r.rel = 1) ∨ (b = true ∧ x.r.rel < 1) ∨ (b = true ∧ 5 < x.r.rel) ∨ (b = true ∧ 1 ≤ x.r.rel ∧ x.r.rel ≤ 5) := by
        cases b <;> simp <;> omega
      rcases htest with ⟨rfl, hr⟩ | ⟨rfl, hr⟩ | ⟨rfl, hr⟩ | ⟨rfl, hr⟩ | ⟨rfl, hr1, hr5⟩
      · have hr' : (x.r.rel == 1) = false := by simpa using hr
        have hgo : goS T [] false (R.map (·.r)) = .error 1 := by rw [hI.out, hdr]; exact goS_bad (.inl (by simp [hr]))
        have HG := Lib.hid hgo
        clear hgo
        go_wp2_with fail
        go_ret2
        exact ⟨hnx.alloc hnx.size _, by unfold applyS; rw [HG.out]; rfl⟩
      · have hr' : (x.r.rel == 1) = true := by simpa using hr
        have hr2 : decide (x.r.rel < 1) = false := by simp; omega
        have hr3 : decide (5 < x.r.rel) = false := by simp; omega
        have hri2 : 1 ≤ x.r.rel ∧ x.r.rel ≤ 5 := by omega
        have hpre : ¬ ((false || x.r.rel == 1) = false ∨ x.r.rel < 1 ∨ 5 < x.r.rel) := by rw [hr]; decide
        have HP := Lib.hid hpre
        clear hr hpre
        have hfit : RuleFit x.r := ⟨⟨by omega, by omega⟩, (H.out.2.2 x.r hxm).2.1, (H.out.2.2 x.r hxm).2.2⟩
        have hru := rule_any _ w.heap.size _ _ T1 A1 (hWk.below b1) _ _ x.r hfit (hxs.1.below (Below.next hnx b1)) (hxs.2.below (Below.next hnx b1)) hA1
        rw [hsv, hev] at hru
        have HB1 := Lib.hid b1
        rcases ruleS_cases T1 A1 x.r with ⟨cc, hc, hc0⟩ | ⟨T2, A2, hc⟩
        · have hgo : goS T [] false (R.map (·.r)) = .error cc := by rw [hI.out, hdr]; exact goS_err (HP.out) hc
          have HG := Lib.hid hgo
          rw [hc] at hru
          have hcz : (cc != 0) = true := by simpa using hc0
          clear hgo hc hc0 hfit
          go_wp2_with fail
          refine hru.mono ?_
          clear hru
          rintro e w2 ⟨hg2, rfl⟩
          have HG2 := Lib.hid hg2
          clear hg2
          go_wp2_with fail
          go_ret2
          exact ⟨(Below.next hnx HB1.out).grown HG2.out (Below.next hnx HB1.out).size (fun k hk => by simp at hk; omega), by unfold applyS; rw [HG.out]; rfl⟩
        · have hgo : goS T [] false (R.map (·.r)) = goS T2 A2 true ((R.map (·.r)).drop (q + 1)) := by rw [hI.out, hdr]; exact goS_ok (HP.out) hc
          have hA2 := ruleS_len hc hA1
          have HG := Lib.hid hgo
          rw [hc] at hru
          clear hgo hc hfit
          go_wp2_with fail
          refine hru.mono ?_
          clear hru
          rintro e w2 ⟨hg2, rfl, p2, av2, hWk2⟩
          have HG2 := Lib.hid (And.intro hg2 hWk2)
          clear hg2 hWk2
          go_wp2_with fail
          go_roundw
          case rel => exact ⟨q + 1, T2, A2, p2, av2, true, by omega, by go_num, rfl, HG2.out.2, hA2, (Below.next hnx HB1.out).grown HG2.out.1 (Below.next hnx HB1.out).size (fun k hk => by simp at hk; omega), HG⟩
          case measure => simp [RowKit.intOf]; omega
      · have hr2 : decide (x.r.rel < 1) = true := by simpa using hr
        have hgo : goS T [] false (R.map (·.r)) = .error 1 := by rw [hI.out, hdr]; exact goS_bad (.inr (.inl hr))
        have HG := Lib.hid hgo
        clear hgo
        go_wp2_with fail
        go_ret2
        exact ⟨hnx.alloc hnx.size _, by unfold applyS; rw [HG.out]; rfl⟩
      · have hr2 : decide (x.r.rel < 1) = false := by simp; omega
        have hr3 : decide (5 < x.r.rel) = true := by simpa using hr
        have hgo : goS T [] false (R.map (·.r)) = .error 1 := by rw [hI.out, hdr]; exact goS_bad (.inr (.inr hr))
        have HG := Lib.hid hgo
        clear hgo
        go_wp2_with fail
        go_ret2
        exact ⟨hnx.alloc hnx.size _, by unfold applyS; rw [HG.out]; rfl⟩
      · have hr2 : decide (x.r.rel < 1) = false := by simp; omega
        have hr3 : decide (5 < x.r.rel) = false := by simp; omega
        have hpre : ¬ ((true || x.r.rel == 1) = false ∨ x.r.rel < 1 ∨ 5 < x.r.rel) := by simp; omega
        have HP := Lib.hid hpre
        clear hpre
        have hfit : RuleFit x.r := ⟨⟨by omega, by omega⟩, (H.out.2.2 x.r hxm).2.1, (H.out.2.2 x.r hxm).2.2⟩
        have hru := rule_any _ w.heap.size _ _ T1 A1 (hWk.below b1) _ _ x.r hfit (hxs.1.below (Below.next hnx b1)) (hxs.2.below (Below.next hnx b1)) hA1
        rw [hsv, hev] at hru
        have HB1 := Lib.hid b1
        rcases ruleS_cases T1 A1 x.r with ⟨cc, hc, hc0⟩ | ⟨T2, A2, hc⟩
        · have hgo : goS T [] false (R.map (·.r)) = .error cc := by rw [hI.out, hdr]; exact goS_err (HP.out) hc
          have HG := Lib.hid hgo
          rw [hc] at hru
          have hcz : (cc != 0) = true := by simpa using hc0
          clear hgo hc hc0 hfit
          go_wp2_with fail
          refine hru.mono ?_
          clear hru
          rintro e w2 ⟨hg2, rfl⟩
          have HG2 := Lib.hid hg2
          clear hg2
          go_wp2_with fail
          go_ret2
          exact ⟨(Below.next hnx HB1.out).grown HG2.out (Below.next hnx HB1.out).size (fun k hk => by simp at hk; omega), by unfold applyS; rw [HG.out]; rfl⟩
        · have hgo : goS T [] false (R.map (·.r)) = goS T2 A2 true ((R.map (·.r)).drop (q + 1)) := by rw [hI.out, hdr]; exact goS_ok (HP.out) hc
          have hA2 := ruleS_len hc hA1
          have HG := Lib.hid hgo
          rw [hc] at hru
          clear hgo hc hfit
          go_wp2_with fail
          refine hru.mono ?_
          clear hru
          rintro e w2 ⟨hg2, rfl, p2, av2, hWk2⟩
          have HG2 := Lib.hid (And.intro hg2 hWk2)
          clear hg2 hWk2
          go_wp2_with fail
          go_roundw
          case rel => exact ⟨q + 1, T2, A2, p2, av2, true, by omega, by go_num, rfl, HG2.out.2, hA2, (Below.next hnx HB1.out).grown HG2.out.1 (Below.next hnx HB1.out).size (fun k hk => by simp at hk; omega), HG⟩
          case measure => simp [RowKit.intOf]; omega
    · obtain rfl : q = R.length := by omega
      have hgo : goS T [] false (R.map (·.r)) = .ok T1 := by rw [hI.out, List.drop_of_length_le (by simp)]; rfl
      have hck := check_any wr _ T1 hWk.tab
      have c0 := cell_of_block (i := 0) hWk.blk rfl
      have hwlt := hWk.lt
      have HG := Lib.hid (And.intro hgo hWk.tab)
      clear hgo hI hWk
      have hcc : checkS T1 = 0 ∨ checkS T1 = 3 := by unfold checkS; split <;> simp
      rcases hcc with hc | hc
      · have HC := Lib.hid hc
        rw [hc] at hck
        clear hc
        go_wp2_with fail
        refine hck.mono ?_
        clear hck
        rintro e w2 ⟨rfl, hb2⟩
        have c02 := (hb2.cell (p := ⟨w.heap.size, 0, none⟩) hwlt).trans c0
        have HB := Lib.hid hb2
        clear hb2
        go_wp2_with fail
        go_ret2
        refine ⟨Below.next hnx HB.out, ?_⟩
        unfold applyS
        rw [HG.out.1]
        simp only [HC.out, if_true]
        exact ⟨_, rfl, HG.out.2.below HB.out⟩
      · have HC := Lib.hid hc
        rw [hc] at hck
        clear hc
        go_wp2_with fail
        refine hck.mono ?_
        clear hck
        rintro e w2 ⟨rfl, hb2⟩
        have HB := Lib.hid hb2
        clear hb2
        go_wp2_with fail
        go_ret2
        refine ⟨Below.next hnx HB.out, ?_⟩
        unfold applyS
        rw [HG.out.1]
        simp only [HC.out]
        rfl
end Go.Proofs.YtccdkchmeelkfaaGreatDoor
