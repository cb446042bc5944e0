/- The rules' reader whole. -/
import Derived.Test.YtccdkchmeelkfaaGreatDoorA10
import Derived.Test.YtccdkchmeelkfaaGreatDoorA11
import Derived.Test.YtccdkchmeelkfaaGreatDoorA8

/- (R5) Rules in memory. -/
namespace Go.Proofs.YtccdkchmeelkfaaGreatDoor
open Go.RowKit

/-- A rule and where its signs lie. -/
structure RulM where
  r : RuleP
  sv : Value
  ev : Value
def encR (x : RulM) : List Value := [.int .i64 x.r.rel, x.sv, x.ev]
/-- A slice of rules. -/
def RulesAt (w : World) (v : Value) (L : List RuleP) : Prop :=
  ∃ R : List RulM, R.map (·.r) = L ∧ Sl w 3 v R.length (R.flatMap encR) ∧ ∀ x ∈ R, SlI w x.sv x.r.seq ∧ SlI w x.ev x.r.exp
theorem RulesAt.below {w w' : World} {v : Value} {L : List RuleP} (h : RulesAt w v L) (hb : Below w.heap.size w w') : RulesAt w' v L := by
  obtain ⟨R, h1, h2, h3⟩ := h
  exact ⟨R, h1, h2.below hb, fun x hx => ⟨(h3 x hx).1.below hb, (h3 x hx).2.below hb⟩⟩
theorem infoRule : (Tryz.prog.info? 110).map (fun i => (i.zero, i.size, i.bytes)) = some (some (.agg #[.int .i64 0, .slice none 0 0, .slice none 0 0]), 3, 56) := by kernel_rfl

/-- Rules of the call's own. -/
structure RowR (w : World) (base : Nat) (v : Value) (R : List RulM) : Prop where
  row : w.ownsRow base 110 3 v R.length (R.flatMap encR)
  blk : ∀ x ∈ R, BlkI w base x.sv x.r.seq ∧ BlkI w base x.ev x.r.exp
theorem RowR.nil (w : World) (base : Nat) : RowR w base (.slice none 0 0) [] := ⟨World.ownsRow_nil _ _ _ _, by simp⟩
theorem RowR.below {w w' : World} {base : Nat} {v : Value} {R : List RulM} (h : RowR w base v R) (hb : Below w.heap.size w w') : RowR w' base v R :=
  ⟨owns_below h.row hb, fun x hx => ⟨(h.blk x hx).1.below hb, (h.blk x hx).2.below hb⟩⟩
/-- A write to a block of another kind leaves them alone. -/
theorem RowR.write {w w' : World} {base j : Nat} {v : Value} {R : List RulM} {o : Obj} (h : RowR w base v R) (hg : w.grownBy w' (some j)) (hj : w.heap[j]? = some o) (h1 : ∀ cur, o ≠ .cells cur 3 (0, 0)) (h2 : ∀ cur, o ≠ .cells cur 110 (0, 0)) : RowR w' base v R :=
  ⟨h.row.kept hg (ownsRow_ne_a h.row hj h2), fun x hx => ⟨(h.blk x hx).1.write hg hj h1, (h.blk x hx).2.write hg hj h1⟩⟩
theorem BlkI.app {w w' : World} {base b2 : Nat} {v vr : Value} {l : List Int} {n : Nat} {xs : List Value} (h : BlkI w base v l) (hr : w.ownsRow b2 110 3 vr n xs) (hg : w.grownBy w' vr.ownBlock) : BlkI w' base v l := by
  refine h.grown hg ?_
  rcases hr.2 with ⟨rfl, _⟩ | ⟨g, cap, cur, rfl, _, hgb, _⟩
  · cases hv : v.ownBlock with
    | none => exact .inl rfl
    | some b => exact .inr (by simp [Value.ownBlock])
  · exact h.obj hgb (fun c e => by cases e)
theorem RowR.app {w w' : World} {base : Nat} {v v' : Value} {R : List RulM} {x : RulM} (h : RowR w base v R) (hrow : w'.ownsRow base 110 3 v' (R.length + 1) (R.flatMap encR ++ encR x)) (hg : w.grownBy w' v.ownBlock) (h1 : BlkI w base x.sv x.r.seq) (h2 : BlkI w base x.ev x.r.exp) : RowR w' base v' (R ++ [x]) :=
  ⟨by rw [List.length_append, List.flatMap_append]; simpa using hrow, fun y hy => by
    rcases List.mem_append.1 hy with hy | hy
    · exact ⟨(h.blk y hy).1.app h.row hg, (h.blk y hy).2.app h.row hg⟩
    · simp at hy; subst hy; exact ⟨h1.app h.row hg, h2.app h.row hg⟩⟩
theorem RowR.clip {w : World} {base : Nat} {a : Option Addr} {c : Nat} {R : List RulM} (h : RowR w base (.slice a R.length c) R) : RulesAt w (.slice a R.length R.length) (R.map (·.r)) := by
  refine ⟨R, rfl, ?_, fun x hx => ⟨(h.blk x hx).1.sl, (h.blk x hx).2.sl⟩⟩
  obtain ⟨g1, a2, c2, g2, g3, g4, g5⟩ := Sl.of_owns h.row
  cases g2
  exact ⟨g1, a, R.length, rfl, Nat.le_refl _, (fun h0 => by have := g4 h0; omega), g5⟩
theorem RowR.at {w : World} {base : Nat} {v : Value} {R : List RulM} (h : RowR w base v R) : RulesAt w v (R.map (·.r)) :=
  ⟨R, rfl, Sl.of_owns h.row, fun x hx => ⟨(h.blk x hx).1.sl, (h.blk x hx).2.sl⟩⟩

/-- The places of signs: that of each, and behind the last. -/
def placesS (s : List Int) (q : Nat) : List Int := (List.range q).map fun i => ((putLens (s.take i) : Nat) : Int)
theorem placesS_len (s : List Int) (q : Nat) : (placesS s q).length = q := by simp [placesS]
theorem placesS_succ (s : List Int) (q : Nat) : placesS s (q + 1) = placesS s q ++ [((putLens (s.take q) : Nat) : Int)] := by simp [placesS, List.range_succ]
theorem placesS_at (s : List Int) {q i : Nat} (h : i < q) : (placesS s q)[i]? = some ((putLens (s.take i) : Nat) : Int) := by simp [placesS, List.getElem?_map, List.getElem?_range h]
theorem putLens_succ {s : List Int} {q : Nat} {c : Int} (h : s[q]? = some c) : putLens (s.take (q + 1)) = putLens (s.take q) + putLen c := by
  unfold putLens; rw [List.take_add_one, h]; simp
theorem putLen_le (c : Int) : 1 ≤ putLen c ∧ putLen c ≤ 4 := by rw [← putI_len]; exact putI_len4 c
theorem putLens_le (s : List Int) : putLens s ≤ 4 * s.length := by
  induction s with
  | nil => simp [putLens]
  | cons c r ih =>
    have := putLen_le c
    unfold putLens at *
    simp only [List.map_cons, List.sum_cons, List.length_cons]
    omega
theorem blankL_idem (l : List Int) : blankL (blankL l) = blankL l := by
  induction l with
  | nil => rfl
  | cons c r ih =>
    by_cases h : c = 32 ∨ c = 10
    · rw [blankL, if_pos h, ih]
    · rw [blankL, if_neg h, blankL, if_neg h]
theorem parseL_blank : ∀ (n : Nat) (out : List RuleP) (l : List Int), parseL (n + 1) out (blankL l) = parseL (n + 1) out l := by
  intro n out l
  rw [parseL, parseL, blankL_idem]
theorem RdAt.app2 {wr w' : World} {rb N : Nat} {v av : Value} {s l : List Int} {row : Option Nat} (h : RdAt wr rb v av s l) (hg : wr.grownBy w' row) (hlow : s = [] ∨ ∃ b, v.ownBlock = some b ∧ b < N) (hrow : ∀ k, row = some k → N ≤ k) (hrb : some rb ≠ row) : RdAt w' rb v av s l :=
  ⟨(hg.block _ (Array.getElem?_eq_some_iff.1 h.blk).1 hrb).trans h.blk, by
    rcases hlow with h0 | ⟨b, hb, hlt⟩
    · subst h0
      obtain ⟨g1, a, c, g2, g3, g4, _⟩ := h.sl
      exact ⟨g1, a, c, g2, g3, g4, fun hn => absurd hn (by simp)⟩
    · exact Sl.grown h.sl hg (.inr (fun e => by have := hrow b (by rw [← e, hb]); omega)), h.ne, h.suf, h.len, h.sg⟩
theorem parseL_none {k : Nat} {out : List RuleP} {l r : List Int} (h0 : blankL l = l) (h1 : l ≠ []) (h : ruleL (out.length == 0) l = (none, r)) : parseL (k + 1) out l = .error r := by
  rw [parseL, if_neg (by rw [h0]; exact h1), h0, h]
theorem parseL_some {k : Nat} {out : List RuleP} {l r : List Int} {x : RuleP} (h0 : blankL l = l) (h1 : l ≠ []) (h : ruleL (out.length == 0) l = (some x, r)) : parseL (k + 1) out l = parseL k (out ++ [x]) r := by
  rw [parseL, if_neg (by rw [h0]; exact h1), h0, h]
theorem clipR_any (w : World) (a : Option Addr) (n c : Nat) (hn : n ≤ c) (_h1 : n ≤ 1000000000) : Calls Tryz.prog 91 #[.slice a n c] w fun e w' => e = .returned (.slice a n n) ∧ w = w' := by
  go_enter Tryz.func91, Tryz.ntmps91
  go_wp2
  go_ret
  exact ⟨rfl, rfl⟩
end Go.Proofs.YtccdkchmeelkfaaGreatDoor

/- (R6) rules.Parse. -/
namespace Go.Proofs.YtccdkchmeelkfaaGreatDoor
open Go.RowKit

/-- What Parse tells. -/
def ParseRet (r : Except (Nat × Int) (List RuleP)) (w : World) (e : Ending) (w' : World) : Prop :=
  Below w.heap.size w w' ∧ match r with
    | .error (at_, c) => e = .returned (.tuple #[.slice none 0 0, .int .i64 (at_ : Nat), .int .i64 c])
    | .ok L => ∃ v, e = .returned (.tuple #[v, .int .i64 0, .int .i64 0]) ∧ RulesAt w' v L

theorem puts1_any (w : World) (n : Nat) (hn : n = w.heap.size) (c : Int) (h0 : 0 ≤ c) (h1 : c ≤ 1114367) :
    Calls Tryz.prog 87 #[.slice (some ⟨n, 0, none⟩) 1 1] (w.alloc (.cells #[.int .i64 c] 3)) fun e w' => ∃ s : ByteArray, e = .returned (.string s) ∧ s.size = putLen c ∧ Below (w.alloc (.cells #[.int .i64 c] 3)).heap.size (w.alloc (.cells #[.int .i64 c] 3)) w' := by
  refine (puts_any _ _ [c] (SlNew1 w (.int .i64 c) 3 n hn) (by simp) (by intro x hx; simp at hx; subst hx; exact ⟨h0, h1⟩)).mono ?_
  rintro e w' ⟨s, rfl, hs, hb⟩
  refine ⟨s, rfl, ?_, hb⟩
  have := congrArg List.length hs
  rw [← putI_len]
  rw [Lib.size_eq]
  simpa using this

set_option maxRecDepth 100000 in
set_option maxHeartbeats 4000000 in
theorem parse_any (s : ByteArray) (w : World) (hs : s.size ≤ 1000000) (hT : U8 w) :
    Calls Tryz.prog 43 #[.string s] w (ParseRet (parseS (signsT s.data.toList)) w) := by
  obtain ⟨ii, hi, hz0, hz1, hz2⟩ := info_parts infoInt
  obtain ⟨ri, hri, hrz0, hrz1, hrz2⟩ := info_parts infoRule
  have hsg := csigns_any s w hs hT
  have hsl := signsT_len s.data.toList
  rw [← Lib.size_eq] at hsl
  have hss := signsT_sign s.data.toList
  obtain ⟨S, hS⟩ : ∃ S, signsT s.data.toList = S := ⟨_, rfl⟩
  rw [hS] at hsg hsl hss
  rw [hS]
  have hS6 : S.length ≤ 1000000 := by omega
  have HS := Lib.hid (fun c hc => isSign_bd (hss c hc))
  clear hss hS hsl hT
  go_enter Tryz.func43, Tryz.ntmps43
  go_wp2_with fail
  refine hsg.mono ?_
  clear hsg
  rintro e w1 ⟨v, rfl, hv, hb1⟩
  obtain ⟨va, vc, rfl, hvc⟩ := hv.shape
  have hsz1 := hb1.size
  have b1 := (Below.refl w1.heap.size w1).alloc (Nat.le_refl _) (.cells #[.slice va S.length vc, .slice none 0 0, .int .i64 0] 150)
  have hrd0 := heap_alloc_last w1 (.cells #[.slice va S.length vc, .slice none 0 0, .int .i64 0] 150)
  have HV := Lib.hid (And.intro hv.sl (And.intro hb1 hv.lt))
  clear hv hb1
  go_wp2_with fail
  go_loopw [6, 20] (fun n i wr => ∃ (q : Nat) (av : Value), q ≤ S.length ∧ i = .int .i64 q ∧ n = .int .i64 (putLens (S.take q) : Nat) ∧ wr.heap[w1.heap.size]? = some (.cells #[.slice va S.length vc, av, .int .i64 0] 150 (0, 0)) ∧ wr.ownsRow w1.heap.size 3 1 av q (cellsI (placesS S q)) ∧ Below w1.heap.size w1 wr) (fun _ i _ => S.length - (RowKit.intOf i).toNat)
  case atStart => exact ⟨0, _, Nat.zero_le _, rfl, rfl, hrd0, World.ownsRow_nil _ _ _ _, b1⟩
  case round =>
    clear hrd0 b1
    obtain ⟨q, av, hq, rfl, rfl, hrd, hown, hnx⟩ := hrel
    have hpl := putLens_le (S.take q)
    rw [List.length_take] at hpl
    have hpl9 : putLens (S.take q) ≤ 4000000 := by omega
    obtain ⟨oa, oc, rfl, hocn, hon⟩ := owns_slice hown
    clear hon hpl
    have c0 := cell_of_block (i := 0) hrd rfl
    have c1 := cell_of_block (i := 1) hrd rfl
    have c2 := cell_of_block (i := 2) hrd rfl
    have f1 : wr.frozen? ⟨w1.heap.size, 1, none⟩ = false := frozen_of_block hrd
    have hws := hnx.size
    have hrw := (Array.getElem?_eq_some_iff.1 hrd).1
    have ba := (Below.refl wr.heap.size wr).alloc (Nat.le_refl _) (.cells #[.int .i64 (putLens (S.take q) : Nat)] 3)
    have hrda := blk_below hrd ba
    have hne := obj_ne (owns_below hown ba) hrda (fun _ e => by cases e)
    have hwa := Below.next hnx ba
    have HX := Lib.hid (And.intro hrda (And.intro hne hwa))
    clear hrda hne hwa ba
    by_cases hq1 : q < S.length
    · have hx : S[q]? = some S[q] := List.getElem?_eq_getElem hq1
      obtain ⟨x, hx1⟩ : ∃ x, S[q] = x := ⟨_, rfl⟩
      rw [hx1] at hx
      obtain ⟨hx0, hx9⟩ := HS.out x (List.mem_of_getElem? hx)
      have hvs := HV.out.1.below hnx
      obtain ⟨_, _, _, hve, _, _, hvo⟩ := hvs
      cases hve
      obtain ⟨b, o, rfl, hbb, hcell⟩ := hvo (by omega)
      have hc := hcell q (.int .i64 x) (by rw [List.getElem?_map, hx]; rfl)
      have hpx := putLen_le x
      have HY := Lib.hid (And.intro hx hpx)
      clear hx hx1 hcell hvo hrd hnx hpx
      go_wp2_with (at_builtin; refine wpList_append_sl rfl _ _ 22 rfl w1.heap.size 3 ii (.int .i64 0) 1 8 Tryz.underlying22 hi hz0 hz1 hz2 rfl (by decide) _ _ _ rfl (owns_below hown ((Below.refl _ _).alloc (Nat.le_refl _) _)) _ 1 [.int .i64 (putLens (S.take q) : Nat)] rfl (SlNew1 _ _ _ _ (by simp)) (by intro u hu; simp at hu; subst hu; rfl) (by unfold maxLen; omega) (by omega) (by simp; omega) ?_; intro v6 w6 hown6 hg6; obtain ⟨a6, c6, rfl, hc6, hn6⟩ := owns_slice hown6; have hrd6 := (hg6.block _ (Array.getElem?_eq_some_iff.1 HX.out.1).1 HX.out.2.1).trans HX.out.1; have d0 := cell_of_block (i := 0) hrd6 rfl; have d1 := cell_of_block (i := 1) hrd6 rfl; have d2 := cell_of_block (i := 2) hrd6 rfl; have e1 : w6.frozen? ⟨w1.heap.size, 1, none⟩ = false := frozen_of_block hrd6; have hwg := below_grown HX.out.2.2 (owns_below hown ((Below.refl _ _).alloc (Nat.le_refl _) _)) hg6; have HG := Lib.hid (And.intro hrd6 (And.intro hown6 hwg)); clear hn6 hrd6 hown6 hg6 hwg)
      have hpc := puts1_any (w6.setCell ⟨w1.heap.size, 1, none⟩ (.slice a6 (q + 1) c6)) w6.heap.size (by simp [World.setCell]) x hx0 hx9
      clear d0 d1 d2 c0 c1 c2 f1 e1
      refine hpc.mono ?_
      clear hpc
      rintro e w7 ⟨sx, rfl, hsx, hb7⟩
      have b2 := (Below.refl (w6.setCell ⟨w1.heap.size, 1, none⟩ (.slice a6 (q + 1) c6)).heap.size (w6.setCell ⟨w1.heap.size, 1, none⟩ (.slice a6 (q + 1) c6))).alloc (Nat.le_refl _) (.cells #[.int .i64 x] 3)
      have hbn := Below.next b2 hb7
      have hrd8 := blk_below (heap_setCell (i := 1) (.slice a6 (q + 1) c6) HG.out.1) hbn
      have hgs := grownBy_setCell w6 w1.heap.size 1 (.slice a6 (q + 1) c6)
      have hown7 := owns_below (HG.out.2.1.kept hgs (ownsRow_ne_a HG.out.2.1 HG.out.1 (fun _ e => by cases e))) hbn
      have hnx7 := Below.next (HG.out.2.2.grown hgs HG.out.2.2.size (fun k hk => by simp at hk; omega)) hbn
      have hsx4 : sx.size ≤ 4 := by rw [hsx]; exact HY.out.2.2
      have HR := Lib.hid (And.intro hrd8 (And.intro hown7 (And.intro hnx7 hsx)))
      clear hrd8 hown7 hnx7 hgs hbn b2 hb7 hsx
      go_wp2_with fail
      go_roundw
      case rel =>
        refine ⟨q + 1, _, by omega, by go_num, ?_, HR.out.1, ?_, HR.out.2.2.1⟩
        · rw [putLens_succ HY.out.1, ← HR.out.2.2.2]; rfl
        · rw [placesS_succ, cellsI_append]; exact HR.out.2.1
      case measure => simp [RowKit.intOf]; omega
    · obtain rfl : q = S.length := by omega
      clear hrd
      rw [List.take_length] at HX hpl9
      go_wp2_with (at_builtin; refine wpList_append_sl rfl _ _ 22 rfl w1.heap.size 3 ii (.int .i64 0) 1 8 Tryz.underlying22 hi hz0 hz1 hz2 rfl (by decide) _ _ _ rfl (owns_below hown ((Below.refl _ _).alloc (Nat.le_refl _) _)) _ 1 [.int .i64 (putLens S : Nat)] rfl (SlNew1 _ _ _ _ (by simp)) (by intro u hu; simp at hu; subst hu; rfl) (by unfold maxLen; omega) (by omega) (by simp; omega) ?_; intro v6 w6 hown6 hg6; obtain ⟨a6, c6, rfl, hc6, hn6⟩ := owns_slice hown6; have hrd6 := (hg6.block _ (Array.getElem?_eq_some_iff.1 HX.out.1).1 HX.out.2.1).trans HX.out.1; have d0 := cell_of_block (i := 0) hrd6 rfl; have d1 := cell_of_block (i := 1) hrd6 rfl; have d2 := cell_of_block (i := 2) hrd6 rfl; have e1 : w6.frozen? ⟨w1.heap.size, 1, none⟩ = false := frozen_of_block hrd6; have hwg := below_grown HX.out.2.2 (owns_below hown ((Below.refl _ _).alloc (Nat.le_refl _) _)) hg6; have HG := Lib.hid (And.intro hrd6 (And.intro hown6 hwg)); clear hn6 hrd6 hown6 hg6 hwg)
      have hgs := grownBy_setCell w6 w1.heap.size 1 (.slice a6 (S.length + 1) c6)
      have hrd7 := heap_setCell (i := 1) (.slice a6 (S.length + 1) c6) HG.out.1
      have hown7 := HG.out.2.1.kept hgs (ownsRow_ne_a HG.out.2.1 HG.out.1 (fun _ e => by cases e))
      have hav : BlkI (w6.setCell ⟨w1.heap.size, 1, none⟩ (.slice a6 (S.length + 1) c6)) w1.heap.size (.slice a6 (S.length + 1) c6) (placesS S (S.length + 1)) :=
        BlkI.own (n := S.length + 1) (placesS_len S (S.length + 1)).symm (by rw [placesS_succ, List.take_length, cellsI_append]; exact hown7)
      have hnx7 := HG.out.2.2.grown hgs HG.out.2.2.size (fun k hk => by simp at hk; omega)
      have hrd : RdAt (w6.setCell ⟨w1.heap.size, 1, none⟩ (.slice a6 (S.length + 1) c6)) w1.heap.size (.slice va S.length vc) (.slice a6 (S.length + 1) c6) S S :=
        ⟨by rw [hrd7]; simp, HV.out.1.below hnx7, (fun e => by have := HV.out.2.2 _ e; omega), List.suffix_refl _, hS6, HS.out⟩
      have hbl := rblank_any _ w1.heap.size _ _ S S hrd
      have HA := Lib.hid (And.intro hav hnx7)
      have hob := hrd.blk
      have HO := Lib.hid hob
      clear hgs hrd7 hown7 hav hnx7 hrd c0 c1 c2 d0 d1 d2 f1 e1 hown hnx hob
      refine hbl.mono ?_
      clear hbl
      rintro e w8 ⟨rfl, hgo⟩
      have hav8 := HA.out.1.write hgo.2 HO.out (fun _ e => by cases e)
      have hnx8 := HA.out.2.grown hgo.2 HA.out.2.size (fun k hk => by simp at hk; omega)
      have hrd8 := hgo.1
      have hsl8 := (blankL_suf S).length_le
      clear HA hgo HO
      go_wp2_with fail
      go_loopg [2] (blankL S).length (fun gg o wr => ∃ (R : List RulM) (l' : List Int), RowR wr w1.heap.size o R ∧ RdAt wr w1.heap.size (.slice va S.length vc) (.slice a6 (S.length + 1) c6) S l' ∧ BlkI wr w1.heap.size (.slice a6 (S.length + 1) c6) (placesS S (S.length + 1)) ∧ Below w1.heap.size w1 wr ∧ l'.length ≤ gg ∧ R.length + l'.length ≤ S.length ∧ Hid (blankL l' = l' ∧ ∃ k, l'.length < k ∧ parseL k (R.map (·.r)) l' = parseL (S.length + 1) [] S))
      case atStart => exact ⟨[], blankL S, RowR.nil _ _, hrd8, hav8, hnx8, Nat.le_refl _, by simpa using hsl8, Lib.hid ⟨blankL_idem S, S.length + 1, by omega, parseL_blank _ _ _⟩⟩
      case round =>
        clear hrd8 hav8 hnx8 hsl8
        obtain ⟨R, l', hR, hrd, hav, hnx, hgg, hRl, hI⟩ := hrel
        have hsg := rsign_any _ _ _ _ S l' hrd
        obtain ⟨oa2, oc2, rfl, hoc2, hon2⟩ := owns_slice hR.row
        clear hon2
        have hws2 := hnx.size
        cases l' with
        | nil =>
          have hps : parseS S = if 40 < R.length then .error (0, 65) else .ok (R.map (·.r)) := by
            obtain ⟨hb0, k, hk, hp⟩ := hI.out
            obtain ⟨k', rfl⟩ : ∃ k', k = k' + 1 := ⟨k - 1, by omega⟩
            rw [parseL, if_pos (by rfl)] at hp
            unfold parseS
            rw [← hp]
            simp
          have HP := Lib.hid hps
          rw [show sgnL [] = -1 from rfl] at hsg
          have HRW := Lib.hid hR
          clear hps hI hR
          by_cases h40 : 40 < R.length
          · go_wp2_with fail
            refine hsg.mono ?_
            rintro e w9 ⟨rfl, n9, rfl⟩
            go_wp2_with fail
            go_ret3
            have hbf := Below.next (Below.next HV.out.2.1 hnx) (Below.drewN (Below.refl _ _) n9)
            exact ⟨hbf, by rw [HP.out, if_pos h40]; rfl⟩
          · go_wp2_with fail
            refine hsg.mono ?_
            rintro e w9 ⟨rfl, n9, rfl⟩
            go_wp2_with (go_at_call 91; refine (clipR_any _ _ _ _ hoc2 (by omega)).mono ?_; rintro e' w' ⟨rfl, rfl⟩)
            go_ret3
            have hbd := Below.drewN (Below.refl wr.heap.size wr) n9
            exact ⟨Below.next (Below.next HV.out.2.1 hnx) hbd, by rw [HP.out, if_neg h40]; exact ⟨_, rfl, (HRW.out.below hbd).clip⟩⟩
        | cons c r =>
          obtain ⟨hc0, hc9⟩ := hrd.sg c (hrd.suf.subset (by simp))
          rw [show sgnL (c :: r) = c from rfl] at hsg
          obtain ⟨fb, hfb⟩ : ∃ fb, (R.length == 0) = fb := ⟨_, rfl⟩
          obtain ⟨q, rest, hrl⟩ : ∃ q rest, ruleL fb (c :: r) = (q, rest) := ⟨_, _, rfl⟩
          have hsuf := ruleL_suf fb (c :: r)
          rw [hrl] at hsuf
          have hrest := hsuf.length_le
          have hle := hrd.le
          have hrr := fun n => rrule_any (wr.drewN n) _ _ _ S (c :: r) (hrd.drewN n) fb
          rw [hrl] at hrr
          have hob := hrd.blk
          have hR6 : R.length ≤ 1000000 := by omega
          have HI := Lib.hid (And.intro hI.out (And.intro hfb (And.intro hrl (And.intro hR (And.intro hav (And.intro hob hnx))))))
          have hrg : rest.length + 1 ≤ gk ∨ q = none := by
            cases q with
            | none => exact .inr rfl
            | some x => have := ruleL_lt hrl; rw [List.length_cons] at hgg this; exact .inl (by omega)
          have hrl2 : rest.length + 1 + R.length ≤ S.length ∨ q = none := by
            cases q with
            | none => exact .inr rfl
            | some x => have := ruleL_lt hrl; rw [List.length_cons] at hRl this; exact .inl (by omega)
          have HG := Lib.hid (And.intro hrg hrl2)
          have hz : ((R.length : Int) == 0) = fb := by
            rw [← hfb]
            cases R with
            | nil => rfl
            | cons x t => simp; omega
          clear hI hR hav hob hnx hrl hsuf hrg hrl2
          cases q with
          | none =>
            cases fb
            all_goals
              clear hfb
              go_wp2_with fail
              refine hsg.mono ?_
              rintro e w9 ⟨rfl, n9, rfl⟩
              have hrr9 := hrr n9
              clear hrr hsg
              go_wp2_with fail
              refine hrr9.mono ?_
              rintro e w10 ⟨hgo, rel, sv, ev, rfl, ⟨a1, n1, d1, rfl⟩, ⟨a2, n2, d2, rfl⟩, _⟩
              have hob10 := hgo.1.blk
              have hav10 := ((HI.out.2.2.2.2.1.below (Below.drewN (Below.refl _ _) n9)).write hgo.2 (hrd.drewN n9).blk (fun _ e => by cases e)).sl
              have hnx10 := (Below.next HI.out.2.2.2.2.2.2 (Below.drewN (Below.refl _ _) n9)).grown hgo.2 (Below.next HI.out.2.2.2.2.2.2 (Below.drewN (Below.refl _ _) n9)).size (fun k hk => by simp at hk; omega)
              obtain ⟨k, hk⟩ : ∃ k : Nat, S.length - rest.length = k := ⟨_, rfl⟩
              rw [hk] at hob10
              have hkS : k ≤ S.length := by omega
              obtain ⟨_, _, _, hve, _, _, hvo⟩ := hav10
              rw [placesS_len] at hve hvo
              cases hve
              obtain ⟨ab, ao, rfl, habb, hcell⟩ := hvo (by omega)
              have hck := hcell k (.int .i64 (putLens (S.take k) : Nat)) (by rw [List.getElem?_map, placesS_at S (by omega)]; rfl)
              have c1 := cell_of_block (i := 1) hob10 rfl
              have c2 := cell_of_block (i := 2) hob10 rfl
              have hrb := (Array.getElem?_eq_some_iff.1 hob10).1
              have hps : parseS S = .error (putLens (S.take k), 10) := by
                obtain ⟨hb0, k1, hk1, hp⟩ := HI.out.1
                obtain ⟨k', rfl⟩ : ∃ k', k1 = k' + 1 := ⟨k1 - 1, by omega⟩
                rw [parseL_none hb0 (by simp) (by rw [List.length_map, HI.out.2.1]; exact HI.out.2.2.1)] at hp
                unfold parseS
                rw [← hp, ← hk]
              have HP := Lib.hid hps
              have HN := Lib.hid hnx10
              clear hps hcell hvo hob10 hnx10 hgo hk hrr9 hrd
              go_wp2_with fail
              go_quiet (fail)
              go_wp2_with fail
              go_ret3
              exact ⟨Below.next (Below.next HV.out.2.1 HN.out) (Below.drewN ((Below.refl _ _).alloc (Nat.le_refl _) _) _), by rw [HP.out]; rfl⟩
          | some x =>
            cases fb
            all_goals
              clear hfb
              go_wp2_with fail
              refine hsg.mono ?_
              rintro e w9 ⟨rfl, n9, rfl⟩
              have hrr9 := hrr n9
              clear hrr hsg
              go_wp2_with fail
              refine hrr9.mono ?_
              rintro e w10 ⟨hgo, rel, sv, ev, rfl, ⟨a1, n1, d1, rfl⟩, ⟨a2, n2, d2, rfl⟩, hx⟩
              obtain ⟨hrel, hsv, hev⟩ := hx x rfl
              have bd := Below.drewN (Below.refl wr.heap.size wr) n9
              have hav10 := (HI.out.2.2.2.2.1.below bd).write hgo.2 (hrd.drewN n9).blk (fun _ e => by cases e)
              have hnx10 := (Below.next HI.out.2.2.2.2.2.2 bd).grown hgo.2 (Below.next HI.out.2.2.2.2.2.2 bd).size (fun k hk => by simp at hk; omega)
              have hR10 := (HI.out.2.2.2.1.below bd).write hgo.2 (hrd.drewN n9).blk (fun _ e => by cases e) (fun _ e => by cases e)
              have hsv1 := hsv.base hws2
              have hev1 := hev.base hws2
              have hsz10 := hnx10.size
              have HX := Lib.hid (And.intro hgo.1 (And.intro hav10 (And.intro hnx10 (And.intro hR10 (And.intro hsv1 (And.intro hev1 hrel))))))
              have hrow := hR10.row
              clear hgo hsv hev hx hav10 hnx10 hR10 hsv1 hev1 hrel hrr9 hrd bd
              go_wp2_with (at_builtin; refine wpList_append_sl rfl _ _ 36 rfl w1.heap.size 110 ri (.agg #[.int .i64 0, .slice none 0 0, .slice none 0 0]) 3 56 Tryz.underlying36 hri hrz0 hrz1 hrz2 rfl (by decide) _ _ _ rfl (owns_below (owns_below hrow ((Below.refl _ _).alloc (Nat.le_refl _) _)) ((Below.refl _ _).alloc (Nat.le_refl _) _)) _ 1 [.int .i64 rel, .slice a1 n1 d1, .slice a2 n2 d2] rfl (SlNew3 _ _ _ _ _ _ (by simp)) (by intro u hu; simp only [List.mem_cons, List.not_mem_nil, or_false] at hu; rcases hu with rfl | rfl | rfl <;> rfl) (by unfold maxLen; omega) (by omega) (by simp; omega) ?_; intro v11 w11 hown11 hg11)
              obtain ⟨hrd10, hav10, hnx10, hR10, hsv10, hev10, hrel10⟩ := HX.out
              have b1 := (Below.refl w10.heap.size w10).alloc (Nat.le_refl _) (.cells #[.int .i64 rel, .slice a1 n1 d1, .slice a2 n2 d2] 110)
              have b2 := Below.next b1 ((Below.refl (w10.alloc (.cells #[.int .i64 rel, .slice a1 n1 d1, .slice a2 n2 d2] 110)).heap.size _).alloc (Nat.le_refl _) (.cells #[.int .i64 rel, .slice a1 n1 d1, .slice a2 n2 d2] 110))
              have hRb := hR10.below b2
              have hRn := hRb.app (x := ⟨x, .slice a1 n1 d1, .slice a2 n2 d2⟩) (by rw [encR, ← hrel10]; exact hown11) hg11 (hsv10.below b2) (hev10.below b2)
              have hav11 := (hav10.below b2).app hRb.row hg11
              have hrd11 := (hrd10.below b2).app2 (N := w1.heap.size) hg11 HV.out.1.low (fun k hk => (hRb.row.lt k hk).1) (obj_ne hRb.row (hrd10.below b2).blk (fun _ e => by cases e))
              have hnx11 := below_grown (Below.next hnx10 b2) hRb.row hg11
              have hbl := rblank_any _ _ _ _ S rest hrd11
              have HF := Lib.hid (And.intro hRn (And.intro hav11 (And.intro hrd11 hnx11)))
              clear hrd10 hav10 hnx10 hR10 hsv10 hev10 hrel10 b1 b2 hRb hRn hav11 hrd11 hnx11 hg11 hown11 hrow
              refine hbl.mono ?_
              clear hbl
              rintro e w12 ⟨rfl, hgo⟩
              have HG2 := Lib.hid hgo
              clear hgo
              go_wp2_with fail
              have hbl := blankL_le rest
              have hg1 : rest.length + 1 ≤ gk := by rcases HG.out.1 with h | h; exact h; cases h
              have hg2 : rest.length + 1 + R.length ≤ S.length := by rcases HG.out.2 with h | h; exact h; cases h
              go_roundg (blankL rest).length
              case measure => omega
              case rel =>
                refine ⟨R ++ [⟨x, .slice a1 n1 d1, .slice a2 n2 d2⟩], blankL rest, HF.out.1.write HG2.out.2 HF.out.2.2.1.blk (fun _ e => by cases e) (fun _ e => by cases e), HG2.out.1, HF.out.2.1.write HG2.out.2 HF.out.2.2.1.blk (fun _ e => by cases e), HF.out.2.2.2.grown HG2.out.2 HF.out.2.2.2.size (fun k hk => by simp at hk; omega), Nat.le_refl _, by rw [List.length_append, List.length_singleton]; omega, Lib.hid ⟨blankL_idem _, ?_⟩⟩
                obtain ⟨hb0, k1, hk1, hp⟩ := HI.out.1
                obtain ⟨k', rfl⟩ : ∃ k', k1 = k' + 1 := ⟨k1 - 1, by omega⟩
                rw [parseL_some hb0 (by simp) (by rw [List.length_map, HI.out.2.1]; exact HI.out.2.2.1)] at hp
                have hlt := ruleL_lt HI.out.2.2.1
                obtain ⟨k'', rfl⟩ : ∃ k'', k' = k'' + 1 := ⟨k' - 1, by omega⟩
                refine ⟨k'' + 1, by omega, ?_⟩
                rw [parseL_blank, ← hp]; simp
end Go.Proofs.YtccdkchmeelkfaaGreatDoor
