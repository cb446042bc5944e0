/- Lists held against each other; entries sorted. -/
import Derived.Test.YtccdkchmeelkfaaGreatDoorA13
import Derived.Sort.Grow
import Derived.Test.YtccdkchmeelkfaaGreatDoorA5
import Derived.Shelf.SlSortCmp.WholeK
import Derived.Ground.SlsfProg
import Derived.Test.YtccdkchmeelkfaaGreatDoorL0

/- (W20) slices.Compare, cmp.Or. -/
namespace Go.Proofs.YtccdkchmeelkfaaGreatDoor
open Go.RowKit

def cmpS (a b : Int) : Int := if a < b then -1 else if b < a then 1 else 0
def lexS : List Int → List Int → Int
  | [], [] => 0
  | [], _ :: _ => -1
  | _ :: _, [] => 1
  | x :: a, y :: b => if x < y then -1 else if y < x then 1 else lexS a b
theorem lexS_step {a b : List Int} {k : Nat} {x y : Int} (hx : a[k]? = some x) (hy : b[k]? = some y) : lexS (a.drop k) (b.drop k) = if x < y then -1 else if y < x then 1 else lexS (a.drop (k + 1)) (b.drop (k + 1)) := by
  obtain ⟨h1, rfl⟩ := List.getElem?_eq_some_iff.1 hx
  obtain ⟨h2, rfl⟩ := List.getElem?_eq_some_iff.1 hy
  rw [List.drop_eq_getElem_cons h1, List.drop_eq_getElem_cons h2, lexS]

set_option maxRecDepth 100000 in
set_option maxHeartbeats 1000000 in
theorem lex_any (w : World) (v1 v2 : Value) (a b : List Int) (h1 : SlI w v1 a) (h2 : SlI w v2 b) (hl1 : a.length ≤ 1000000) (hl2 : b.length ≤ 1000000) :
    Calls Tryz.prog 62 #[v1, v2] w fun e w' => e = .returned (.int .i64 (lexS a b)) ∧ w = w' := by
  obtain ⟨a1, c1, rfl, _, _, ho1⟩ := h1.open
  obtain ⟨a2, c2, rfl, _, _, ho2⟩ := h2.open
  have HO := Lib.hid (And.intro ho1 ho2)
  clear ho1 ho2 h1 h2
  go_enter Tryz.func62, Tryz.ntmps62
  go_wp2_with fail
  go_loopw [11] (fun i wr => ∃ k : Nat, k ≤ a.length ∧ k ≤ b.length ∧ i = .int .i64 k ∧ wr = w ∧ Hid (lexS a b = lexS (a.drop k) (b.drop k))) (fun i _ => a.length - (intOf i).toNat)
  case atStart => exact ⟨0, Nat.zero_le _, Nat.zero_le _, rfl, rfl, Lib.hid (by simp)⟩
  case round =>
    obtain ⟨k, hk, hkb, rfl, rfl, hI⟩ := hrel
    by_cases hk1 : k < a.length
    · obtain ⟨b1, o1, rfl, hb1, hcell1⟩ := HO.out.1 (by omega)
      obtain ⟨x, hx⟩ : ∃ x, a[k]? = some x := ⟨a[k], List.getElem?_eq_getElem hk1⟩
      have hc1 := hcell1 k x hx
      by_cases hk2 : k < b.length
      · obtain ⟨b2, o2, rfl, hb2, hcell2⟩ := HO.out.2 (by omega)
        obtain ⟨y, hy⟩ : ∃ y, b[k]? = some y := ⟨b[k], List.getElem?_eq_getElem hk2⟩
        have hc2 := hcell2 k y hy
        have hcmp := fun w => cmpI_any w x y
        have hst := lexS_step hx hy
        have HX := Lib.hid hst
        clear hst hx hy hcell1 hcell2
        by_cases hlt : x < y
        · simp only [if_pos hlt] at hcmp
          have HR := Lib.hid (show lexS a b = -1 by rw [hI.out, HX.out, if_pos hlt])
          clear hlt
          go_wp2_with (go_at_call 61; refine (hcmp _).mono ?_; rintro e w' ⟨rfl, rfl⟩)
          go_ret
          exact ⟨by rw [HR.out]; rfl, rfl⟩
        · by_cases hgt : y < x
          · simp only [if_neg hlt, if_pos hgt] at hcmp
            have HR := Lib.hid (show lexS a b = 1 by rw [hI.out, HX.out, if_neg hlt, if_pos hgt])
            clear hlt hgt
            go_wp2_with (go_at_call 61; refine (hcmp _).mono ?_; rintro e w' ⟨rfl, rfl⟩)
            go_ret
            exact ⟨by rw [HR.out]; rfl, rfl⟩
          · simp only [if_neg hlt, if_neg hgt] at hcmp
            have HR := Lib.hid (show lexS a b = lexS (a.drop (k + 1)) (b.drop (k + 1)) by rw [hI.out, HX.out, if_neg hlt, if_neg hgt])
            clear hlt hgt
            go_wp2_with (go_at_call 61; refine (hcmp _).mono ?_; rintro e w' ⟨rfl, rfl⟩)
            go_roundw
            case rel => exact ⟨k + 1, by omega, by omega, by go_num, by simp, HR⟩
            case measure => simp [intOf]; omega
      · obtain rfl : k = b.length := by omega
        have HR := Lib.hid (show lexS a b = 1 by rw [hI.out, List.drop_length, List.drop_eq_getElem_cons hk1, lexS])
        clear hcell1 hx
        go_wp2_with fail
        go_ret
        exact ⟨by rw [HR.out]; rfl, rfl⟩
    · obtain rfl : k = a.length := by omega
      by_cases hk2 : a.length < b.length
      · have HR := Lib.hid (show lexS a b = -1 by rw [hI.out, List.drop_length, List.drop_eq_getElem_cons hk2, lexS])
        go_wp2_with fail
        go_ret
        exact ⟨by rw [HR.out]; rfl, rfl⟩
      · have HR := Lib.hid (show lexS a b = 0 by rw [hI.out, List.drop_length, List.drop_eq_nil_of_le (by omega), lexS])
        go_wp2_with fail
        go_ret
        exact ⟨by rw [HR.out]; rfl, rfl⟩

def orS (x y z : Int) : Int := if x ≠ 0 then x else if y ≠ 0 then y else z
set_option maxRecDepth 100000 in
set_option maxHeartbeats 1000000 in
theorem or_any (w : World) (b : Nat) (c : Nat) (x y z : Int) (h0 : w.cell? ⟨b, 0, none⟩ = some (.int .i64 x)) (h1 : w.cell? ⟨b, 1, none⟩ = some (.int .i64 y)) (h2 : w.cell? ⟨b, 2, none⟩ = some (.int .i64 z)) :
    Calls Tryz.prog 60 #[.slice (some ⟨b, 0, none⟩) 3 c] w fun e w' => e = .returned (.int .i64 (orS x y z)) ∧ w = w' := by
  by_cases hx : x = 0
  · subst hx
    by_cases hy : y = 0
    · subst hy
      by_cases hz : z = 0
      · subst hz
        go_enter Tryz.func60, Tryz.ntmps60
        go_wp2_with fail
        refine wp_loop_rounds 5 ?_
        go_wp2_with (with_reducible refine rounds_step ?_)
        go_ret
        exact ⟨rfl, rfl⟩
      · rw [show orS 0 0 z = z by simp [orS]]
        go_enter Tryz.func60, Tryz.ntmps60
        go_wp2_with fail
        refine wp_loop_rounds 5 ?_
        go_wp2_with (with_reducible refine rounds_step ?_)
        go_ret
        exact ⟨rfl, rfl⟩
    · rw [show orS 0 y z = y by simp [orS, hy]]
      go_enter Tryz.func60, Tryz.ntmps60
      go_wp2_with fail
      refine wp_loop_rounds 5 ?_
      go_wp2_with (with_reducible refine rounds_step ?_)
      go_ret
      exact ⟨rfl, rfl⟩
  · rw [show orS x y z = x by simp [orS, hx]]
    go_enter Tryz.func60, Tryz.ntmps60
    go_wp2_with fail
    refine wp_loop_rounds 5 ?_
    go_wp2_with (with_reducible refine rounds_step ?_)
    go_ret
    exact ⟨rfl, rfl⟩
end Go.Proofs.YtccdkchmeelkfaaGreatDoor

/- (W21) The order of a table's entries. -/
namespace Go.Proofs.YtccdkchmeelkfaaGreatDoor
open Go.RowKit Go.Sort

theorem grow3 (w : World) (o1 o2 o3 : Obj) : (((w.alloc o1).alloc o2).drewN 1).alloc o3 = grow (w.drewN 1) #[o1, o2, o3] := by
  simp only [World.alloc, World.drewN, grow]
  congr 1

/-- Entries' order: first sign, length, then signs. -/
def cmpK (a b : List Int) : Int := orS (cmpS (a.headD 0) (b.headD 0)) (cmpS a.length b.length) (lexS a b)

set_option maxRecDepth 100000 in
set_option maxHeartbeats 2000000 in
theorem ecmp_any (w : World) (k1 e1 k2 e2 : Value) (a b : List Int) (h1 : SlI w k1 a) (h2 : SlI w k2 b) (ha : okKey a) (hb : okKey b) (_hv1 : e1.cells.size = 1) (_hv2 : e2.cells.size = 1) :
    Calls Tryz.prog 59 #[.agg #[k1, e1], .agg #[k2, e2]] w fun e w' => e = .returned (.int .i64 (cmpK a b)) ∧ ∃ q os', w' = grow (w.drewN q) os' := by
  have hs1 := h1
  have hs2 := h2
  obtain ⟨x, hx⟩ : ∃ x, a[0]? = some x := ⟨a[0]'(by have := ha.1; omega), List.getElem?_eq_getElem _⟩
  obtain ⟨y, hy⟩ : ∃ y, b[0]? = some y := ⟨b[0]'(by have := hb.1; omega), List.getElem?_eq_getElem _⟩
  have ha0 : a.headD 0 = x := by cases a with | nil => simp at hx | cons c r => simpa using hx
  have hb0 : b.headD 0 = y := by cases b with | nil => simp at hy | cons c r => simpa using hy
  have hres : cmpK a b = orS (cmpS x y) (cmpS a.length b.length) (lexS a b) := by rw [cmpK, ha0, hb0]
  rw [hres]
  obtain ⟨a1, c1, rfl, hc1, _, ho1⟩ := h1.open
  obtain ⟨a2, c2, rfl, hc2, _, ho2⟩ := h2.open
  obtain ⟨b1, o1, rfl, hb1, hcell1⟩ := ho1 ha.1
  obtain ⟨b2, o2, rfl, hb2, hcell2⟩ := ho2 hb.1
  have d1 := hcell1 0 x hx
  have d2 := hcell2 0 y hy
  have la : 0 < a.length := ha.1
  have lb : 0 < b.length := hb.1
  have la3 : a.length ≤ 3 := ha.2.1
  have lb3 : b.length ≤ 3 := hb.2.1
  rw [Nat.add_zero] at d1 d2
  have HS := Lib.hid (And.intro hs1 hs2)
  have g1 := fun w => cmpI_any w x y
  have g2 := fun w => cmpI_any w (a.length : Int) (b.length : Int)
  clear ha0 hb0 hres hx hy ho1 ho2 hcell1 hcell2 hs1 hs2 h1 h2 ha hb
  go_enter Tryz.func59, Tryz.ntmps59
  go_wp2_with fail
  refine wp_tail 21 (by kernel_rfl) (by kernel_rfl) (fun wd hwd => ?_)
  have hbd : Below w.heap.size w wd := by rw [hwd]; exact Below.drewN (((Below.refl _ _).alloc (Nat.le_refl _) _).alloc (by simp) _) 1
  have q1 := (hbd.cell (p := ⟨b1, o1, none⟩) hb1).trans d1
  have q2 := (hbd.cell (p := ⟨b2, o2, none⟩) hb2).trans d2
  have p1 : wd.cell? ⟨w.heap.size, 0, none⟩ = some (.slice (some ⟨b1, o1, none⟩) a.length c1) := by rw [hwd]; simp
  have p2 : wd.cell? ⟨w.heap.size + 1, 0, none⟩ = some (.slice (some ⟨b2, o2, none⟩) b.length c2) := by rw [hwd]; simp
  have g3 := lex_any wd _ _ a b (HS.out.1.below hbd) (HS.out.2.below hbd) (by omega) (by omega)
  have HW := Lib.hid hwd
  clear hbd d1 d2 hwd
  simp only [List.take_succ_cons, List.take_zero, List.drop_succ_cons, List.drop_zero]
  repeat still_step
  have flip : ∀ {f args v}, (Calls Tryz.prog f args wd fun e w' => e = .returned v ∧ wd = w') → Calls Tryz.prog f args wd fun e w' => e = .returned v ∧ w' = wd := fun h => h.mono fun _ _ h => ⟨h.1, h.2.symm⟩
  have s1 : Calls Tryz.prog 61 #[.int .i64 x, .int .i64 y] wd fun e w' => e = .returned (.int .i64 (cmpS x y)) ∧ w' = wd := flip (g1 wd)
  have s2 : Calls Tryz.prog 61 #[.int .i64 (a.length : Int), .int .i64 (b.length : Int)] wd fun e w' => e = .returned (.int .i64 (cmpS a.length b.length)) ∧ w' = wd := flip (g2 wd)
  have s3 := flip g3
  have HC := Lib.hid (And.intro s1 (And.intro s2 s3))
  clear g1 g2 g3 s1 s2 s3 flip
  still_call HC.out.1
  repeat still_step
  still_call HC.out.2.1
  repeat still_step
  still_call HC.out.2.2
  refine wpStill_nil ?_
  clear p1 p2 q1 q2 HC
  have horr := or_any (wd.alloc (.cells #[.int .i64 (cmpS x y), .int .i64 (cmpS a.length b.length), .int .i64 (lexS a b)] 3)) wd.heap.size 3 (cmpS x y) (cmpS a.length b.length) (lexS a b) (by simp) (by simp) (by simp)
  go_wp2_with fail
  refine horr.mono ?_
  rintro e w' ⟨rfl, rfl⟩
  go_wp2_with fail
  go_ret
  refine ⟨rfl, 1, #[.cells #[.slice (some ⟨b1, o1, none⟩) a.length c1, e1] 45, .cells #[.slice (some ⟨b2, o2, none⟩) b.length c2, e2] 45, .cells #[.int .i64 (cmpS x y), .int .i64 (cmpS a.length b.length), .int .i64 (lexS a b)] 3], ?_⟩
  rw [HW.out]
  exact grow3 _ _ _ _
end Go.Proofs.YtccdkchmeelkfaaGreatDoor

/- (S5) The order of keys is a reckoning's order. No memory. -/
namespace Go.Proofs.YtccdkchmeelkfaaGreatDoor

def codeK : List Int → Int
  | [x] => (x * 4 + 1) * 17592186044416
  | [x, y] => (x * 4 + 2) * 17592186044416 + y * 4194304
  | [x, y, z] => (x * 4 + 3) * 17592186044416 + y * 4194304 + z
  | _ => 0

theorem cmpK_lt {a b : List Int} (ha : okKey a) (hb : okKey b) : cmpK a b < 0 ↔ codeK a < codeK b := by
  have ba : ∀ c ∈ a, 0 ≤ c ∧ c ≤ 1114367 := fun c hc => isSign_bd (ha.2.2 c hc)
  have bb : ∀ c ∈ b, 0 ≤ c ∧ c ≤ 1114367 := fun c hc => isSign_bd (hb.2.2 c hc)
  obtain ⟨a1, a3, _⟩ := ha
  obtain ⟨b1, b3, _⟩ := hb
  have cs : ∀ u v : Int, cmpS u v = 0 ↔ u = v := fun u v => by unfold cmpS; split; omega; split <;> omega
  have cl : ∀ u v : Int, cmpS u v < 0 ↔ u < v := fun u v => by unfold cmpS; split; omega; split <;> omega
  match a, b, a1, a3, b1, b3, ba, bb with
  | [x], [p], _, _, _, _, ba, bb =>
    simp at ba bb
    simp only [cmpK, codeK, orS, lexS, List.headD_cons, List.length_cons, List.length_nil]
    have := cs x p; have := cl x p
    by_cases h : cmpS x p = 0
    · simp [cmpS]; split <;> (try split) <;> omega
    · simp [h]; omega
  | [x], [p, q], _, _, _, _, ba, bb =>
    simp at ba bb
    simp only [cmpK, codeK, orS, lexS, List.headD_cons, List.length_cons, List.length_nil]
    have := cs x p; have := cl x p
    by_cases h : cmpS x p = 0
    · simp [cmpS]; omega
    · simp [h]; omega
  | [x], [p, q, r], _, _, _, _, ba, bb =>
    simp at ba bb
    simp only [cmpK, codeK, orS, lexS, List.headD_cons, List.length_cons, List.length_nil]
    have := cs x p; have := cl x p
    by_cases h : cmpS x p = 0
    · simp [cmpS]; omega
    · simp [h]; omega
  | [x, y], [p], _, _, _, _, ba, bb =>
    simp at ba bb
    simp only [cmpK, codeK, orS, lexS, List.headD_cons, List.length_cons, List.length_nil]
    have := cs x p; have := cl x p
    by_cases h : cmpS x p = 0
    · simp [cmpS]; omega
    · simp [h]; omega
  | [x, y], [p, q], _, _, _, _, ba, bb =>
    simp at ba bb
    simp only [cmpK, codeK, orS, lexS, List.headD_cons, List.length_cons, List.length_nil]
    have := cs x p; have := cl x p
    by_cases h : cmpS x p = 0
    · have e : x = p := (cs x p).1 h
      subst e
      simp [cmpS]; split <;> (try split) <;> omega
    · simp [h]; omega
  | [x, y], [p, q, r], _, _, _, _, ba, bb =>
    simp at ba bb
    simp only [cmpK, codeK, orS, lexS, List.headD_cons, List.length_cons, List.length_nil]
    have := cs x p; have := cl x p
    by_cases h : cmpS x p = 0
    · simp [cmpS]; omega
    · simp [h]; omega
  | [x, y, z], [p], _, _, _, _, ba, bb =>
    simp at ba bb
    simp only [cmpK, codeK, orS, lexS, List.headD_cons, List.length_cons, List.length_nil]
    have := cs x p; have := cl x p
    by_cases h : cmpS x p = 0
    · simp [cmpS]; omega
    · simp [h]; omega
  | [x, y, z], [p, q], _, _, _, _, ba, bb =>
    simp at ba bb
    simp only [cmpK, codeK, orS, lexS, List.headD_cons, List.length_cons, List.length_nil]
    have := cs x p; have := cl x p
    by_cases h : cmpS x p = 0
    · simp [cmpS]; omega
    · simp [h]; omega
  | [x, y, z], [p, q, r], _, _, _, _, ba, bb =>
    simp at ba bb
    simp only [cmpK, codeK, orS, lexS, List.headD_cons, List.length_cons, List.length_nil]
    have := cs x p; have := cl x p
    by_cases h : cmpS x p = 0
    · have e : x = p := (cs x p).1 h
      subst e
      simp [cmpS]; split <;> (try split) <;> (try split) <;> (try split) <;> omega
    · simp [h]; omega
end Go.Proofs.YtccdkchmeelkfaaGreatDoor

/- (M9) Elements in memory of the call's own that may be written in place. -/
namespace Go.Proofs.YtccdkchmeelkfaaGreatDoor
open Go.RowKit Go.Sort

/-- A slice of elements whose block (laid since base) holds them and may be written; how far it reaches behind them is left open. -/
def OwnE (w : World) (base : Nat) (v : Value) (l : List Nat) : Prop :=
  (∀ e ∈ l, e < 4294967296) ∧ ((v = .slice none 0 0 ∧ l = []) ∨ ∃ g c cur, v = .slice (some ⟨g, 0, none⟩) l.length c ∧ base ≤ g ∧ w.heap[g]? = some (.cells cur 47 (0, 0)) ∧ l.length ≤ c ∧ cur.toList.take l.length = cellsE l)

theorem OwnE.sl {w : World} {base : Nat} {v : Value} {l : List Nat} (h : OwnE w base v l) : SlE w v l := by
  obtain ⟨h0, ⟨rfl, rfl⟩ | ⟨g, c, cur, rfl, _, hb, hc, ht⟩⟩ := h
  · exact ⟨Sl.nil w 1 0 none fun _ => rfl, by simp⟩
  · refine ⟨⟨by simp, _, c, rfl, hc, (fun h => by cases h), fun _ => ⟨g, 0, rfl, (Array.getElem?_eq_some_iff.1 hb).1, fun j x hj => ?_⟩⟩, h0⟩
    have hjl : j < l.length := by have := (List.getElem?_eq_some_iff.1 hj).1; simpa using this
    have h1 : (cur.toList.take l.length)[j]? = some x := by rw [ht]; exact hj
    rw [List.getElem?_take_of_lt hjl, Array.getElem?_toList] at h1
    rw [Nat.zero_add]
    exact cell_of_block hb h1
theorem OwnE.grown {w w' : World} {base : Nat} {v : Value} {l : List Nat} {row : Option Nat} (h : OwnE w base v l) (hg : w.grownBy w' row) (hne : v.ownBlock = none ∨ v.ownBlock ≠ row) : OwnE w' base v l := by
  obtain ⟨h0, ⟨rfl, rfl⟩ | ⟨g, c, cur, rfl, hbase, hb, hc, ht⟩⟩ := h
  · exact ⟨h0, .inl ⟨rfl, rfl⟩⟩
  · refine ⟨h0, .inr ⟨g, c, cur, rfl, hbase, (hg.block g (Array.getElem?_eq_some_iff.1 hb).1 ?_).trans hb, hc, ht⟩⟩
    rcases hne with h | h
    · simp [Value.ownBlock] at h
    · simpa [Value.ownBlock] using h
theorem OwnE.below {w w' : World} {base : Nat} {v : Value} {l : List Nat} (h : OwnE w base v l) (hb : Below w.heap.size w w') : OwnE w' base v l := by
  obtain ⟨h0, ⟨rfl, rfl⟩ | ⟨g, c, cur, rfl, hbase, hb', hc, ht⟩⟩ := h
  · exact ⟨h0, .inl ⟨rfl, rfl⟩⟩
  · exact ⟨h0, .inr ⟨g, c, cur, rfl, hbase, (hb.block g (Array.getElem?_eq_some_iff.1 hb').1).trans hb', hc, ht⟩⟩
/-- A row of the call's own, clipped. -/
theorem OwnE.clip {w : World} {base : Nat} {a : Option Addr} {c : Nat} {l : List Nat} (h : w.ownsRow base 47 1 (.slice a l.length c) l.length (cellsE l)) (hl : ∀ e ∈ l, e < 4294967296) : OwnE w base (.slice a l.length l.length) l := by
  obtain ⟨_, h⟩ := h
  rcases h with ⟨hn, hz⟩ | ⟨g, cap, cur, hv, hbase, hb, r1, r2, r3, r4⟩
  · simp only [Value.slice.injEq] at hn
    exact ⟨hl, .inl ⟨by rw [hz, hn.1], List.eq_nil_of_length_eq_zero hz⟩⟩
  · cases hv
    exact ⟨hl, .inr ⟨g, l.length, cur, rfl, hbase, hb, Nat.le_refl _, by simpa using r4⟩⟩
theorem OwnE.obj {w : World} {base : Nat} {v : Value} {l : List Nat} (h : OwnE w base v l) {j : Nat} {o : Obj} (hj : w.heap[j]? = some o) (hno : ∀ cur, o ≠ .cells cur 47 (0, 0)) : v.ownBlock = none ∨ v.ownBlock ≠ some j := by
  obtain ⟨_, ⟨rfl, rfl⟩ | ⟨g, c, cur, rfl, _, hb, _⟩⟩ := h
  · exact .inl rfl
  · refine .inr fun e => ?_
    have : g = j := by simpa [Value.ownBlock] using e
    subst this; rw [hb] at hj; cases hj; exact hno cur rfl
theorem OwnE.blt {w : World} {base : Nat} {v : Value} {l : List Nat} (h : OwnE w base v l) {b : Nat} (hb : v.ownBlock = some b) : base ≤ b ∧ b < w.heap.size := by
  obtain ⟨_, ⟨rfl, rfl⟩ | ⟨g, c, cur, rfl, h1, h2, _⟩⟩ := h
  · simp [Value.ownBlock] at hb
  · have : g = b := by simpa [Value.ownBlock] using hb
    subst this; exact ⟨h1, (Array.getElem?_eq_some_iff.1 h2).1⟩
/-- One element written. -/
theorem OwnE.write {w' : World} {base g c i : Nat} {l : List Nat} {cur : Array Value} {x : Nat} (ht : cur.toList.take l.length = cellsE l) (hl : ∀ e ∈ l, e < 4294967296) (hx : x < 4294967296) (hc : l.length ≤ c) (hbase : base ≤ g)
    (h : w'.heap[g]? = some (.cells (cur.setIfInBounds i (.int .u32 (x : Nat))) 47 (0, 0))) : OwnE w' base (.slice (some ⟨g, 0, none⟩) l.length c) (l.set i x) := by
  refine ⟨fun e he => ?_, .inr ⟨g, c, _, by simp, hbase, h, by simpa using hc, ?_⟩⟩
  · rcases List.mem_or_eq_of_mem_set he with he | he
    · exact hl e he
    · rw [he]; exact hx
  · rw [Array.toList_setIfInBounds, List.length_set, List.take_set, ht]
    simp [cellsE, List.map_set]
end Go.Proofs.YtccdkchmeelkfaaGreatDoor

/- (W22) slices.SortFunc of a table's entries: the same entries, in another order. -/
namespace Go.Proofs.YtccdkchmeelkfaaGreatDoor
open Go.RowKit Go.Shelf Go.Sort

/-- An entry in memory: where its key and its elements lie, and what they are. -/
structure EntM where
  kv : Value
  ev : Value
  k : List Int
  l : List Nat
def encE (x : EntM) : List Value := [x.kv, x.ev]


theorem aggEntry (w : World) : (isAgg 45).run Tryz.prog w = .ok true w := by kernel_rfl
theorem sizeEntry (w : World) : (Go.sizeOf 45).run Tryz.prog w = .ok 2 w := by kernel_rfl

theorem esort_any (w : World) (base g cap : Nat) (E : List EntM) (h0 : 0 < E.length) (hE2 : E.length ≤ 1000000) (hrow : w.ownsRow base 45 2 (.slice (some ⟨g, 0, none⟩) E.length cap) E.length (E.flatMap encE))
    (hE : ∀ x ∈ E, w.ownsRow base 3 1 x.kv x.k.length (x.k.map (Value.int .i64)) ∧ okKey x.k ∧ x.ev.cells.size = 1 ∧ x.ev.oneCell' = true) :
    Calls Tryz.prog 58 #[.slice (some ⟨g, 0, none⟩) E.length cap, .func (.func 59) #[] #[]] w fun e w' => e = .returned (.tuple #[]) ∧ ∃ E' : List EntM, E'.Perm E ∧ w'.ownsRow base 45 2 (.slice (some ⟨g, 0, none⟩) E.length cap) E.length (E'.flatMap encE) ∧ w.grownBy w' (some g) := by
  haveI : Inhabited {x : EntM // x ∈ E} := ⟨⟨E[0], List.getElem_mem h0⟩⟩
  have hr := hrow
  obtain ⟨_, hr⟩ := hr
  rcases hr with ⟨hn, _⟩ | ⟨g', cap', cur, hv, hbase, hgb, r1, r2, r3, r4⟩
  · cases hn
  cases hv
  let enc : {x : EntM // x ∈ E} → List Value := fun x => encE x.1
  have hk : ∀ x, (enc x).length = 2 := fun _ => rfl
  have hatt : E.attach.toArray.toList.flatMap enc = E.flatMap encE := by
    show E.attach.flatMap (fun x => encE x.1) = _
    rw [List.flatMap_subtype (g := encE) (fun _ _ => rfl)]
    simp
  have hF : (flatK enc 2 E.attach.toArray).toList = E.flatMap encE := by rw [flatK_list hk, hatt]
  have hFs : (flatK enc 2 E.attach.toArray).size = E.length * 2 := by simp
  have hH : HoldsK enc 2 w g 0 E.attach.toArray := holds_block_id hgb (by rw [hFs, hF]; exact r4)
  have hgl : g < w.heap.size := (Array.getElem?_eq_some_iff.1 hgb).1
  have hone : ∀ (x : {x : EntM // x ∈ E}), ∀ v ∈ enc x, v.oneCell' = true := by
    intro x v hv
    have hx := hE x.1 x.2
    simp only [enc, encE, List.mem_cons, List.not_mem_nil, or_false] at hv
    rcases hv with rfl | rfl
    · obtain ⟨a, c, e, _⟩ := owns_slice hx.1; rw [e]; rfl
    · exact hx.2.2.2
  have hcmp : CmpLays Tryz.prog 59 #[] enc 2 (fun x y => cmpK x.1.k y.1.k) g 0 E.attach.toArray.size w := by
    intro m os dk hs x y
    have hg : w.grownBy (sortWorldK enc 2 w g 0 m dk os) (some g) := grownBy_sortK _
    have sl : ∀ z : {x : EntM // x ∈ E}, SlI (sortWorldK enc 2 w g 0 m dk os) z.1.kv z.1.k := fun z => by
      have hz := (hE z.1 z.2).1
      exact Sl.grown (Sl.of_owns hz) hg (ownsRow_ne_a hz hgb (fun _ e => by cases e))
    exact ecmp_any _ x.1.kv x.1.ev y.1.kv y.1.ev x.1.k y.1.k (sl x) (sl y) (hE x.1 x.2).2.1 (hE y.1 y.2).2.1 (hE x.1 x.2).2.2.1 (hE y.1 y.2).2.2.1
  have hlt : ∀ x y : {x : EntM // x ∈ E}, ltOf (fun x y : {x : EntM // x ∈ E} => cmpK x.1.k y.1.k) x y = decide (codeK x.1.k < codeK y.1.k) := fun x y => by
    unfold ltOf
    exact decide_eq_decide.2 (cmpK_lt (hE x.1 x.2).2.1 (hE y.1 y.2).2.1)
  have hO : SWO (ltOf (fun x y : {x : EntM // x ∈ E} => cmpK x.1.k y.1.k)) :=
    { irrefl := fun x => by rw [hlt]; simp
      trans := fun x y z h1 h2 => by rw [hlt] at *; simp at *; omega
      ntrans := fun x y z h1 h2 => by rw [hlt] at *; simp at *; omega }
  have eg : ∀ args w, (callFunc 59 args).run Tryz.prog w = .ok (.enter 59 args) w := enters_of Tryz.func59 (by kernel_rfl) rfl
  have hds : E.attach.toArray.size = E.length := by simp
  have hcon := AnyQ.slices_SortFunc Tryz.sortE 2 aggEntry sizeEntry enc hk hone (fun x y => cmpK x.1.k y.1.k) hO 59 #[] g 0 cap E.attach.toArray w eg hcmp hH hgl (by rw [hds]; omega)
  rw [hds] at hcon
  refine hcon.mono ?_
  rintro e w' ⟨rfl, d', n, os, hp, _, rfl⟩
  obtain ⟨hp1, _, hp3⟩ := hp
  rw [hds] at hp1
  have hpl : d'.toList.Perm E.attach := by
    have e1 : d'.extract 0 E.length = d' := by have h := Array.extract_size (xs := d'); rwa [hp1] at h
    have e2 : E.attach.toArray.extract 0 E.length = E.attach.toArray := by have h := Array.extract_size (xs := E.attach.toArray); rwa [hds] at h
    rw [e1, e2] at hp3; simpa using hp3
  refine ⟨rfl, d'.toList.map (·.1), ?_, ?_, grownBy_sortK _⟩
  · have := hpl.map (·.1)
    rwa [List.attach_map_subtype_val] at this
  · have := owns_sortK (base := base) (n := n) (os := os) hk hp1 hbase hgb r1 r2 r3
    have e3 : d'.toList.flatMap enc = (d'.toList.map (·.1)).flatMap encE := by rw [List.flatMap_map]
    rw [e3] at this
    exact this
end Go.Proofs.YtccdkchmeelkfaaGreatDoor
