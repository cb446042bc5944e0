/- TailorPlaces' walk. -/
import Derived.Test.YtccdkchmeelkfaaGreatDoorW39
import Derived.Test.YtccdkchmeelkfaaGreatDoorS16
import Derived.Test.YtccdkchmeelkfaaGreatDoorB1
namespace Go.Proofs.YtccdkchmeelkfaaGreatDoor
open Go.RowKit

theorem conv1 (w : World) (v : Int) : (convert 24 9 (.slice (some ⟨w.heap.size, 0, none⟩) 1 1)).run Tryz.prog (w.alloc (.cells #[.int .u8 v] 5)) = .ok (.string (strOfNums [v])) (w.alloc (.cells #[.int .u8 v] 5)) := by
  refine run_convert_bytes_arg _ 24 5 Tryz.underlying24 Tryz.underlying5 w.heap.size 0 1 1 [v] rfl (fun i hi => ?_) 9 Tryz.underlying9
  obtain rfl : i = 0 := by omega
  exact cell_of_block (heap_alloc_last w _) rfl
theorem conv2 (w : World) (o : Obj) (v : Int) : (convert 24 9 (.slice (some ⟨w.heap.size + 1, 0, none⟩) 1 1)).run Tryz.prog ((w.alloc o).alloc (.cells #[.int .u8 v] 5)) = .ok (.string (strOfNums [v])) ((w.alloc o).alloc (.cells #[.int .u8 v] 5)) := by
  have := conv1 (w.alloc o) v
  rwa [World.size_alloc] at this
theorem conv3 (w : World) (o o2 : Obj) (v : Int) : (convert 24 9 (.slice (some ⟨w.heap.size + 2, 0, none⟩) 1 1)).run Tryz.prog (((w.alloc o).alloc o2).alloc (.cells #[.int .u8 v] 5)) = .ok (.string (strOfNums [v])) (((w.alloc o).alloc o2).alloc (.cells #[.int .u8 v] 5)) := by
  have := conv2 (w.alloc o) o2 v
  rwa [World.size_alloc] at this
theorem one_signs {x : Int} (h0 : 0 ≤ x) (h : x < 128) : signsT (strOfNums [x]).data.toList = [x] := by
  rw [signsT_ascii, strOf_map]
  · intro y hy; simp at hy; subst hy; omega
  · intro b hb
    rw [strOfNums_data] at hb
    simp at hb
    subst hb
    rw [UInt8.toNat_ofNat']; omega
theorem one_eq {x y : Int} (hx : 0 ≤ x ∧ x < 128) (hy : 0 ≤ y ∧ y < 128) : ((strOfNums [x]).toList == (strOfNums [y]).toList) = decide (x = y) := by
  by_cases h : x = y
  · subst h; simp
  · have : (strOfNums [x]).toList ≠ (strOfNums [y]).toList := by
      rw [ByteArray.toList_eq, ByteArray.toList_eq]
      intro e
      have h1 := one_signs hx.1 hx.2
      rw [e, one_signs hy.1 hy.2] at h1
      simp at h1; exact h h1.symm
    simp [h, this]
theorem one_at {x : Int} (hx : 0 ≤ x ∧ x < 128) (h : 0 < (strOfNums [x]).size) : (((strOfNums [x])[0]'h).toNat : Int) = x := by
  have : (strOfNums [x])[0]'h = UInt8.ofNat x.toNat := rfl
  rw [this, UInt8.toNat_ofNat']; omega
theorem tri0 (w : World) {o1 o2 o3 : Obj} : (((w.alloc o1).alloc o2).alloc o3).drew.heap[w.heap.size]? = some o1 :=
  blk_below (heap_alloc_last w o1) (Below.drew1 (Below.alloc1 (Below.alloc1 (Below.refl _ _) _) _))
theorem tri1 (w : World) {o1 o2 o3 : Obj} : (((w.alloc o1).alloc o2).alloc o3).drew.heap[w.heap.size + 1]? = some o2 := by
  have := heap_alloc_last (w.alloc o1) o2
  rw [World.size_alloc] at this
  exact blk_below this (Below.drew1 (Below.alloc1 (Below.refl _ _) _))
theorem tri2 (w : World) {o1 o2 o3 : Obj} : (((w.alloc o1).alloc o2).alloc o3).drew.heap[w.heap.size + 1 + 1]? = some o3 := by
  have := heap_alloc_last ((w.alloc o1).alloc o2) o3
  rw [World.size_alloc, World.size_alloc] at this
  exact this

/-- law6.Of at two rules, one of an anchor, one of one sign. -/
theorem ofTwo_any (W : World) (n b1 b2 : Nat) (x y r : Int) (t : TypeId) (hr : i64ok r) (h1 : W.heap[b1]? = some (.cells #[.int .i64 x] 3)) (h2 : W.heap[b2]? = some (.cells #[.int .i64 y] 3))
    (hn : W.heap[n]? = some (.cells #[.int .i64 1, .slice (some ⟨b1, 0, none⟩) 1 1, .slice none 0 0, .int .i64 r, .slice (some ⟨b2, 0, none⟩) 1 1, .slice none 0 0] t)) :
    Calls Tryz.prog 24 #[.slice (some ⟨n, 0, none⟩) 2 2] W
    fun e w' => ∃ v', e = .returned v' ∧ RulesAt w' v' [⟨1, [x], []⟩, ⟨r, [y], []⟩] ∧ Below W.heap.size W w' := by
  have g1 : SlI W (.slice (some ⟨b1, 0, none⟩) 1 1) [x] := SlI.blk (l := [x]) h1
  have g2 : SlI W (.slice (some ⟨b2, 0, none⟩) 1 1) [y] := SlI.blk (l := [y]) h2
  have hlt := (Array.getElem?_eq_some_iff.1 hn).1
  refine (lawOf_any _ _ [⟨⟨1, [x], []⟩, .slice (some ⟨b1, 0, none⟩) 1 1, .slice none 0 0⟩, ⟨⟨r, [y], []⟩, .slice (some ⟨b2, 0, none⟩) 1 1, .slice none 0 0⟩] ⟨rfl, _, 2, rfl, Nat.le_refl _, (fun h => by cases h), fun _ => ⟨_, 0, rfl, hlt, fun j x hj => ?_⟩⟩ ?_ (by simp)).mono ?_
  · rw [Nat.zero_add]
    exact cell_of_block hn (by rw [← Array.getElem?_toList]; exact hj)
  · intro x hx
    simp only [List.mem_cons, List.not_mem_nil, or_false] at hx
    rcases hx with rfl | rfl
    · exact ⟨⟨g1, SlI.nil _⟩, by simp, by simp, by simp, by simp, by unfold i64ok; simp⟩
    · exact ⟨⟨g2, SlI.nil _⟩, by simp, by simp, by simp, by simp, hr⟩
  · rintro e w' ⟨v', rfl, hr, hb'⟩
    exact ⟨v', rfl, hr, hb'⟩
theorem rules_slice {w : World} {v : Value} {L : List RuleP} (h : RulesAt w v L) : ∃ a n c, v = .slice a n c := by
  obtain ⟨R, _, hrow, _⟩ := h
  obtain ⟨_, a, c, e, _⟩ := hrow
  exact ⟨a, _, c, e⟩
theorem fit_two {x y r : Int} (hx : i64ok x) (hy : i64ok y) (hr : i64ok r) : FitL [⟨1, [x], []⟩, ⟨r, [y], []⟩] := by
  intro z hz
  simp only [List.mem_cons, List.not_mem_nil, or_false] at hz
  rcases hz with rfl | rfl
  · exact ⟨by unfold i64ok; simp, ⟨by simp, by simpa using hx⟩, ⟨by simp, by simp⟩⟩
  · exact ⟨hr, ⟨by simp, by simpa using hy⟩, ⟨by simp, by simp⟩⟩
theorem and3 (a : Int) : ∃ N : Nat, N < 3 ∧ (bits .and .i64 a 65535).tmod 3 = (N : Int) := by
  obtain ⟨m, hm, h⟩ := and16 a
  refine ⟨m % 3, Nat.mod_lt _ (by decide), ?_⟩
  rw [h]
  rfl

set_option maxRecDepth 100000 in
set_option maxHeartbeats 4000000 in
theorem places_any (w : World) (a b c l : Int) (ha : 0 ≤ a ∧ a < 256) (hb : 0 ≤ b ∧ b < 256) (hc : 0 ≤ c ∧ c < 256) (hU : U8 w) :
    Calls Tryz.prog 8 #[.int .u8 a, .int .u8 b, .int .u8 c, .int .i64 l] w fun e w' => e = .returned (.bool true) ∧ Below w.heap.size w w' := by
  have hX : 97 ≤ 97 + a % 26 ∧ 97 + a % 26 ≤ 122 := by omega
  have hY : 97 ≤ 97 + b % 26 ∧ 97 + b % 26 ≤ 122 := by omega
  have hZ : 97 ≤ 97 + c % 26 ∧ 97 + c % 26 ≤ 122 := by omega
  have e1 := one_eq (x := 97 + a % 26) (y := 97 + b % 26) (by omega) (by omega)
  have e2 := one_eq (x := 97 + c % 26) (y := 97 + a % 26) (by omega) (by omega)
  have e3 := one_eq (x := 97 + c % 26) (y := 97 + b % 26) (by omega) (by omega)
  have hcv := fun v => conv1 w v
  have hcv2 := fun o v => conv2 w o v
  have hcv3 := fun o o2 v => conv3 w o o2 v
  have hb3 : ∀ o1 o2 o3, Below w.heap.size w (((w.alloc o1).alloc o2).alloc o3) := fun o1 o2 o3 => Below.alloc1 (Below.alloc1 (Below.alloc1 (Below.refl _ _) _) _) _
  have HB := Lib.hid hb3
  clear hb3
  by_cases hxy : 97 + a % 26 = 97 + b % 26
  · have haw := awake_any _ (hU.below (HB.out (.cells #[.int .u8 (97 + a % 26)] 5) (.cells #[.int .u8 (97 + b % 26)] 5) (.cells #[.int .u8 (97 + c % 26)] 5)))
    rw [decide_eq_true hxy] at e1
    clear hxy hU hX hY hZ e2 e3
    go_enter Tryz.func8, Tryz.ntmps8
    go_wp2_with fail
    refine haw.mono ?_
    clear haw
    rintro e w1 ⟨rfl, hb1⟩
    have HB1 := Lib.hid (Below.next (HB.out _ _ _) hb1)
    clear hb1
    go_wp2_with fail
    go_ret
    exact ⟨rfl, HB1.out⟩
  by_cases hzx : 97 + c % 26 = 97 + a % 26
  · have haw := awake_any _ (hU.below (HB.out (.cells #[.int .u8 (97 + a % 26)] 5) (.cells #[.int .u8 (97 + b % 26)] 5) (.cells #[.int .u8 (97 + c % 26)] 5)))
    rw [decide_eq_false hxy] at e1
    rw [decide_eq_true hzx] at e2
    clear hxy hzx hU hX hY hZ e3
    go_enter Tryz.func8, Tryz.ntmps8
    go_wp2_with fail
    refine haw.mono ?_
    clear haw
    rintro e w1 ⟨rfl, hb1⟩
    have HB1 := Lib.hid (Below.next (HB.out _ _ _) hb1)
    clear hb1
    go_wp2_with fail
    go_ret
    exact ⟨rfl, HB1.out⟩
  by_cases hzy : 97 + c % 26 = 97 + b % 26
  · have haw := awake_any _ (hU.below (HB.out (.cells #[.int .u8 (97 + a % 26)] 5) (.cells #[.int .u8 (97 + b % 26)] 5) (.cells #[.int .u8 (97 + c % 26)] 5)))
    rw [decide_eq_false hxy] at e1
    rw [decide_eq_false hzx] at e2
    rw [decide_eq_true hzy] at e3
    clear hxy hzx hzy hU hX hY hZ
    go_enter Tryz.func8, Tryz.ntmps8
    go_wp2_with fail
    refine haw.mono ?_
    clear haw
    rintro e w1 ⟨rfl, hb1⟩
    have HB1 := Lib.hid (Below.next (HB.out _ _ _) hb1)
    clear hb1
    go_wp2_with fail
    go_ret
    exact ⟨rfl, HB1.out⟩
  obtain ⟨K0, hK0, hKe⟩ := and3 l
  have hlv : lvl ((K0 : Int) + 1) := by unfold lvl; omega
  obtain ⟨T, hap, hlow, hat, hzz, hlt⟩ := places_law hX hY hZ hxy hzx hzy hlv
  have s1 := one_signs (x := 97 + a % 26) (by omega) (by omega)
  have s2 := one_signs (x := 97 + b % 26) (by omega) (by omega)
  have s3 := one_signs (x := 97 + c % 26) (by omega) (by omega)
  have g1 := one_at (x := 97 + a % 26) (by omega) (by show 0 < 1; decide)
  have g2 := one_at (x := 97 + b % 26) (by omega) (by show 0 < 1; decide)
  have sz1 : (strOfNums [97 + a % 26]).size = 1 := rfl
  have sz2 : (strOfNums [97 + b % 26]).size = 1 := rfl
  have wr1 : IntKind.i64.wrap (97 + a % 26) = 97 + a % 26 := IntWalk.i64_in _ (by omega)
  have wr2 : IntKind.i64.wrap (97 + b % 26) = 97 + b % 26 := IntWalk.i64_in _ (by omega)
  have wr3 : IntKind.i64.wrap (1 + ((K0 : Int) + 1)) = 1 + ((K0 : Int) + 1) := IntWalk.i64_in _ (by omega)
  have hok : ∀ x : Int, 0 ≤ x ∧ x < 200 → i64ok x := fun x hx => by unfold i64ok; omega
  rw [decide_eq_false hxy] at e1
  rw [decide_eq_false hzx] at e2
  rw [decide_eq_false hzy] at e3
  have HL := Lib.hid (And.intro hap (And.intro hlow (And.intro hat (And.intro hzz hlt))))
  have HS := Lib.hid (And.intro s1 (And.intro s2 (And.intro s3 (And.intro hX (And.intro hY (And.intro hZ hU))))))
  clear hap hlow hat hzz hlt s1 s2 s3 hX hY hZ hlv hxy hzx hzy hU
  have hrt := root_any (((w.alloc (.cells #[.int .u8 (97 + a % 26)] 5)).alloc (.cells #[.int .u8 (97 + b % 26)] 5)).alloc (.cells #[.int .u8 (97 + c % 26)] 5))
  go_enter Tryz.func8, Tryz.ntmps8
  go_wp2_with fail
  refine hrt.mono ?_
  clear hrt
  rintro e w1 ⟨p, rfl, hta, hb1⟩
  obtain ⟨tb, rfl⟩ := hta.ptr
  have H1 := Lib.hid (And.intro hta (Below.next (HB.out _ _ _) hb1))
  clear hta hb1 hcv hcv2 hcv3 e1 e2 e3
  go_wp2_with fail
  have hrb : i64ok (1 + ((K0 : Int) + 1)) := hok _ (by omega)
  have HO := Lib.hid (And.intro hok hrb)
  clear hok hrb
  go_region_held3 (fun _ => True) (trivial)
    (first
      | (go_at_call 24; refine (ofTwo_any _ _ _ _ _ _ _ _ HO.out.2 (by first | exact tri0 w1 | exact tri1 w1) (by first | exact tri0 w1 | exact tri1 w1) (tri2 w1)).mono ?_; rintro e w2 ⟨v2, rfl, hr2, hb2⟩; have hb2 := Below.next (Below.drew1 (Below.alloc1 (Below.alloc1 (Below.alloc1 (Below.refl w1.heap.size w1) _) _) _)) hb2; have H2 := Lib.hid (And.intro hr2 hb2); obtain ⟨va, vn, vc, rfl⟩ := rules_slice hr2; clear hr2 hb2)
      | (go_at_call 23; refine (apply_any _ _ _ rootS _ (H1.out.1.below H2.out.2) H2.out.1 (fit_two (HO.out.1 _ (by omega)) (HO.out.1 _ (by omega)) HO.out.2) (by simp)).mono ?_; rintro e w3 ⟨hb3, hm⟩; rw [HL.out.1] at hm; obtain ⟨p3, rfl, hta3⟩ := hm; obtain ⟨tb3, rfl⟩ := hta3.ptr; have hb3 := Below.next H2.out.2 hb3; have H3 := Lib.hid (And.intro hta3 hb3); clear hta3 hb3))
  all_goals
    have HB0 := Lib.hid (Below.next H1.out.2 H3.out.2)
    have hcm : ∀ (wx : World) (hx : Below w3.heap.size w3 wx) (u v : Int) (hu : 0 ≤ u ∧ u < 128) (hv : 0 ≤ v ∧ v < 128) (k : Int), Calls Tryz.prog 19 #[.pointer (some ⟨tb3, 0, none⟩), .string (strOfNums [u]), .string (strOfNums [v]), .int .i64 k] wx fun e w' => e = .returned (.int .i64 (cmpE k (ofS implW T [u]) (ofS implW T [v]))) ∧ Below wx.heap.size wx w' := by
      intro wx hx u v hu hv k
      have := cmp_any wx _ T (H3.out.1.below hx) (strOfNums [u]) (strOfNums [v]) (by show 1 ≤ 1000000; decide) (by show 1 ≤ 1000000; decide) k (HS.out.2.2.2.2.2.2.below (Below.next HB0.out hx))
      rwa [one_signs hu.1 hu.2, one_signs hv.1 hv.2] at this
    have hcr : ∀ (wx : World) (hx : Below w3.heap.size w3 wx) (u v : Int) (hu : 0 ≤ u ∧ u < 128) (hv : 0 ≤ v ∧ v < 128) (k : Int), Calls Tryz.prog 19 #[.pointer (some ⟨tb, 0, none⟩), .string (strOfNums [u]), .string (strOfNums [v]), .int .i64 k] wx fun e w' => e = .returned (.int .i64 (cmpE k (ofS implW rootS [u]) (ofS implW rootS [v]))) ∧ Below wx.heap.size wx w' := by
      intro wx hx u v hu hv k
      have := cmp_any wx _ rootS (H1.out.1.below (Below.next H3.out.2 hx)) (strOfNums [u]) (strOfNums [v]) (by show 1 ≤ 1000000; decide) (by show 1 ≤ 1000000; decide) k (HS.out.2.2.2.2.2.2.below (Below.next HB0.out hx))
      rwa [one_signs hu.1 hu.2, one_signs hv.1 hv.2] at this
    have hA : 0 ≤ 97 + a % 26 ∧ 97 + a % 26 < 128 := by omega
    have hB : 0 ≤ 97 + b % 26 ∧ 97 + b % 26 < 128 := by omega
    have hC : 0 ≤ 97 + c % 26 ∧ 97 + c % 26 < 128 := by omega
    have HC := Lib.hid (And.intro hcm (And.intro hcr (And.intro hA (And.intro hB hC))))
    clear g1 g2 wr1 wr2 wr3 sz1 sz2 hcm hcr hA hB hC
    go_wp2_with fail
    go_loopw [16] (fun i wr => ∃ q : Nat, 1 ≤ q ∧ q ≤ K0 + 1 ∧ i = .int .i64 q ∧ Below w3.heap.size w3 wr) (fun i _ => K0 + 1 - (RowKit.intOf i).toNat)
    case atStart => exact ⟨1, by omega, by omega, rfl, Below.refl _ _⟩
    case round =>
      obtain ⟨q, hq1, hq, rfl, hnx⟩ := hrel
      by_cases hq2 : q < K0 + 1
      · have hc := HC.out.1 wr hnx _ _ HC.out.2.2.1 HC.out.2.2.2.1 (q : Int)
        rw [HL.out.2.1 q (by unfold lvl; omega) (by omega)] at hc
        have HN := Lib.hid hnx
        clear hnx
        go_wp2_with fail
        refine hc.mono ?_
        clear hc
        rintro _ w4 ⟨rfl, hb4⟩
        have HN4 := Lib.hid (Below.next HN.out hb4)
        clear hb4
        go_wp2_with fail
        go_roundw
        case rel => exact ⟨q + 1, by omega, by omega, by go_num, HN4.out⟩
        case measure => simp [RowKit.intOf]; omega
      · obtain rfl : q = K0 + 1 := by omega
        have hc := HC.out.1 wr hnx _ _ HC.out.2.2.1 HC.out.2.2.2.1 ((K0 : Int) + 1)
        rw [HL.out.2.2.1] at hc
        have HN := Lib.hid hnx
        clear hnx
        go_wp2_with fail
        refine hc.mono ?_
        clear hc
        rintro _ w4 ⟨rfl, hb4⟩
        have hc := HC.out.1 w4 (Below.next HN.out hb4) _ _ HC.out.2.2.2.2 HC.out.2.2.1 1
        rw [HL.out.2.2.2.1] at hc
        obtain ⟨u, hu⟩ : ∃ u, cmpE 1 (ofS implW rootS [97 + c % 26]) (ofS implW rootS [97 + a % 26]) = u := ⟨_, rfl⟩
        rw [hu] at hc
        have HN4 := Lib.hid (Below.next HN.out hb4)
        clear hb4
        go_wp2_with fail
        refine hc.mono ?_
        clear hc
        rintro _ w5 ⟨rfl, hb5⟩
        have hc := HC.out.2.1 w5 (Below.next HN4.out hb5) _ _ HC.out.2.2.2.2 HC.out.2.2.1 1
        rw [hu] at hc
        have HN5 := Lib.hid (Below.next HN4.out hb5)
        clear hb5
        go_wp2_with fail
        refine hc.mono ?_
        clear hc
        rintro _ w6 ⟨rfl, hb6⟩
        have hc := HC.out.2.1 w6 (Below.next HN5.out hb6) _ _ HC.out.2.2.2.2 HC.out.2.2.1 1
        rw [hu] at hc
        have HN6 := Lib.hid (Below.next HN5.out hb6)
        clear hb6
        go_wp2_with fail
        refine hc.mono ?_
        clear hc
        rintro _ w7 ⟨rfl, hb7⟩
        have hc := HC.out.1 w7 (Below.next HN6.out hb7) _ _ HC.out.2.2.2.2 HC.out.2.2.2.1 1
        obtain ⟨u2, hu2⟩ : ∃ u2, cmpE 1 (ofS implW T [97 + c % 26]) (ofS implW T [97 + b % 26]) = u2 := ⟨_, rfl⟩
        rw [hu2] at hc
        have hlt := HL.out.2.2.2.2
        rw [hu, hu2] at hlt
        have HN7 := Lib.hid (Below.next HN6.out hb7)
        have HLT := Lib.hid hlt
        clear hb7 hu hu2 hlt
        go_wp2_with fail
        refine hc.mono ?_
        clear hc
        rintro _ w8 ⟨rfl, hb8⟩
        have HN8 := Lib.hid (Below.next HN7.out hb8)
        have haw := awake_any w8 (HS.out.2.2.2.2.2.2.below (Below.next HB0.out (Below.next HN7.out hb8)))
        have hlt : (decide (u < 0) == decide (u2 < 0)) = true := by rw [HLT.out]; simp
        clear hb8 HLT
        go_wp2_with fail
        refine haw.mono ?_
        clear haw
        rintro _ w9 ⟨rfl, hb9⟩
        have HN9 := Lib.hid (Below.next (Below.next HB0.out HN8.out) hb9)
        clear hb9
        go_wp2_with fail
        go_ret
        exact ⟨rfl, HN9.out⟩
end Go.Proofs.YtccdkchmeelkfaaGreatDoor
