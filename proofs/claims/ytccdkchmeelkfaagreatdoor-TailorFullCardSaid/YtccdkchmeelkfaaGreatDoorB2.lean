/- TailorFull's walk. -/
import Derived.Test.YtccdkchmeelkfaaGreatDoorA20
import Derived.Test.YtccdkchmeelkfaaGreatDoorA15
import Derived.Test.YtccdkchmeelkfaaGreatDoorB1

/- (W38) TailorFull's two rules. -/
namespace Go.Proofs.YtccdkchmeelkfaaGreatDoor
open Go.RowKit

def twoC (n : Nat) : Array Value := #[.int .i64 1, .slice (some ⟨n, 0, none⟩) 1 1, .slice none 0 0, .int .i64 4, .slice (some ⟨n + 1, 0, none⟩) 1 1, .slice none 0 0]
theorem fullOf (wr : World) (t : TypeId) : Calls Tryz.prog 24 #[.slice (some ⟨wr.heap.size + 2, 0, none⟩) 2 2] (((wr.alloc (.cells #[.int .i64 97] 3)).alloc (.cells #[.int .i64 49] 3)).alloc (.cells (twoC wr.heap.size) t))
    fun e w' => ∃ v', e = .returned v' ∧ RulesAt w' v' [⟨1, [97], []⟩, ⟨4, [49], []⟩] ∧ Below wr.heap.size wr w' := by
  have b1 := Below.alloc1 (Below.refl wr.heap.size wr) (.cells #[.int .i64 97] 3)
  have b2 := Below.alloc1 (Below.refl (wr.alloc (.cells #[.int .i64 97] 3)).heap.size (wr.alloc (.cells #[.int .i64 97] 3))) (.cells #[.int .i64 49] 3)
  have b3 := Below.alloc1 (Below.refl ((wr.alloc (.cells #[.int .i64 97] 3)).alloc (.cells #[.int .i64 49] 3)).heap.size _) (.cells (twoC wr.heap.size) t)
  have hb := Below.next (Below.next b1 b2) b3
  have h1 : SlI (((wr.alloc (.cells #[.int .i64 97] 3)).alloc (.cells #[.int .i64 49] 3)).alloc (.cells (twoC wr.heap.size) t)) (.slice (some ⟨wr.heap.size, 0, none⟩) 1 1) [97] := ((SlI.blk (l := [97]) (heap_alloc_last wr _)).below b2).below b3
  have h2 : SlI (((wr.alloc (.cells #[.int .i64 97] 3)).alloc (.cells #[.int .i64 49] 3)).alloc (.cells (twoC wr.heap.size) t)) (.slice (some ⟨wr.heap.size + 1, 0, none⟩) 1 1) [49] := by
    have := (SlI.blk (l := [49]) (heap_alloc_last (wr.alloc (.cells #[.int .i64 97] 3)) _)).below b3
    rw [World.size_alloc] at this
    exact this
  have hl := heap_alloc_last ((wr.alloc (.cells #[.int .i64 97] 3)).alloc (.cells #[.int .i64 49] 3)) (.cells (twoC wr.heap.size) t)
  rw [World.size_alloc, World.size_alloc] at hl
  have hlt := (Array.getElem?_eq_some_iff.1 hl).1
  refine (lawOf_any _ _ [⟨⟨1, [97], []⟩, .slice (some ⟨wr.heap.size, 0, none⟩) 1 1, .slice none 0 0⟩, ⟨⟨4, [49], []⟩, .slice (some ⟨wr.heap.size + 1, 0, none⟩) 1 1, .slice none 0 0⟩] ⟨rfl, _, 2, rfl, Nat.le_refl _, (fun h => by cases h), fun _ => ⟨_, 0, rfl, hlt, fun j x hj => ?_⟩⟩ ?_ (by simp)).mono ?_
  · rw [Nat.zero_add]
    exact cell_of_block hl (by rw [← Array.getElem?_toList]; exact hj)
  · intro x hx
    simp only [List.mem_cons, List.not_mem_nil, or_false] at hx
    rcases hx with rfl | rfl
    · exact ⟨⟨h1, SlI.nil _⟩, by simp, by simp, by simp, by simp, by unfold i64ok; simp⟩
    · exact ⟨⟨h2, SlI.nil _⟩, by simp, by simp, by simp, by simp, by unfold i64ok; simp⟩
  · rintro e w' ⟨v', rfl, hr, hb'⟩
    exact ⟨v', rfl, hr, Below.next hb hb'⟩
end Go.Proofs.YtccdkchmeelkfaaGreatDoor

/- (W37) TailorFull's walk. -/
namespace Go.Proofs.YtccdkchmeelkfaaGreatDoor
open Go.RowKit

set_option maxRecDepth 100000 in
set_option maxHeartbeats 2000000 in
theorem full_any (w : World) (a : Int) (hT : U8 w) :
    Calls Tryz.prog 4 #[.int .i64 a] w fun e w' => e = .returned (.bool true) ∧ Below w.heap.size w w' := by
  have hrt := root_any w
  have hap := apply_any
  have hen := entries_any
  have hwt := weight_any
  have HU := Lib.hid (And.intro hap (And.intro hen (And.intro hwt hT)))
  clear hap hen hwt hT
  obtain ⟨N, hN, hNe⟩ := and200 a
  go_enter Tryz.func4, Tryz.ntmps4
  go_wp2_with fail
  refine hrt.mono ?_
  clear hrt
  rintro e w1 ⟨p, rfl, hta, hb1⟩
  obtain ⟨tb, rfl⟩ := hta.ptr
  have H1 := Lib.hid (And.intro hta hb1)
  clear hta hb1
  go_wp2_with fail
  go_loopw [3, 4] (fun p i wr => ∃ (k : Nat) (T : Tab Nat), i = .int .i64 k ∧ TableAt wr p T ∧ Below w.heap.size w wr ∧ k ≤ 200 ∧ Hid (fullGo (200 - k) k T = true)) (fun _ i _ => 200 - (RowKit.intOf i).toNat)
  case atStart => exact ⟨0, rootS, rfl, H1.out.1, H1.out.2, by omega, Lib.hid fullGo_root⟩
  case round =>
    clear H1
    obtain ⟨k, T, rfl, hta, hnx, hk, hI⟩ := hrel
    obtain ⟨tb, rfl⟩ := hta.ptr
    by_cases hk1 : k < N
    · have hof := fullOf wr 39
      unfold twoC at hof
      have HX := Lib.hid (And.intro hta hnx)
      have hk2 : (k : Int) < N := by omega
      clear hta hnx
      go_wp2_with fail
      refine hof.mono ?_
      clear hof
      rintro e w2 ⟨v, rfl, hv, hb2⟩
      have hap := apply_any w2 _ v T fullL (HX.out.1.below hb2) hv (by intro x hx; simp [fullL] at hx; rcases hx with rfl | rfl <;> exact ⟨by unfold i64ok; simp, ⟨by simp, by simp [i64ok]⟩, ⟨by simp, by simp⟩⟩) (by simp [fullL])
      obtain ⟨va, vn, vc, rfl⟩ : ∃ a n c, v = .slice a n c := by
        obtain ⟨R, _, hrow, _⟩ := hv
        obtain ⟨_, a, c, e, _⟩ := hrow
        exact ⟨a, _, c, e⟩
      have HB := Lib.hid (Below.next HX.out.2 hb2)
      have HB2 := Lib.hid hb2
      clear hv hb2
      go_wp2_with fail
      refine hap.mono ?_
      clear hap
      rintro e w3 ⟨hb3, hm⟩
      have hq : ∃ (po : Option Addr) (c : Int), e = .returned (.tuple #[.pointer po, .int .i64 c]) ∧ ((po = none ∧ applyS T fullL = .error c) ∨ (∃ T' tb', po = some ⟨tb', 0, none⟩ ∧ c = 0 ∧ applyS T fullL = .ok T' ∧ TableAt w3 (.pointer po) T')) := by
        cases hA : applyS T fullL with
        | error c => rw [hA] at hm; exact ⟨none, c, hm, .inl ⟨rfl, rfl⟩⟩
        | ok T' =>
          rw [hA] at hm
          obtain ⟨p, rfl, ht⟩ := hm
          obtain ⟨tb', rfl⟩ := ht.ptr
          exact ⟨_, 0, rfl, .inr ⟨T', tb', rfl, rfl, rfl, ht⟩⟩
      obtain ⟨po, c, rfl, hq⟩ := hq
      have hta3 := HX.out.1.below (Below.next HB2.out hb3)
      have hok : okTab T := by obtain ⟨_, _, _, _, _, _, _, _, _, _, _, h⟩ := hta3; exact h
      have HOK := Lib.hid hok
      clear hok
      have hen := entries_any w3 _ T hta3
      have HQ := Lib.hid (And.intro hq (And.intro hta3 (Below.next HB.out hb3)))
      clear hm hq hta3 hb3
      go_wp2_with fail
      refine hen.mono ?_
      clear hen
      rintro e w4 ⟨v4, E, rfl, hE, hperm, hb4⟩
      obtain ⟨ea, ec, rfl, hEc, hop⟩ := hE.open
      have hEl : E.length ≤ 500 := by have := hperm.length_eq; simp at this; have := HOK.out.2.2.1; omega
      have hx8 : ∀ x ∈ E, x.l.length ≤ 8 := fun x hx => HOK.out.2.2.2 _ (hperm.mem_iff.1 (List.mem_map.2 ⟨x, hx, rfl⟩))
      have HE := Lib.hid (And.intro hE (And.intro hperm (And.intro hop hx8)))
      have HB4 := Lib.hid (Below.next HQ.out.2.2 hb4)
      have HB5 := Lib.hid hb4
      clear hE hperm hop hx8 hb4
      go_wp2_with fail
      go_loopw [7, 9] (fun m i wr => ∃ (q M : Nat), q ≤ E.length ∧ i = .int .i64 q ∧ m = .int .i64 M ∧ Below w4.heap.size w4 wr ∧ M ≤ 65535 ∧ Hid (M = lastT ((E.take q).map fun x => (x.k, x.l)))) (fun _ i _ => E.length - (RowKit.intOf i).toNat)
      case atStart => exact ⟨0, 0, Nat.zero_le _, rfl, rfl, Below.refl _ _, by omega, Lib.hid rfl⟩
      case round =>
        obtain ⟨q, M, hq, rfl, rfl, hr, hM, hIM⟩ := hrel
        by_cases hq1 : q < E.length
        · obtain ⟨b, o, rfl, hbb, hcell⟩ := HE.out.2.2.1 (by omega)
          obtain ⟨x, hx⟩ : ∃ x, E[q]? = some x := ⟨E[q], List.getElem?_eq_getElem hq1⟩
          obtain ⟨c1, c2⟩ := hcell q x hx
          have hxm := List.mem_of_getElem? hx
          have hxl := HE.out.2.2.2 x hxm
          have hsl : SlE w4 x.ev x.l := (HE.out.1.own x hxm).sl
          obtain ⟨xa, xc, hev, hxc, _, hxo⟩ := hsl.open
          rw [hev] at c2
          have HX2 := Lib.hid (And.intro hx (And.intro c2 (And.intro hbb (And.intro hxo hsl.2))))
          clear hcell hx c1 c2 hsl hev hxo hxm
          go_wp2_with fail
          go_loopw [7, 10] (fun m i wr2 => ∃ (j M2 : Nat), j ≤ x.l.length ∧ i = .int .i64 j ∧ m = .int .i64 M2 ∧ Below w4.heap.size w4 wr2 ∧ M2 ≤ 65535 ∧ Hid (M2 = (x.l.take j).foldl (fun m y => max m (wt 3 y)) M)) (fun _ i _ => x.l.length - (RowKit.intOf i).toNat)
          case atStart => exact ⟨0, M, Nat.zero_le _, rfl, rfl, hr, hM, Lib.hid rfl⟩
          case round =>
            clear hr
            obtain ⟨j, M2, hj, rfl, rfl, hr, hM2, hI2⟩ := hrel
            have c2 := (hr.cell (p := ⟨b, o + q * 2 + 1, none⟩) HX2.out.2.2.1).trans HX2.out.2.1
            by_cases hj1 : j < x.l.length
            · obtain ⟨yb, yo, rfl, hyb, hyc⟩ := HX2.out.2.2.2.1 (by omega)
              obtain ⟨y, hy⟩ : ∃ y, x.l[j]? = some y := ⟨x.l[j], List.getElem?_eq_getElem hj1⟩
              have c3 := (hr.cell (p := ⟨yb, yo + j, none⟩) hyb).trans (hyc j y hy)
              have hwy := HU.out.2.2.1 wr y (HX2.out.2.2.2.2 y (List.mem_of_getElem? hy)) 3
              have hw9 := wt_lt 3 (HX2.out.2.2.2.2 y (List.mem_of_getElem? hy))
              have HY := Lib.hid hy
              clear hyc hy
              go_wp2_with (go_at_call 26; refine hwy.mono ?_; rintro _ _ ⟨rfl, rfl⟩)
              go_roundw
              case rel =>
                refine ⟨j + 1, max M2 (wt 3 y), by omega, by go_num, by congr 1; omega, hr, by omega, Lib.hid ?_⟩
                rw [List.take_add_one, HY.out, List.foldl_append, ← hI2.out]
                rfl
              case measure => simp [RowKit.intOf]; omega
            · obtain rfl : j = x.l.length := by omega
              have hI3 := hI2.out
              rw [List.take_length] at hI3
              have HI3 := Lib.hid hI3
              clear hI3 hI2
              go_wp2_with fail
              go_roundw
              case rel =>
                refine ⟨q + 1, M2, by omega, by go_num, rfl, hr, hM2, Lib.hid ?_⟩
                rw [List.take_add_one, HX2.out.1, List.map_append, HI3.out]
                have hM := hIM.out
                subst hM
                simp [lastT, List.foldl_append]
              case measure => simp [RowKit.intOf]; omega
        · obtain rfl : q = E.length := by omega
          have hI3 := hIM.out
          rw [List.take_length, lastT_perm HE.out.2.1] at hI3
          have HI3 := Lib.hid hI3
          have HR := Lib.hid hr
          have hgo : fullGo ((199 - k) + 1) k T = true := by rw [show 199 - k + 1 = 200 - k by omega]; exact hI.out
          rcases HQ.out.1 with ⟨rfl, hA⟩ | ⟨T', tb', rfl, rfl, hA, hta'⟩
          · obtain ⟨rfl, h127, h100⟩ := fullGo_bad hgo hA
            rw [h127] at hI3
            subst hI3
            have hk3 : (100 : Int) < (k : Int) := by omega
            have haw := awake_any wr (HU.out.2.2.2.below (Below.next HB4.out hr))
            have HB6 := Lib.hid (Below.next HB4.out hr)
            clear hr hI hIM hgo hA
            go_wp2_with fail
            refine haw.mono ?_
            clear haw
            rintro e w6 ⟨rfl, hb6⟩
            have HB7 := Lib.hid (Below.next HB6.out hb6)
            clear hb6
            go_wp2_with fail
            go_ret
            exact ⟨rfl, HB7.out⟩
          · obtain ⟨h127, hgo'⟩ := fullGo_ok hgo hA
            have hM1 : ((M : Int) == 127) = false := by
              have : M ≠ 127 := by rw [hI3]; exact h127
              simp; omega
            have hta6 := hta'.below (Below.next HB5.out hr)
            have HB6 := Lib.hid (And.intro hta6 (And.intro (Below.next HB4.out hr) hgo'))
            clear hr hI hIM hgo hA hI3 hta' hta6 hgo' h127
            go_wp2_with fail
            go_roundw
            case rel => exact ⟨k + 1, T', by go_num, HB6.out.1, HB6.out.2.1, by omega, Lib.hid (by rw [show 200 - (k + 1) = 199 - k by omega]; exact HB6.out.2.2)⟩
            case measure => simp [RowKit.intOf]; omega
    · have HX := Lib.hid hnx
      have haw := awake_any wr (HU.out.2.2.2.below hnx)
      clear hnx hta hI
      go_wp2_with fail
      refine haw.mono ?_
      clear haw
      rintro e w2 ⟨rfl, hb2⟩
      have HB := Lib.hid (Below.next HX.out hb2)
      clear hb2
      go_wp2_with fail
      go_ret
      exact ⟨rfl, HB.out⟩
end Go.Proofs.YtccdkchmeelkfaaGreatDoor
