/- TailorRows' walk. -/
import Derived.Test.YtccdkchmeelkfaaGreatDoorW40
import Derived.Test.YtccdkchmeelkfaaGreatDoorS18
import Derived.Deep.RegionWith
import Derived.Laws.Concat
namespace Go.Proofs.YtccdkchmeelkfaaGreatDoor
open Go.RowKit

theorem conv_at {W : World} {n : Nat} {v : Int} {ty : TypeId} (h : W.heap[n]? = some (.cells #[.int .u8 v] ty)) : (convert 24 9 (.slice (some ⟨n, 0, none⟩) 1 1)).run Tryz.prog W = .ok (.string (strOfNums [v])) W := by
  refine run_convert_bytes_arg _ 24 5 Tryz.underlying24 Tryz.underlying5 n 0 1 1 [v] rfl (fun i hi => ?_) 9 Tryz.underlying9
  obtain rfl : i = 0 := by omega
  exact cell_of_block h rfl

theorem duoA (w : World) {o B : Obj} : ((w.alloc o).alloc B).drew.heap[w.heap.size + 1]? = some B := by
  have := heap_alloc_last (w.alloc o) B
  rw [World.size_alloc] at this
  exact this
theorem duoB (w : World) {B : Obj} : (w.alloc B).drew.heap[w.heap.size]? = some B := heap_alloc_last w B
theorem duoC (w : World) {o B : Obj} : ((w.alloc B).alloc o).drew.heap[w.heap.size]? = some B := blk_below (heap_alloc_last w B) (Below.drew1 (Below.alloc1 (Below.refl _ _) _))
theorem add_s (s t : ByteArray) (S T : List Int) (hs : s.data.toList.map (fun x => (x.toNat : Int)) = S) (ht : t.data.toList.map (fun x => (x.toNat : Int)) = T) (hl : S.length + T.length ≤ 1000) :
    ∃ r : ByteArray, (∀ W : World, (Op.stringOp .add s t).run Tryz.prog W = .ok (.string r) W) ∧ r.data.toList.map (fun x => (x.toNat : Int)) = S ++ T := by
  have h1 : s.size = S.length := by rw [← hs, List.length_map, ← Lib.size_eq]
  have h2 : t.size = T.length := by rw [← ht, List.length_map, ← Lib.size_eq]
  refine ⟨s ++ t, fun W => run_string_add_sum W s t (by omega), ?_⟩
  rw [show (s ++ t).data.toList = s.data.toList ++ t.data.toList by simp, List.map_append, hs, ht]

set_option maxRecDepth 100000 in
set_option maxHeartbeats 4000000 in
theorem rows_any (w : World) (v : Value) (L : List Int) (hv : SlI w v L) (hU : U8 w) :
    Calls Tryz.prog 3 #[v] w fun e w' => e = .returned (.bool true) ∧ Below w.heap.size w w' := by
  obtain ⟨ii, hi, hz0, hz1, hz2⟩ := info_parts infoInt
  obtain ⟨a, c, rfl, hLc, _, hop⟩ := hv.open
  obtain ⟨N, hN⟩ : ∃ N, min L.length 8 = N := ⟨_, rfl⟩
  have hNL : N ≤ L.length := by omega
  have hN8 : N ≤ 8 := by omega
  have hmin : min (L.length : Int) 8 = (N : Int) := by omega
  have hks := lvsR_len L
  rw [hN] at hks
  have HK := Lib.hid (And.intro hN (And.intro hks (And.intro hop hU)))
  clear hN hks hop hU
  go_enter Tryz.func3, Tryz.ntmps3
  go_wp2_with fail
  clear hmin
  go_loopw [3, 5, 6] (fun sv lv i wr => ∃ (q : Nat) (s : ByteArray), q ≤ N ∧ i = .int .i64 q ∧ sv = .string s ∧ Hid (s.data.toList.map (fun x => (x.toNat : Int)) = [38, 32, 109] ++ rowTxt 0 ((lvsR L).take q)) ∧ wr.ownsRow w.heap.size 3 1 lv q (cellsI (((lvsR L).take q).map fun n : Nat => (n : Int))) ∧ Below w.heap.size w wr) (fun _ _ i _ => N - (RowKit.intOf i).toNat)
  case atStart => exact ⟨0, ⟨#[38, 32, 109]⟩, Nat.zero_le _, rfl, rfl, Lib.hid rfl, World.ownsRow_nil _ _ _ _, Below.refl _ _⟩
  case round =>
    obtain ⟨q, s, hq, rfl, rfl, hI, hown, hnx⟩ := hrel
    obtain ⟨oa, oc, rfl, hocn, hon⟩ := owns_slice hown
    clear hon
    have hws := hnx.size
    by_cases hq1 : q < N
    · obtain ⟨yb, yo, rfl, hyb, hyc⟩ := HK.out.2.2.1 (by omega)
      obtain ⟨y, hy⟩ : ∃ y, L[q]? = some y := ⟨L[q], List.getElem?_eq_getElem (by omega)⟩
      have c3 := (hnx.cell (p := ⟨yb, yo + q, none⟩) hyb).trans (hyc q y hy)
      obtain ⟨K, hK, hKe, hKl⟩ := lvR_eq y
      have hst := row_more (by rw [HK.out.1]; exact hq1) hy
      have hat := lvsR_at (by rw [HK.out.1]; exact hq1) hy
      rw [hKl] at hst hat
      have HS := Lib.hid (And.intro hst hat)
      clear hyc hy hst hat hKl
      go_wp2_with (at_builtin; refine wpList_append_sl rfl _ _ 22 rfl w.heap.size 3 ii (.int .i64 0) 1 8 Tryz.underlying22 hi hz0 hz1 hz2 rfl (by decide) _ _ _ rfl (owns_below hown ((Below.refl _ _).alloc (Nat.le_refl _) _)) _ 1 [.int .i64 ((K : Int) + 1)] rfl (SlNew1 _ _ _ _ (by simp)) (by intro u hu; simp at hu; subst hu; rfl) (by unfold maxLen; omega) (by omega) (by simp; omega) ?_; intro v6 w6 hown6 hg6)
      have b1 := (Below.refl wr.heap.size wr).alloc (Nat.le_refl _) (.cells #[.int .i64 ((K : Int) + 1)] 3)
      have hnx6 := below_grown (Below.next hnx b1) (owns_below hown b1) hg6
      have hown7 : w6.ownsRow w.heap.size 3 1 v6 (q + 1) (cellsI (((lvsR L).take (q + 1)).map fun n : Nat => (n : Int))) := by
        rw [List.take_add_one, HS.out.2, List.map_append, cellsI_append]
        exact hown6
      have H6 := Lib.hid (And.intro hown7 hnx6)
      clear hown hown6 hg6 b1 hnx hown7 hnx6
      have hlen : (rowTxt 0 ((lvsR L).take q)).length ≤ 56 := by
        have h1 := rowTxt_len_le (r := (lvsR L).take q) (fun k hk => (lvsR_bd L k (List.mem_of_mem_take hk)).2) 0
        have h2 : ((lvsR L).take q).length ≤ 8 := by rw [List.length_take]; omega
        omega
      have hw1 : IntKind.u8.wrap (q : Int) = (q : Int) := by unfold IntKind.wrap; simp [IntKind.signed, IntKind.bits]; omega
      have hw2 : IntKind.u8.wrap (49 + (q : Int)) = 49 + (q : Int) := by unfold IntKind.wrap; simp [IntKind.signed, IntKind.bits]; omega
      obtain ⟨s1, a1, m1⟩ := add_s s ⟨#[32]⟩ _ [32] hI.out rfl (by simp; omega)
      have hK4 : K = 0 ∨ K = 1 ∨ K = 2 ∨ K = 3 := by omega
      have hone : (strOfNums [49 + (q : Int)]).data.toList.map (fun x => (x.toNat : Int)) = [49 + (q : Int)] := strOf_map (by intro x hx; simp at hx; subst hx; omega)
      rcases hK4 with rfl | rfl | rfl | rfl
      · obtain ⟨s2, a2, m2⟩ := add_s s1 ⟨#[60]⟩ _ [60] m1 rfl (by simp; omega)
        obtain ⟨s3, a3, m3⟩ := add_s s2 ⟨#[32]⟩ _ [32] m2 rfl (by simp; omega)
        obtain ⟨s4, a4, m4⟩ := add_s s3 (strOfNums [49 + (q : Int)]) _ [49 + (q : Int)] m3 hone (by simp; omega)
        have HM := Lib.hid m4
        clear m1 m2 m3 m4 hone hlen hI hK hKe
        go_region_with (rw [conv_at (by first | exact duoA w6 | exact duoB w6 | exact duoC w6)])
        all_goals
          clear a1 a2 a3 a4 hw1 hw2
          go_wp2_with fail
          go_roundw
          case rel => exact ⟨q + 1, s4, by omega, by go_num, rfl, Lib.hid (by rw [HS.out.1, HM.out]; simp [relTxt, List.replicate]), owns_below H6.out.1 (by repeat (first | exact Below.refl _ _ | apply Below.drew1 | apply Below.alloc1)), Below.next H6.out.2 (by repeat (first | exact Below.refl _ _ | apply Below.drew1 | apply Below.alloc1))⟩
          case measure => simp [RowKit.intOf]; omega
      · obtain ⟨s2, a2, m2⟩ := add_s s1 ⟨#[60, 60]⟩ _ [60, 60] m1 rfl (by simp; omega)
        obtain ⟨s3, a3, m3⟩ := add_s s2 ⟨#[32]⟩ _ [32] m2 rfl (by simp; omega)
        obtain ⟨s4, a4, m4⟩ := add_s s3 (strOfNums [49 + (q : Int)]) _ [49 + (q : Int)] m3 hone (by simp; omega)
        have HM := Lib.hid m4
        clear m1 m2 m3 m4 hone hlen hI hK hKe
        go_region_with (rw [conv_at (by first | exact duoA w6 | exact duoB w6 | exact duoC w6)])
        all_goals
          clear a1 a2 a3 a4 hw1 hw2
          go_wp2_with fail
          go_roundw
          case rel => exact ⟨q + 1, s4, by omega, by go_num, rfl, Lib.hid (by rw [HS.out.1, HM.out]; simp [relTxt, List.replicate]), owns_below H6.out.1 (by repeat (first | exact Below.refl _ _ | apply Below.drew1 | apply Below.alloc1)), Below.next H6.out.2 (by repeat (first | exact Below.refl _ _ | apply Below.drew1 | apply Below.alloc1))⟩
          case measure => simp [RowKit.intOf]; omega
      · obtain ⟨s2, a2, m2⟩ := add_s s1 ⟨#[60, 60, 60]⟩ _ [60, 60, 60] m1 rfl (by simp; omega)
        obtain ⟨s3, a3, m3⟩ := add_s s2 ⟨#[32]⟩ _ [32] m2 rfl (by simp; omega)
        obtain ⟨s4, a4, m4⟩ := add_s s3 (strOfNums [49 + (q : Int)]) _ [49 + (q : Int)] m3 hone (by simp; omega)
        have HM := Lib.hid m4
        clear m1 m2 m3 m4 hone hlen hI hK hKe
        go_region_with (rw [conv_at (by first | exact duoA w6 | exact duoB w6 | exact duoC w6)])
        all_goals
          clear a1 a2 a3 a4 hw1 hw2
          go_wp2_with fail
          go_roundw
          case rel => exact ⟨q + 1, s4, by omega, by go_num, rfl, Lib.hid (by rw [HS.out.1, HM.out]; simp [relTxt, List.replicate]), owns_below H6.out.1 (by repeat (first | exact Below.refl _ _ | apply Below.drew1 | apply Below.alloc1)), Below.next H6.out.2 (by repeat (first | exact Below.refl _ _ | apply Below.drew1 | apply Below.alloc1))⟩
          case measure => simp [RowKit.intOf]; omega
      · obtain ⟨s2, a2, m2⟩ := add_s s1 ⟨#[61]⟩ _ [61] m1 rfl (by simp; omega)
        obtain ⟨s3, a3, m3⟩ := add_s s2 ⟨#[32]⟩ _ [32] m2 rfl (by simp; omega)
        obtain ⟨s4, a4, m4⟩ := add_s s3 (strOfNums [49 + (q : Int)]) _ [49 + (q : Int)] m3 hone (by simp; omega)
        have HM := Lib.hid m4
        clear m1 m2 m3 m4 hone hlen hI hK hKe
        go_region_with (rw [conv_at (by first | exact duoA w6 | exact duoB w6 | exact duoC w6)])
        all_goals
          clear a1 a2 a3 a4 hw1 hw2
          go_wp2_with fail
          go_roundw
          case rel => exact ⟨q + 1, s4, by omega, by go_num, rfl, Lib.hid (by rw [HS.out.1, HM.out]; simp [relTxt]), owns_below H6.out.1 (by repeat (first | exact Below.refl _ _ | apply Below.drew1 | apply Below.alloc1)), Below.next H6.out.2 (by repeat (first | exact Below.refl _ _ | apply Below.drew1 | apply Below.alloc1))⟩
          case measure => simp [RowKit.intOf]; omega
    · obtain rfl : q = N := by omega
      have hI2 := hI.out
      have hks := HK.out.2.1
      rw [List.take_of_length_le (by omega)] at hI2 hown
      have hsg := signs_of_map hI2 (by
        intro x hx
        rcases List.mem_append.1 hx with hx | hx
        · simp at hx; omega
        · exact rowTxt_bd (r := lvsR L) (by omega) 0 (by omega) x hx)
      have hsz : s.size ≤ 1000000 := by
        rw [Lib.size_eq, show s.data.toList.length = ([38, 32, 109] ++ rowTxt 0 (lvsR L)).length by rw [← hI2]; simp]
        have h1 := rowTxt_len_le (r := lvsR L) (fun k hk => (lvsR_bd L k hk).2) 0
        simp; omega
      have hrd := read_any s wr hsz (HK.out.2.2.2.below hnx)
      rw [hsg] at hrd
      obtain ⟨T, hT, hok⟩ := read_row (lvsR_bd L) (by omega : (lvsR L).length ≤ 8)
      rw [hT] at hrd
      have hlv : SlI wr (.slice oa q oc) ((lvsR L).map fun n : Nat => (n : Int)) := (BlkI.own (by simp; omega) hown).sl
      have HT := Lib.hid (And.intro hok (And.intro hlv hnx))
      clear hI hI2 hown hks hsg hsz hT hok hlv hnx
      go_wp2_with fail
      refine hrd.mono ?_
      clear hrd
      rintro e w1 ⟨hb1, p1, rfl, hta⟩
      obtain ⟨tb, rfl⟩ := hta.ptr
      have H1 := Lib.hid (And.intro hta (Below.next HT.out.2.2 hb1))
      have hlv := HT.out.2.1.below hb1
      obtain ⟨LV, hLV⟩ : ∃ LV, ((lvsR L).map fun n : Nat => (n : Int)) = LV := ⟨_, rfl⟩
      have hl8 : LV.length = q := by rw [← hLV, List.length_map]; exact HK.out.2.1
      rw [hLV] at hlv
      obtain ⟨_, _, e1, _, _, hol⟩ := hlv.open
      simp only [Value.slice.injEq] at e1
      obtain ⟨rfl, hqe, rfl⟩ := e1
      clear hqe
      have HLV := Lib.hid (And.intro hol (And.intro hLV hl8))
      have hcm : ∀ (wx : World) (hx : Below w1.heap.size w1 wx) (u v : ByteArray) (x y : Int) (hu : signsT u.data.toList = [x]) (hv : signsT v.data.toList = [y]) (hus : u.size = 1) (hvs : v.size = 1) (k : Int), Calls Tryz.prog 19 #[.pointer (some ⟨tb, 0, none⟩), .string u, .string v, .int .i64 k] wx fun e w' => e = .returned (.int .i64 (cmpE k (ofS implW T [x]) (ofS implW T [y]))) ∧ Below wx.heap.size wx w' := by
        intro wx hx u v x y hu hv hus hvs k
        have := cmp_any wx _ T (H1.out.1.below hx) u v (by omega) (by omega) k (HK.out.2.2.2.below (Below.next H1.out.2 hx))
        rwa [hu, hv] at this
      have HC := Lib.hid hcm
      clear hb1 hta hlv hol hcm hl8 hLV
      go_wp2_with fail
      go_loopw [11, 12] (fun la i wr => ∃ (j : Nat) (sl : ByteArray), j ≤ q ∧ i = .int .i64 j ∧ la = .string sl ∧ Hid (signsT sl.data.toList = [sgR j] ∧ sl.size = 1) ∧ Below w1.heap.size w1 wr) (fun _ i _ => q - (RowKit.intOf i).toNat)
      case atStart => exact ⟨0, ⟨#[109]⟩, Nat.zero_le _, rfl, rfl, Lib.hid ⟨by decide +kernel, rfl⟩, Below.refl _ _⟩
      case round =>
        obtain ⟨j, sl, hj, rfl, rfl, hsl, hnx⟩ := hrel
        by_cases hj1 : j < q
        · obtain ⟨lb, lo, rfl, hlb, hlc⟩ := HLV.out.1 (by have := HLV.out.2.2; omega)
          obtain ⟨k, hk⟩ : ∃ k, (lvsR L)[j]? = some k := ⟨(lvsR L)[j]'(by have := HK.out.2.1; omega), List.getElem?_eq_getElem _⟩
          have c3 := (hnx.cell (p := ⟨lb, lo + j, none⟩) hlb).trans (hlc j (k : Int) (by rw [← HLV.out.2.1, List.getElem?_map, hk]; rfl))
          have hkb := lvsR_bd L k (List.mem_of_getElem? hk)
          have hw1 : IntKind.u8.wrap (j : Int) = (j : Int) := by unfold IntKind.wrap; simp [IntKind.signed, IntKind.bits]; omega
          have hw2 : IntKind.u8.wrap (49 + (j : Int)) = 49 + (j : Int) := by unfold IntKind.wrap; simp [IntKind.signed, IntKind.bits]; omega
          have hcv := fun v => conv1 wr v
          have hs2 : signsT (strOfNums [49 + (j : Int)]).data.toList = [sgR (j + 1)] := by
            rw [one_signs (by omega) (by omega)]
            unfold sgR
            rw [if_neg (by omega)]
            congr 1; omega
          have HX := Lib.hid (And.intro hk (And.intro hs2 (And.intro c3 (And.intro hlb hnx))))
          clear hlc hk hs2 c3 hnx
          go_wp2_with fail
          obtain ⟨wa, hwa⟩ : ∃ wa, wr.alloc (.cells #[.int .u8 (49 + (j : Int))] 5) = wa := ⟨_, rfl⟩
          have hba : Below w1.heap.size w1 wa := by rw [← hwa]; exact Below.next HX.out.2.2.2.2 (Below.alloc1 (Below.refl _ _) _)
          have hca : wa.cell? ⟨lb, lo + j, none⟩ = some (.int .i64 (k : Int)) := by
            rw [← hwa]
            exact ((Below.alloc1 (Below.refl wr.heap.size wr) _).cell (p := ⟨lb, lo + j, none⟩) (Nat.lt_of_lt_of_le HX.out.2.2.2.1 HX.out.2.2.2.2.size)).trans HX.out.2.2.1
          rw [hwa]
          have hlba : lb < wa.heap.size := Nat.lt_of_lt_of_le HX.out.2.2.2.1 hba.size
          have HA := Lib.hid (And.intro hca (And.intro hlba hba))
          clear hwa hcv hw1 hw2 hca hlba hba
          go_loopw [14] (fun i wr => ∃ m : Nat, 1 ≤ m ∧ m ≤ 4 ∧ i = .int .i64 m ∧ Below wa.heap.size wa wr) (fun i _ => 4 - (RowKit.intOf i).toNat)
          case atStart => exact ⟨1, by omega, by omega, rfl, Below.refl _ _⟩
          case round =>
            obtain ⟨m, hm1, hm4, rfl, hnx⟩ := hrel
            by_cases hm3 : m ≤ 3
            · have hc := HC.out wr (Below.next HA.out.2.2 hnx) sl (strOfNums [49 + (j : Int)]) _ _ hsl.out.1 HX.out.2.1 hsl.out.2 rfl (m : Int)
              have hrl := HT.out.1.rel j k HX.out.1 m (by unfold lvl; omega)
              have HN := Lib.hid hnx
              have hm3' : (m : Int) ≤ 3 := by omega
              rcases Nat.lt_trichotomy m k with hmk | hmk | hmk
              · rw [hrl.1 (by omega)] at hc
                have h1 : ((m : Int) == (k : Int)) = false := by simp; omega
                have h2 : (m : Int) < (k : Int) := by omega
                clear hnx hrl hmk
                go_wp2_with fail
                refine hc.mono ?_
                clear hc
                rintro _ w4 ⟨rfl, hb4⟩
                have HN4 := Lib.hid (Below.next HN.out hb4)
                have c4 := (HN4.out.cell (p := ⟨lb, lo + j, none⟩) HA.out.2.1).trans HA.out.1
                clear hb4
                go_wp2_with fail
                go_roundw
                case rel => exact ⟨m + 1, by omega, by omega, by go_num, HN4.out⟩
                case measure => simp [RowKit.intOf]; omega
              · subst hmk
                rw [hrl.2 rfl] at hc
                clear hnx hrl
                go_wp2_with fail
                refine hc.mono ?_
                clear hc
                rintro _ w4 ⟨rfl, hb4⟩
                have HN4 := Lib.hid (Below.next HN.out hb4)
                have c4 := (HN4.out.cell (p := ⟨lb, lo + j, none⟩) HA.out.2.1).trans HA.out.1
                clear hb4
                go_wp2_with fail
                go_roundw
                case rel => exact ⟨m + 1, by omega, by omega, by go_num, HN4.out⟩
                case measure => simp [RowKit.intOf]; omega
              · have h1 : ((m : Int) == (k : Int)) = false := by simp; omega
                have h2 : ¬ (m : Int) < (k : Int) := by omega
                have h3 : ¬ m < k := by omega
                have h4 : ¬ m = k := by omega
                clear hnx hrl hmk
                go_wp2_with fail
                refine hc.mono ?_
                clear hc
                rintro _ w4 ⟨rfl, hb4⟩
                have HN4 := Lib.hid (Below.next HN.out hb4)
                have c4 := (HN4.out.cell (p := ⟨lb, lo + j, none⟩) HA.out.2.1).trans HA.out.1
                clear hb4
                go_wp2_with fail
                go_roundw
                case rel => exact ⟨m + 1, by omega, by omega, by go_num, HN4.out⟩
                case measure => simp [RowKit.intOf]; omega
            · obtain rfl : m = 4 := by omega
              have HN := Lib.hid (Below.next HA.out.2.2 hnx)
              clear hnx
              go_wp2_with fail
              go_roundw
              case rel => exact ⟨j + 1, strOfNums [49 + (j : Int)], by omega, by go_num, rfl, Lib.hid ⟨HX.out.2.1, rfl⟩, HN.out⟩
              case measure => simp [RowKit.intOf]; omega
        · obtain rfl : j = q := by omega
          have hc := HC.out wr hnx sl ⟨#[110]⟩ _ 110 hsl.out.1 (by decide +kernel) hsl.out.2 rfl 1
          have hlast := HT.out.1.last
          rw [HK.out.2.1] at hlast
          rw [hlast] at hc
          have HN := Lib.hid hnx
          have hck : ∀ (wx : World) (hx : Below w1.heap.size w1 wx), Calls Tryz.prog 20 #[.pointer (some ⟨tb, 0, none⟩)] wx fun e w' => e = .returned (.int .i64 0) ∧ Below wx.heap.size wx w' := by
            intro wx hx
            have := check_any wx _ T (H1.out.1.below hx)
            rwa [HT.out.1.check] at this
          have haw : ∀ (wx : World) (hx : Below w1.heap.size w1 wx), Calls Tryz.prog 21 #[] wx fun e w' => e = .returned (.bool true) ∧ Below wx.heap.size wx w' := fun wx hx => awake_any wx (HK.out.2.2.2.below (Below.next H1.out.2 hx))
          have HCK := Lib.hid (And.intro hck haw)
          clear hnx hlast hck haw
          have hLq := HLV.out.2.2
          by_cases hq0 : j = 0
          · subst hq0
            obtain rfl : LV = [] := List.eq_nil_of_length_eq_zero hLq
            clear hLq
            go_wp2_with fail
            refine hc.mono ?_
            clear hc
            rintro _ w4 ⟨rfl, hb4⟩
            have hc := HCK.out.1 w4 (Below.next HN.out hb4)
            have HN4 := Lib.hid (Below.next HN.out hb4)
            clear hb4
            go_wp2_with fail
            refine hc.mono ?_
            clear hc
            rintro _ w5 ⟨rfl, hb5⟩
            have hc := HCK.out.2 w5 (Below.next HN4.out hb5)
            have HN5 := Lib.hid (Below.next HN4.out hb5)
            clear hb5
            go_wp2_with fail
            refine hc.mono ?_
            clear hc
            rintro _ w6 ⟨rfl, hb6⟩
            have HN6 := Lib.hid (Below.next H1.out.2 (Below.next HN5.out hb6))
            clear hb6
            go_wp2_with fail
            go_ret
            exact ⟨rfl, HN6.out⟩
          · have hL0 : ¬ LV.length = 0 := by omega
            have hL1 : ((LV.length : Int) == 0) = false := by rw [beq_eq_false_iff_ne]; omega
            have hfirst := HT.out.1.first (by intro e; have := HK.out.2.1; rw [e] at this; exact hq0 this.symm)
            have HF := Lib.hid hfirst
            clear hLq hfirst
            go_wp2_with fail
            refine hc.mono ?_
            clear hc
            rintro _ w4 ⟨rfl, hb4⟩
            have hc := HC.out w4 (Below.next HN.out hb4) ⟨#[108]⟩ ⟨#[49]⟩ 108 49 (by decide +kernel) (by decide +kernel) rfl rfl 1
            rw [HF.out] at hc
            have HN4 := Lib.hid (Below.next HN.out hb4)
            clear hb4
            go_wp2_with fail
            refine hc.mono ?_
            clear hc
            rintro _ w5 ⟨rfl, hb5⟩
            have hc := HCK.out.1 w5 (Below.next HN4.out hb5)
            have HN5 := Lib.hid (Below.next HN4.out hb5)
            clear hb5
            go_wp2_with fail
            refine hc.mono ?_
            clear hc
            rintro _ w6 ⟨rfl, hb6⟩
            have hc := HCK.out.2 w6 (Below.next HN5.out hb6)
            have HN6 := Lib.hid (Below.next HN5.out hb6)
            clear hb6
            go_wp2_with fail
            refine hc.mono ?_
            clear hc
            rintro _ w7 ⟨rfl, hb7⟩
            have HN7 := Lib.hid (Below.next H1.out.2 (Below.next HN6.out hb7))
            clear hb7
            go_wp2_with fail
            go_ret
            exact ⟨rfl, HN7.out⟩
end Go.Proofs.YtccdkchmeelkfaaGreatDoor
