/- law7.cmp: two texts' weights of a level held against each other. -/
import Derived.Test.YtccdkchmeelkfaaGreatDoorA20
import Derived.Test.YtccdkchmeelkfaaGreatDoorA14
import Derived.Test.YtccdkchmeelkfaaGreatDoorS14
import Derived.Deep.LoopGhost
import Derived.Deep.QuietTactic
namespace Go.Proofs.YtccdkchmeelkfaaGreatDoor
open Go.RowKit

/-- A level's weights as numbers of Go. -/
def lvI (l : Int) (A : List Nat) : List Int := (lvS l A).map fun n : Nat => (n : Int)
theorem lexS_nat : ∀ p q : List Nat, lexS (p.map fun n : Nat => (n : Int)) (q.map fun n : Nat => (n : Int)) = cmpL p q
  | [], [] => rfl
  | [], _ :: _ => rfl
  | _ :: _, [] => rfl
  | a :: p, b :: q => by
    rw [List.map_cons, List.map_cons, lexS, cmpL, lexS_nat p q]
    by_cases h1 : a < b
    · rw [if_pos h1, if_pos (by omega)]
    · rw [if_neg h1, if_neg (by omega)]
      by_cases h2 : b < a
      · rw [if_pos h2, if_pos (by omega)]
      · rw [if_neg h2, if_neg (by omega)]
theorem lexS_lvI (l : Int) (A B : List Nat) : lexS (lvI l A) (lvI l B) = cmpE l A B := lexS_nat _ _
theorem lvI_take {l : Int} {A : List Nat} {q : Nat} {x : Nat} (h : A[q]? = some x) : lvI l (A.take (q + 1)) = if wt l x = 0 then lvI l (A.take q) else lvI l (A.take q) ++ [(wt l x : Int)] := by
  unfold lvI lvS
  rw [List.take_add_one, h, List.map_append, List.filter_append, List.map_append]
  by_cases h0 : wt l x = 0 <;> simp [h0]
set_option maxRecDepth 100000 in
set_option maxHeartbeats 4000000 in
theorem cmp_any (w : World) (p : Value) (T : Tab Nat) (hta : TableAt w p T) (a b : ByteArray) (ha : a.size ≤ 1000000) (hb : b.size ≤ 1000000) (l : Int) (hU : U8 w) :
    Calls Tryz.prog 19 #[p, .string a, .string b, .int .i64 l] w fun e w' => e = .returned (.int .i64 (cmpE l (ofS implW T (signsT a.data.toList)) (ofS implW T (signsT b.data.toList)))) ∧ Below w.heap.size w w' := by
  obtain ⟨ii, hi, hz0, hz1, hz2⟩ := info_parts infoInt
  have hT8 : okTab T := by obtain ⟨_, _, _, _, _, _, _, _, _, _, _, h⟩ := hta; exact h
  have hel1 := elements_any a w p T hta ha hU
  have hel2 := fun (w1 : World) (hb1 : Below w.heap.size w w1) => elements_any b w1 p T (hta.below hb1) hb (hU.below hb1)
  have hA8 := ofS_len hT8 (signsT a.data.toList) _ (Nat.le_refl _)
  have hB8 := ofS_len hT8 (signsT b.data.toList) _ (Nat.le_refl _)
  have hA9 := signsT_len a.data.toList
  have hB9 := signsT_len b.data.toList
  rw [← Lib.size_eq] at hA9 hB9
  rw [← lexS_lvI]
  obtain ⟨A, hA⟩ : ∃ A, ofS implW T (signsT a.data.toList) = A := ⟨_, rfl⟩
  obtain ⟨B, hB⟩ : ∃ B, ofS implW T (signsT b.data.toList) = B := ⟨_, rfl⟩
  rw [hA] at hel1 hA8 ⊢
  rw [hB] at hel2 hB8 ⊢
  have hAl : A.length ≤ 8000000 := by omega
  have hBl : B.length ≤ 8000000 := by omega
  obtain ⟨tb, rfl⟩ := hta.ptr
  have HE := Lib.hid hel2
  have hwt := weight_any
  have HW := Lib.hid hwt
  clear hel2 hwt hT8 hA8 hB8 hA9 hB9 hA hB hU hta ha hb
  go_enter Tryz.func19, Tryz.ntmps19
  go_wp2_with fail
  refine hel1.mono ?_
  clear hel1
  rintro e w1 ⟨v1, rfl, hv1, hb1⟩
  have hel2 := HE.out w1 hb1
  have H1 := Lib.hid (And.intro hv1 hb1)
  obtain ⟨a1, c1, rfl, _⟩ := hv1.open
  clear hv1 hb1 HE
  go_wp2_with fail
  refine hel2.mono ?_
  clear hel2
  rintro e w2 ⟨v2, rfl, hv2, hb2⟩
  obtain ⟨a2, c2, rfl, hc2, _, ho2⟩ := hv2.open
  have hv1 := H1.out.1.below hb2
  obtain ⟨_, _, e1, hc1, _, ho1⟩ := hv1.open
  cases e1
  have H2 := Lib.hid (And.intro (And.intro hv1.2 ho1) (And.intro hv2.2 ho2))
  have HB2 := Lib.hid (Below.next H1.out.2 hb2)
  clear H1 hv1 hv2 hb2 ho1 ho2
  go_wp2_with fail
  go_loopw [11, 13] (fun pp i wr => ∃ (q : Nat) (P : List Int), q ≤ A.length ∧ i = .int .i64 q ∧ wr.ownsRow w2.heap.size 3 1 pp P.length (cellsI P) ∧ Below w2.heap.size w2 wr ∧ P.length ≤ q ∧ Hid (P = lvI l (A.take q))) (fun _ i _ => A.length - (RowKit.intOf i).toNat)
  case atStart => exact ⟨0, [], Nat.zero_le _, rfl, World.ownsRow_nil _ _ _ _, Below.refl _ _, Nat.le_refl _, Lib.hid rfl⟩
  case round =>
    obtain ⟨q, P, hq, rfl, hown, hnx, hPq, hI⟩ := hrel
    obtain ⟨oa, oc, rfl, hocn, hon⟩ := owns_slice hown
    clear hon
    have hws := hnx.size
    by_cases hq1 : q < A.length
    · obtain ⟨yb, yo, rfl, hyb, hyc⟩ := H2.out.1.2 (by omega)
      obtain ⟨y, hy⟩ : ∃ y, A[q]? = some y := ⟨A[q], List.getElem?_eq_getElem hq1⟩
      have c3 := (hnx.cell (p := ⟨yb, yo + q, none⟩) hyb).trans (hyc q y hy)
      have hwy := HW.out wr y (H2.out.1.1 y (List.mem_of_getElem? hy)) l
      have hst := lvI_take (l := l) hy
      have hw9 := wt_lt l (H2.out.1.1 y (List.mem_of_getElem? hy))
      obtain ⟨z, hz⟩ : ∃ z, wt l y = z := ⟨_, rfl⟩
      rw [hz] at hwy hst hw9
      clear hyc hy hz
      by_cases hz0' : z = 0
      · subst hz0'
        rw [if_pos rfl] at hst
        have HS := Lib.hid hst
        have HO := Lib.hid (And.intro hown hnx)
        clear hst hown hnx
        go_wp2_with (go_at_call 26; refine hwy.mono ?_; rintro _ _ ⟨rfl, rfl⟩)
        go_roundw
        case rel => exact ⟨q + 1, P, by omega, by go_num, HO.out.1, HO.out.2, by omega, Lib.hid (by rw [HS.out]; exact hI.out)⟩
        case measure => simp [RowKit.intOf]; omega
      · rw [if_neg hz0'] at hst
        have hzn : ((z : Int) == 0) = false := by simp; omega
        have HS := Lib.hid hst
        clear hst
        go_wp2_with (first | (go_at_call 26; refine hwy.mono ?_; rintro _ _ ⟨rfl, rfl⟩) | (at_builtin; refine wpList_append_sl rfl _ _ 22 rfl w2.heap.size 3 ii (.int .i64 0) 1 8 Tryz.underlying22 hi hz0 hz1 hz2 rfl (by decide) _ _ _ rfl (owns_below hown ((Below.refl _ _).alloc (Nat.le_refl _) _)) _ 1 [.int .i64 z] rfl (SlNew1 _ _ _ _ (by simp)) (by intro u hu; simp at hu; subst hu; rfl) (by unfold maxLen; omega) (by omega) (by simp; omega) ?_; intro v6 w6 hown6 hg6))
        have b1 := (Below.refl wr.heap.size wr).alloc (Nat.le_refl _) (.cells #[.int .i64 z] 3)
        have hnx6 := below_grown (Below.next hnx b1) (owns_below hown b1) hg6
        have hown7 : w6.ownsRow w2.heap.size 3 1 v6 (P ++ [(z : Int)]).length (cellsI (P ++ [(z : Int)])) := by rw [cellsI_append, List.length_append]; exact hown6
        clear hown hown6 hg6 b1 hnx
        go_roundw
        case rel => exact ⟨q + 1, P ++ [(z : Int)], by omega, by go_num, hown7, hnx6, by simp; omega, Lib.hid (by rw [HS.out, hI.out])⟩
        case measure => simp [RowKit.intOf]; omega
    · obtain rfl : q = A.length := by omega
      have hI2 := hI.out
      rw [List.take_length] at hI2
      have hP1 := (BlkI.own rfl hown).sl
      have hP : SlI wr (.slice oa P.length oc) P := hP1
      have HP := Lib.hid (And.intro hP (And.intro hnx hI2))
      have hPl : P.length ≤ 8000000 := by omega
      have hBb := Below.next HB2.out hnx
      have HBw := Lib.hid hBb
      clear hown hP1 hP hI2 hI hnx hBb
      obtain ⟨wa, rfl⟩ : ∃ x, x = wr := ⟨_, rfl⟩
      go_wp2_with fail
      go_loopw [12, 15] (fun pp i wr => ∃ (q : Nat) (Q : List Int), q ≤ B.length ∧ i = .int .i64 q ∧ wr.ownsRow wa.heap.size 3 1 pp Q.length (cellsI Q) ∧ Below wa.heap.size wa wr ∧ Q.length ≤ q ∧ Hid (Q = lvI l (B.take q))) (fun _ i _ => B.length - (RowKit.intOf i).toNat)
      case atStart => exact ⟨0, [], Nat.zero_le _, rfl, World.ownsRow_nil _ _ _ _, Below.refl _ _, Nat.le_refl _, Lib.hid rfl⟩
      case round =>
        obtain ⟨q, Q, hq, rfl, hown, hnx, hQq, hI⟩ := hrel
        obtain ⟨oa2, oc2, rfl, hocn2, hon⟩ := owns_slice hown
        clear hon
        have hws2 := hnx.size
        by_cases hq1 : q < B.length
        · obtain ⟨yb, yo, rfl, hyb, hyc⟩ := H2.out.2.2 (by omega)
          obtain ⟨y, hy⟩ : ∃ y, B[q]? = some y := ⟨B[q], List.getElem?_eq_getElem hq1⟩
          have c3 := ((Below.next HP.out.2.1 hnx).cell (p := ⟨yb, yo + q, none⟩) hyb).trans (hyc q y hy)
          have hwy := HW.out wr y (H2.out.2.1 y (List.mem_of_getElem? hy)) l
          have hst := lvI_take (l := l) hy
          have hw9 := wt_lt l (H2.out.2.1 y (List.mem_of_getElem? hy))
          obtain ⟨z, hz⟩ : ∃ z, wt l y = z := ⟨_, rfl⟩
          rw [hz] at hwy hst hw9
          clear hyc hy hz
          by_cases hz0' : z = 0
          · subst hz0'
            rw [if_pos rfl] at hst
            have HS := Lib.hid hst
            have HO := Lib.hid (And.intro hown hnx)
            clear hst hown hnx
            go_wp2_with (go_at_call 26; refine hwy.mono ?_; rintro _ _ ⟨rfl, rfl⟩)
            go_roundw
            case rel => exact ⟨q + 1, Q, by omega, by go_num, HO.out.1, HO.out.2, by omega, Lib.hid (by rw [HS.out]; exact hI.out)⟩
            case measure => simp [RowKit.intOf]; omega
          · rw [if_neg hz0'] at hst
            have hzn : ((z : Int) == 0) = false := by simp; omega
            have HS := Lib.hid hst
            clear hst
            go_wp2_with (first | (go_at_call 26; refine hwy.mono ?_; rintro _ _ ⟨rfl, rfl⟩) | (at_builtin; refine wpList_append_sl rfl _ _ 22 rfl wa.heap.size 3 ii (.int .i64 0) 1 8 Tryz.underlying22 hi hz0 hz1 hz2 rfl (by decide) _ _ _ rfl (owns_below hown ((Below.refl _ _).alloc (Nat.le_refl _) _)) _ 1 [.int .i64 z] rfl (SlNew1 _ _ _ _ (by simp)) (by intro u hu; simp at hu; subst hu; rfl) (by unfold maxLen; omega) (by omega) (by simp; omega) ?_; intro v6 w6 hown6 hg6))
            have b1 := (Below.refl wr.heap.size wr).alloc (Nat.le_refl _) (.cells #[.int .i64 z] 3)
            have hnx6 := below_grown (Below.next hnx b1) (owns_below hown b1) hg6
            have hown7 : w6.ownsRow wa.heap.size 3 1 v6 (Q ++ [(z : Int)]).length (cellsI (Q ++ [(z : Int)])) := by rw [cellsI_append, List.length_append]; exact hown6
            clear hown hown6 hg6 b1 hnx
            go_roundw
            case rel => exact ⟨q + 1, Q ++ [(z : Int)], by omega, by go_num, hown7, hnx6, by simp; omega, Lib.hid (by rw [HS.out, hI.out])⟩
            case measure => simp [RowKit.intOf]; omega
        · obtain rfl : q = B.length := by omega
          have hI2 := hI.out
          rw [List.take_length] at hI2
          have hQl : Q.length ≤ 8000000 := by omega
          have hQ : SlI wr (.slice oa2 Q.length oc2) Q := (BlkI.own rfl hown).sl
          have hP := HP.out.1.below hnx
          have hres : lexS (lvI l A) (lvI l B) = lexS P Q := by rw [HP.out.2.2, hI2]
          have HRes := Lib.hid hres
          obtain ⟨_, _, e1, _, _, hoP⟩ := hP.open
          cases e1
          obtain ⟨_, _, e2, _, _, hoQ⟩ := hQ.open
          cases e2
          have HO := Lib.hid (And.intro hoP hoQ)
          have HBx := Lib.hid (Below.next HBw.out hnx)
          clear hown hQ hP hI2 hI hnx hres HP hoP hoQ
          obtain ⟨wb, rfl⟩ : ∃ x, x = wr := ⟨_, rfl⟩
          go_wp2_with fail
          go_loopw [17] (fun i wx => ∃ k : Nat, k ≤ P.length ∧ k ≤ Q.length ∧ i = .int .i64 k ∧ Below wb.heap.size wb wx ∧ Hid (lexS P Q = lexS (P.drop k) (Q.drop k))) (fun i _ => P.length - (RowKit.intOf i).toNat)
          case atStart => exact ⟨0, Nat.zero_le _, Nat.zero_le _, rfl, Below.refl _ _, Lib.hid (by simp)⟩
          case round =>
            obtain ⟨k, hk, hkb, rfl, hnx, hI⟩ := hrel
            by_cases hk1 : k < P.length
            · obtain ⟨b1, o1, rfl, hb1, hcell1⟩ := HO.out.1 (by omega)
              obtain ⟨x, hx⟩ : ∃ x, P[k]? = some x := ⟨P[k], List.getElem?_eq_getElem hk1⟩
              have hc1 := (hnx.cell (p := ⟨b1, o1 + k, none⟩) hb1).trans (hcell1 k x hx)
              by_cases hk2 : k < Q.length
              · obtain ⟨b2, o2, rfl, hb2, hcell2⟩ := HO.out.2 (by omega)
                obtain ⟨y, hy⟩ : ∃ y, Q[k]? = some y := ⟨Q[k], List.getElem?_eq_getElem hk2⟩
                have hc2 := (hnx.cell (p := ⟨b2, o2 + k, none⟩) hb2).trans (hcell2 k y hy)
                have hst := lexS_step hx hy
                have HX := Lib.hid hst
                have HN := Lib.hid hnx
                clear hst hx hy hcell1 hcell2 hnx
                by_cases hlt : x < y
                · have HR := Lib.hid (show lexS P Q = -1 by rw [hI.out, HX.out, if_pos hlt])
                  have hne : (x == y) = false := by simp; omega
                  go_wp2_with fail
                  go_quiet (fail)
                  obtain ⟨wq, hwq⟩ : ∃ wq, wr.drewN nq = wq := ⟨_, rfl⟩
                  have hbq := Lib.hid (show Below wb.heap.size wb wq by rw [← hwq]; exact Below.drewN HN.out _)
                  have hd1 : wq.cell? ⟨b1, o1 + k, none⟩ = some (.int .i64 x) := by rw [← hwq]; exact hc1
                  have hd2 : wq.cell? ⟨b2, o2 + k, none⟩ = some (.int .i64 y) := by rw [← hwq]; exact hc2
                  rw [hwq]
                  clear hc1 hc2 hwq
                  go_wp2_with fail
                  go_quiet (fail)
                  go_wp2_with fail
                  go_ret
                  exact ⟨by rw [HRes.out, HR.out]; rfl, Below.next HBx.out (Below.drewN hbq.out _)⟩
                · by_cases hgt : y < x
                  · have HR := Lib.hid (show lexS P Q = 1 by rw [hI.out, HX.out, if_neg hlt, if_pos hgt])
                    have hne : (x == y) = false := by simp; omega
                    have hlt' : decide (x < y) = false := by simpa using hlt
                    go_wp2_with fail
                    go_quiet (fail)
                    obtain ⟨wq, hwq⟩ : ∃ wq, wr.drewN nq = wq := ⟨_, rfl⟩
                    have hbq := Lib.hid (show Below wb.heap.size wb wq by rw [← hwq]; exact Below.drewN HN.out _)
                    have hd1 : wq.cell? ⟨b1, o1 + k, none⟩ = some (.int .i64 x) := by rw [← hwq]; exact hc1
                    have hd2 : wq.cell? ⟨b2, o2 + k, none⟩ = some (.int .i64 y) := by rw [← hwq]; exact hc2
                    rw [hwq]
                    clear hc1 hc2 hwq
                    go_wp2_with fail
                    go_quiet (fail)
                    go_wp2_with fail
                    go_ret
                    exact ⟨by rw [HRes.out, HR.out]; rfl, Below.next HBx.out (Below.drewN hbq.out _)⟩
                  · obtain rfl : x = y := by omega
                    have HR := Lib.hid (show lexS P Q = lexS (P.drop (k + 1)) (Q.drop (k + 1)) by rw [hI.out, HX.out, if_neg hlt, if_neg hgt])
                    go_wp2_with fail
                    go_quiet (fail)
                    go_wp2_with fail
                    go_roundw
                    case rel => exact ⟨k + 1, by omega, by omega, by go_num, Below.drewN HN.out _, HR⟩
                    case measure => simp [RowKit.intOf]; omega
              · obtain rfl : k = Q.length := by omega
                have HR := Lib.hid (show lexS P Q = 1 by rw [hI.out, List.drop_length, List.drop_eq_getElem_cons hk1, lexS])
                clear hcell1 hx
                go_wp2_with fail
                go_ret
                exact ⟨by rw [HRes.out, HR.out]; rfl, Below.next HBx.out hnx⟩
            · obtain rfl : k = P.length := by omega
              by_cases hk2 : P.length < Q.length
              · have HR := Lib.hid (show lexS P Q = -1 by rw [hI.out, List.drop_length, List.drop_eq_getElem_cons hk2, lexS])
                go_wp2_with fail
                go_ret
                exact ⟨by rw [HRes.out, HR.out]; rfl, Below.next HBx.out hnx⟩
              · have HR := Lib.hid (show lexS P Q = 0 by rw [hI.out, List.drop_length, List.drop_eq_nil_of_le (by omega), lexS])
                go_wp2_with fail
                go_ret
                exact ⟨by rw [HRes.out, HR.out]; rfl, Below.next HBx.out hnx⟩
end Go.Proofs.YtccdkchmeelkfaaGreatDoor
