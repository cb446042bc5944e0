/- TailorKeeps' walk. -/
import Derived.Test.YtccdkchmeelkfaaGreatDoorW41
import Derived.Test.YtccdkchmeelkfaaGreatDoorW43a
import Derived.Test.YtccdkchmeelkfaaGreatDoorS16
namespace Go.Proofs.YtccdkchmeelkfaaGreatDoor
open Go.RowKit

/-- A rule's signs, up to one, are letters a to m, if it is no anchor's. -/
def okSeq (x : RuleP) (k : Nat) : Prop := x.rel ≠ 1 → ∀ c ∈ x.seq.take k, 97 ≤ c ∧ c ≤ 109
/-- Rules, up to one, that TailorKeeps speaks of. -/
def okRules (R : List RulM) (q : Nat) : Prop := ∀ x ∈ R.take q, (x.r.rel ≠ 1 → ∀ c ∈ x.r.seq, 97 ≤ c ∧ c ≤ 109) ∧ x.r.seq.length + x.r.exp.length ≤ 6
theorem withS_nz {T : Tab Nat} {k : List Int} {l : List Nat} {c : Int} (h : withS T k l = .error c) : c ≠ 0 := by
  unfold withS at h
  split at h
  · cases h; decide
  · split at h
    · cases h; decide
    · cases h
theorem moveS_nz {T : Tab Nat} {A : List Nat} {l c : Int} (h : moveS T A l = .error c) : c ≠ 0 := by
  unfold moveS at h
  split at h
  · cases h; decide
  · split at h
    · cases h; decide
    · split at h
      · cases h; decide
      · cases h
theorem ruleS_nz {T : Tab Nat} {A : List Nat} {x : RuleP} {c : Int} (h : ruleS T A x = .error c) : c ≠ 0 := by
  unfold ruleS at h
  split at h
  · split at h
    · cases h; decide
    · cases h
  · split at h
    · rename_i e he
      cases h
      split at he
      · cases he
      · exact moveS_nz he
    · split at h
      · rename_i e he
        cases h; exact withS_nz he
      · cases h
theorem goS_nz : ∀ {L : List RuleP} {T : Tab Nat} {A : List Nat} {b : Bool} {c : Int}, goS T A b L = .error c → c ≠ 0
  | [], _, _, _, _, h => by rw [goS] at h; cases h
  | x :: r, _, _, _, _, h => by
    rw [goS] at h
    split at h
    · cases h; decide
    · split at h
      · rename_i e he
        cases h; exact ruleS_nz he
      · exact goS_nz h
theorem applyS_nz {T : Tab Nat} {L : List RuleP} {c : Int} (h : applyS T L = .error c) : c ≠ 0 := by
  unfold applyS at h
  split at h
  · rename_i e he
    cases h; exact goS_nz he
  · split at h
    · cases h
    · rename_i hn
      cases h; exact hn
theorem keep_signs {l : List UInt8} (h : ∀ x ∈ l, keepC (x.toNat : Int)) : ∀ c ∈ signsT l, keepC c := by
  rw [signsT_ascii (fun x hx => by have := h x hx; unfold keepC at this; omega)]
  intro c hc
  obtain ⟨x, hx, rfl⟩ := List.mem_map.1 hc
  exact h x hx

set_option maxRecDepth 100000 in
set_option maxHeartbeats 4000000 in
theorem keeps_any (w : World) (v : Value) (R : List RulM) (a b : ByteArray) (hR : RulesIn w v R) (hlen : ∀ x ∈ R, x.r.seq.length ≤ 140737488355328 ∧ x.r.exp.length ≤ 140737488355328) (ha : a.size ≤ 140737488355328) (hb : b.size ≤ 140737488355328) (hU : U8 w) :
    Calls Tryz.prog 7 #[v, .string a, .string b] w fun e w' => e = .returned (.bool true) ∧ Below w.heap.size w w' := by
  have haw : ∀ (wx : World) (hx : Below w.heap.size w wx), Calls Tryz.prog 21 #[] wx fun e w' => e = .returned (.bool true) ∧ Below wx.heap.size wx w' := fun wx hx => awake_any wx (hU.below hx)
  obtain ⟨ra, rc, rfl, hRc, hop⟩ := hR.open
  have H := Lib.hid (And.intro haw (And.intro hR (And.intro hop hU)))
  have HLEN := Lib.hid hlen
  clear haw hR hop hU hlen
  by_cases h60 : 60 < a.size + b.size
  · have hc := H.out.1 w (Below.refl _ _)
    have h1 : (60 : Int) < (a.size : Int) + (b.size : Int) := by omega
    clear h60
    go_enter Tryz.func7, Tryz.ntmps7
    go_wp2_with fail
    refine hc.mono ?_
    clear hc
    rintro e w1 ⟨rfl, hb1⟩
    go_wp2_with fail
    go_ret
    exact ⟨rfl, hb1⟩
  by_cases h8 : 8 < R.length
  · have hc := H.out.1 w (Below.refl _ _)
    have h1 : ¬ (60 : Int) < (a.size : Int) + (b.size : Int) := by omega
    have h2 : (8 : Int) < (R.length : Int) := by omega
    clear h60 h8
    go_enter Tryz.func7, Tryz.ntmps7
    go_wp2_with fail
    refine hc.mono ?_
    clear hc
    rintro e w1 ⟨rfl, hb1⟩
    go_wp2_with fail
    go_ret
    exact ⟨rfl, hb1⟩
  have h1 : ¬ (60 : Int) < (a.size : Int) + (b.size : Int) := by omega
  have h2 : ¬ (8 : Int) < (R.length : Int) := by omega
  have has : a.size ≤ 60 := by omega
  have hbs : b.size ≤ 60 := by omega
  have hR8 : R.length ≤ 8 := by omega
  clear h60 h8 ha hb
  go_enter Tryz.func7, Tryz.ntmps7
  go_wp2_with fail
  clear h1 h2
  obtain ⟨w0, hw0⟩ : ∃ w0, w.alloc (.cells #[.string a, .string b] 9) = w0 := ⟨_, rfl⟩
  have hb0 : Below w.heap.size w w0 := by rw [← hw0]; exact Below.alloc1 (Below.refl _ _) _
  have hct : ∀ q s, [a, b][q]? = some s → w0.cell? ⟨w.heap.size, q, none⟩ = some (.string s) := by
    intro q s hs
    rw [← hw0]
    refine cell_of_block (heap_alloc_last w _) ?_
    match q, hs with
    | 0, hs => simp at hs; subst hs; rfl
    | 1, hs => simp at hs; subst hs; rfl
  rw [hw0]
  clear hw0
  have HC := Lib.hid (And.intro hct hb0)
  clear hct hb0
  go_loopw [32] (fun i wr => ∃ q : Nat, q ≤ 2 ∧ i = .int .i64 q ∧ wr = w0 ∧ Hid (∀ s ∈ [a, b].take q, ∀ x ∈ s.data.toList, keepC (x.toNat : Int))) (fun i _ => 2 - (RowKit.intOf i).toNat)
  case atStart => exact ⟨0, by omega, rfl, rfl, Lib.hid (by simp)⟩
  case round =>
    obtain ⟨q, hq, rfl, rfl, hI⟩ := hrel
    by_cases hq1 : q < 2
    · obtain ⟨s, hs⟩ : ∃ s, [a, b][q]? = some s := ⟨[a, b][q]'(by simp; omega), List.getElem?_eq_getElem _⟩
      have hc0 := HC.out.1 q s hs
      have hsz : s.size ≤ 60 := by
        have := List.mem_of_getElem? hs
        simp at this
        rcases this with rfl | rfl <;> omega
      have HS := Lib.hid hs
      clear hs
      go_wp2_with fail
      go_loopw [9] (fun i wx => ∃ k : Nat, k ≤ s.size ∧ i = .int .i64 k ∧ wx = wr ∧ Hid (∀ x ∈ s.data.toList.take k, keepC (x.toNat : Int))) (fun i _ => s.size - (RowKit.intOf i).toNat)
      case atStart => exact ⟨0, by omega, rfl, rfl, Lib.hid (by simp)⟩
      case round =>
        obtain ⟨k, hk, rfl, rfl, hI2⟩ := hrel
        by_cases hk1 : k < s.size
        · obtain ⟨X, hX⟩ : ∃ X : Int, ((s[k]'hk1).toNat : Int) = X := ⟨_, rfl⟩
          have hXb : 0 ≤ X ∧ X < 256 := by have := UInt8.toNat_lt (s[k]'hk1); omega
          have hnext : keepC X → ∀ x ∈ s.data.toList.take (k + 1), keepC (x.toNat : Int) := by
            intro hkx x hx
            rw [List.take_add_one, List.getElem?_eq_getElem (by rw [← Lib.size_eq]; exact hk1)] at hx
            rcases List.mem_append.1 hx with hx | hx
            · exact hI2.out x hx
            · simp at hx
              subst hx
              show keepC ((s[k]'hk1).toNat : Int)
              rw [hX]; exact hkx
          have HN := Lib.hid hnext
          have hcase : ((110 : Int) ≤ X ∧ X ≤ 122) ∨ ((48 : Int) ≤ X ∧ X ≤ 57) ∨ ((78 : Int) ≤ X ∧ X ≤ 90) ∨ ((122 : Int) < X) ∨ ((90 : Int) < X ∧ X < 110) ∨ ((57 : Int) < X ∧ X < 78) ∨ (X < 48) := by omega
          clear hnext hXb
          rcases hcase with hx | hx | hx | hx | hx | hx | hx
          · have g0 : (110 : Int) ≤ X := by omega
            have g1 : X ≤ 122 := by omega
            have HK := Lib.hid (HN.out (by unfold keepC; omega))
            clear hx
            go_wp2_with fail
            go_roundw
            case rel => first | exact ⟨k + 1, by omega, by go_num, trivial, HK⟩ | exact ⟨k + 1, by omega, by go_num, HK⟩
            case measure => simp [RowKit.intOf]; omega
          · have g0 : ¬ (110 : Int) ≤ X := by omega
            have g1 : (48 : Int) ≤ X := by omega
            have g2 : X ≤ 57 := by omega
            have HK := Lib.hid (HN.out (by unfold keepC; omega))
            clear hx
            go_wp2_with fail
            go_roundw
            case rel => first | exact ⟨k + 1, by omega, by go_num, trivial, HK⟩ | exact ⟨k + 1, by omega, by go_num, HK⟩
            case measure => simp [RowKit.intOf]; omega
          · have g0 : ¬ (110 : Int) ≤ X := by omega
            have g1 : (48 : Int) ≤ X := by omega
            have g2 : ¬ X ≤ 57 := by omega
            have g3 : (78 : Int) ≤ X := by omega
            have g4 : X ≤ 90 := by omega
            have HK := Lib.hid (HN.out (by unfold keepC; omega))
            clear hx
            go_wp2_with fail
            go_roundw
            case rel => first | exact ⟨k + 1, by omega, by go_num, trivial, HK⟩ | exact ⟨k + 1, by omega, by go_num, HK⟩
            case measure => simp [RowKit.intOf]; omega
          · have g0 : (110 : Int) ≤ X := by omega
            have g1 : ¬ X ≤ 122 := by omega
            have g2 : (48 : Int) ≤ X := by omega
            have g3 : ¬ X ≤ 57 := by omega
            have g4 : (78 : Int) ≤ X := by omega
            have g5 : ¬ X ≤ 90 := by omega
            have hc := H.out.1 wr HC.out.2
            clear hx
            go_wp2_with fail
            refine hc.mono ?_
            clear hc
            rintro e w1 ⟨rfl, hb1⟩
            have HB := Lib.hid (Below.next HC.out.2 hb1)
            clear hb1
            go_wp2_with fail
            go_ret
            exact ⟨rfl, HB.out⟩
          · have g0 : ¬ (110 : Int) ≤ X := by omega
            have g1 : (48 : Int) ≤ X := by omega
            have g2 : ¬ X ≤ 57 := by omega
            have g3 : (78 : Int) ≤ X := by omega
            have g4 : ¬ X ≤ 90 := by omega
            have hc := H.out.1 wr HC.out.2
            clear hx
            go_wp2_with fail
            refine hc.mono ?_
            clear hc
            rintro e w1 ⟨rfl, hb1⟩
            have HB := Lib.hid (Below.next HC.out.2 hb1)
            clear hb1
            go_wp2_with fail
            go_ret
            exact ⟨rfl, HB.out⟩
          · have g0 : ¬ (110 : Int) ≤ X := by omega
            have g1 : (48 : Int) ≤ X := by omega
            have g2 : ¬ X ≤ 57 := by omega
            have g3 : ¬ (78 : Int) ≤ X := by omega
            have hc := H.out.1 wr HC.out.2
            clear hx
            go_wp2_with fail
            refine hc.mono ?_
            clear hc
            rintro e w1 ⟨rfl, hb1⟩
            have HB := Lib.hid (Below.next HC.out.2 hb1)
            clear hb1
            go_wp2_with fail
            go_ret
            exact ⟨rfl, HB.out⟩
          · have g0 : ¬ (110 : Int) ≤ X := by omega
            have g1 : ¬ (48 : Int) ≤ X := by omega
            have g2 : ¬ (78 : Int) ≤ X := by omega
            have hc := H.out.1 wr HC.out.2
            clear hx
            go_wp2_with fail
            refine hc.mono ?_
            clear hc
            rintro e w1 ⟨rfl, hb1⟩
            have HB := Lib.hid (Below.next HC.out.2 hb1)
            clear hb1
            go_wp2_with fail
            go_ret
            exact ⟨rfl, HB.out⟩
        · obtain rfl : k = s.size := by omega
          have hI3 := hI2.out
          rw [Lib.size_eq, List.take_length] at hI3
          have HI := Lib.hid hI3
          clear hI3 hI2
          go_wp2_with fail
          go_roundw
          case rel =>
            refine ⟨q + 1, by omega, by go_num, trivial, Lib.hid (fun t ht => ?_)⟩
            rw [List.take_add_one, HS.out] at ht
            rcases List.mem_append.1 ht with ht | ht
            · exact hI.out t ht
            · simp at ht; subst ht; exact HI.out
          case measure => simp [RowKit.intOf]; omega
    · obtain rfl : q = 2 := by omega
      have hab : (∀ x ∈ a.data.toList, keepC (x.toNat : Int)) ∧ ∀ x ∈ b.data.toList, keepC (x.toNat : Int) := ⟨hI.out a (by simp), hI.out b (by simp)⟩
      have HAB := Lib.hid hab
      clear hab hI
      obtain ⟨wz, rfl⟩ : ∃ x, x = wr := ⟨_, rfl⟩
      rw [show ((2 : Nat) : Int) = 2 from rfl]
      go_wp2_with fail
      go_loopw [10] (fun i wr => ∃ q : Nat, q ≤ R.length ∧ i = .int .i64 q ∧ Below wz.heap.size wz wr ∧ Hid (okRules R q)) (fun i _ => R.length - (RowKit.intOf i).toNat)
      case atStart => exact ⟨0, by omega, rfl, Below.refl _ _, Lib.hid (by intro x hx; simp at hx)⟩
      case round =>
        obtain ⟨q, hq, rfl, hnx, hI⟩ := hrel
        by_cases hq1 : q < R.length
        · obtain ⟨rb, ro, rfl, hrb, hrc⟩ := H.out.2.2.1 (by omega)
          obtain ⟨x, hx⟩ : ∃ x, R[q]? = some x := ⟨R[q], List.getElem?_eq_getElem hq1⟩
          obtain ⟨f0, f1, f2⟩ := hrc q x hx
          have hxm := List.mem_of_getElem? hx
          have hxs := H.out.2.1.2 x hxm
          have hbz := Below.next HC.out.2 hnx
          have d0 := (hbz.cell (p := ⟨rb, ro + q * 3, none⟩) hrb).trans f0
          have d1 := (hbz.cell (p := ⟨rb, ro + q * 3 + 1, none⟩) hrb).trans f1
          have d2 := (hbz.cell (p := ⟨rb, ro + q * 3 + 2, none⟩) hrb).trans f2
          obtain ⟨sa, sc, hsv, hsc, _, hso⟩ := hxs.1.1.open
          obtain ⟨ea, ec, hev, hec, _, heo⟩ := hxs.1.2.open
          rw [hsv] at d1
          rw [hev] at d2
          have hsq : x.r.seq.length ≤ 140737488355328 := (HLEN.out x hxm).1
          have heq : x.r.exp.length ≤ 140737488355328 := (HLEN.out x hxm).2
          have HX := Lib.hid (And.intro hx (And.intro hso hbz))
          have HD := Lib.hid (And.intro d0 (And.intro d1 (And.intro d2 hrb)))
          obtain ⟨wq, rfl⟩ : ∃ x, x = wr := ⟨_, rfl⟩
          clear hrc hx f0 f1 f2 hxm hxs hso heo hbz hsv hev
          go_wp2_with fail
          go_loopw [11] (fun i wx => ∃ k : Nat, k ≤ x.r.seq.length ∧ i = .int .i64 k ∧ wx = wq ∧ Hid (okSeq x.r k)) (fun i _ => x.r.seq.length - (RowKit.intOf i).toNat)
          case atStart => exact ⟨0, by omega, rfl, rfl, Lib.hid (by intro _ c hc; simp at hc)⟩
          case round =>
            obtain ⟨k, hk, rfl, rfl, hI2⟩ := hrel
            by_cases hk1 : k < x.r.seq.length
            · obtain ⟨sb, so, rfl, hsb, hscell⟩ := HX.out.2.1 (by omega)
              obtain ⟨y, hy⟩ : ∃ y, x.r.seq[k]? = some y := ⟨x.r.seq[k], List.getElem?_eq_getElem hk1⟩
              have hcy := (HX.out.2.2.cell (p := ⟨sb, so + k, none⟩) hsb).trans (hscell k y hy)
              have hnext : (x.r.rel ≠ 1 → 97 ≤ y ∧ y ≤ 109) → okSeq x.r (k + 1) := by
                intro hyk hr c hc
                rw [List.take_add_one, hy] at hc
                rcases List.mem_append.1 hc with hc | hc
                · exact hI2.out hr c hc
                · simp at hc; subst hc; exact hyk hr
              have HN := Lib.hid hnext
              clear hnext hy hscell
              by_cases hr1 : x.r.rel = 1
              · have HK := Lib.hid (HN.out (fun h => absurd hr1 h))
                go_wp2_with fail
                go_roundw
                case rel => first | exact ⟨k + 1, by omega, by go_num, trivial, HK⟩ | exact ⟨k + 1, by omega, by go_num, HK⟩
                case measure => simp [RowKit.intOf]; omega
              · have g0 : (x.r.rel == 1) = false := by simp [hr1]
                by_cases hy1 : y < 97
                · have hc := H.out.1 _ HX.out.2.2
                  go_wp2_with fail
                  refine hc.mono ?_
                  clear hc
                  rintro e w1 ⟨rfl, hb1⟩
                  have HB := Lib.hid (Below.next HX.out.2.2 hb1)
                  clear hb1
                  go_wp2_with fail
                  go_ret
                  exact ⟨rfl, HB.out⟩
                · by_cases hy2 : 109 < y
                  · have hc := H.out.1 _ HX.out.2.2
                    go_wp2_with fail
                    refine hc.mono ?_
                    clear hc
                    rintro e w1 ⟨rfl, hb1⟩
                    have HB := Lib.hid (Below.next HX.out.2.2 hb1)
                    clear hb1
                    go_wp2_with fail
                    go_ret
                    exact ⟨rfl, HB.out⟩
                  · have HK := Lib.hid (HN.out (fun _ => by omega))
                    go_wp2_with fail
                    go_roundw
                    case rel => first | exact ⟨k + 1, by omega, by go_num, trivial, HK⟩ | exact ⟨k + 1, by omega, by go_num, HK⟩
                    case measure => simp [RowKit.intOf]; omega
            · obtain rfl : k = x.r.seq.length := by omega
              have hI3 := hI2.out
              unfold okSeq at hI3
              rw [List.take_length] at hI3
              have HI := Lib.hid hI3
              clear hI3 hI2
              have hwr : IntKind.i64.wrap ((x.r.seq.length : Int) + (x.r.exp.length : Int)) = (x.r.seq.length : Int) + (x.r.exp.length : Int) := IntWalk.i64_in _ (by omega)
              by_cases h6 : 6 < x.r.seq.length + x.r.exp.length
              · have g6 : (6 : Int) < (x.r.seq.length : Int) + (x.r.exp.length : Int) := by omega
                clear h6
                go_wp2_with fail
                go_quiet (fail)
                have hc := H.out.1 _ (Below.drewN HX.out.2.2 nq)
                have HB0 := Lib.hid (Below.drewN HX.out.2.2 nq)
                go_wp2_with fail
                refine hc.mono ?_
                clear hc
                rintro e w1 ⟨rfl, hb1⟩
                have HB := Lib.hid (Below.next HB0.out hb1)
                clear hb1
                go_wp2_with fail
                go_ret
                exact ⟨rfl, HB.out⟩
              · have g6 : ¬ (6 : Int) < (x.r.seq.length : Int) + (x.r.exp.length : Int) := by omega
                have hok : okRules R (q + 1) := by
                  intro y hy
                  rw [List.take_add_one, HX.out.1] at hy
                  rcases List.mem_append.1 hy with hy | hy
                  · exact hI.out y hy
                  · simp at hy; subst hy; exact ⟨HI.out, by omega⟩
                have HO := Lib.hid (And.intro hok hnx)
                clear hok h6 hnx
                go_wp2_with fail
                go_quiet (fail)
                go_wp2_with fail
                go_roundw
                case rel => exact ⟨q + 1, by omega, by go_num, Below.drewN HO.out.2 _, Lib.hid HO.out.1⟩
                case measure => simp [RowKit.intOf]; omega
        · obtain rfl : q = R.length := by omega
          have hbz := Below.next HC.out.2 hnx
          have hin := H.out.2.1.below hbz
          have hrt := root_any wr
          have hok : ∀ x ∈ R, (x.r.rel ≠ 1 → ∀ c ∈ x.r.seq, 97 ≤ c ∧ c ≤ 109) ∧ x.r.seq.length + x.r.exp.length ≤ 6 := by
            have := hI.out
            unfold okRules at this
            rwa [List.take_length] at this
          have HZ := Lib.hid (And.intro hbz (And.intro hin hok))
          clear hbz hin hok hI hnx
          go_wp2_with fail
          refine hrt.mono ?_
          clear hrt
          rintro e w1 ⟨p1, rfl, hta1, hb1⟩
          obtain ⟨tb1, rfl⟩ := hta1.ptr
          have hof := lawOf2_any w1 (.slice ra R.length rc) R (HZ.out.2.1.below hb1).1 (fun x hx => ⟨((HZ.out.2.1.below hb1).2 x hx).1, trivial, trivial, by have := (HZ.out.2.2 x hx).2; omega, by have := (HZ.out.2.2 x hx).2; omega, ((HZ.out.2.1.below hb1).2 x hx).2.1⟩) (by omega)
          have H1 := Lib.hid (And.intro hta1 (Below.next HZ.out.1 hb1))
          clear hta1 hb1
          go_wp2_with fail
          refine hof.mono ?_
          clear hof
          rintro e w2 ⟨v2, rfl, hr2, hb2⟩
          have hap := apply_any w2 _ v2 rootS (R.map (·.r)) (H1.out.1.below hb2) hr2 (by
            intro x hx
            obtain ⟨y, hy, rfl⟩ := List.mem_map.1 hx
            have h1 := (HZ.out.2.1.2 y hy).2
            have h2 := (HZ.out.2.2 y hy).2
            exact ⟨h1.1, ⟨by omega, h1.2.1⟩, ⟨by omega, h1.2.2⟩⟩) (by simp; omega)
          obtain ⟨va, vn, vc, rfl⟩ := rules_slice hr2
          have H2 := Lib.hid (Below.next H1.out.2 hb2)
          have H12 := Lib.hid (H1.out.1.below hb2)
          clear hr2 hb2
          go_wp2_with fail
          refine hap.mono ?_
          clear hap
          rintro e w3 ⟨hb3, hm⟩
          have H3 := Lib.hid (Below.next H2.out hb3)
          have H13 := Lib.hid (H12.out.below hb3)
          clear hb3
          cases hap : applyS rootS (R.map (·.r)) with
          | error c =>
            rw [hap] at hm
            have hc0 : ¬ c = 0 := applyS_nz hap
            subst hm
            have hc := H.out.1 w3 H3.out
            clear hap
            go_wp2_with fail
            refine hc.mono ?_
            clear hc
            rintro e w4 ⟨rfl, hb4⟩
            have HB := Lib.hid (Below.next H3.out hb4)
            clear hb4
            go_wp2_with fail
            go_ret
            exact ⟨rfl, HB.out⟩
          | ok T =>
            rw [hap] at hm
            obtain ⟨p3, rfl, hta3⟩ := hm
            obtain ⟨tb3, rfl⟩ := hta3.ptr
            have hkl : ∀ l : Int, lvl l → cmpE l (ofS implW T (signsT a.data.toList)) (ofS implW T (signsT b.data.toList)) = cmpE l (ofS implW rootS (signsT a.data.toList)) (ofS implW rootS (signsT b.data.toList)) := fun l hl =>
              keeps_law (fun x hx hr c hc => by
                obtain ⟨y, hy, rfl⟩ := List.mem_map.1 hx
                exact (HZ.out.2.2 y hy).1 hr c hc) hap (keep_signs HAB.out.1) (keep_signs HAB.out.2) hl
            have HT := Lib.hid (And.intro hta3 hkl)
            clear hap hta3 hkl
            go_wp2_with fail
            go_loopw [15] (fun i wr => ∃ m : Nat, 1 ≤ m ∧ m ≤ 4 ∧ i = .int .i64 m ∧ Below w3.heap.size w3 wr) (fun i _ => 4 - (RowKit.intOf i).toNat)
            case atStart => exact ⟨1, by omega, by omega, rfl, Below.refl _ _⟩
            case round =>
              obtain ⟨m, hm1, hm4, rfl, hnx⟩ := hrel
              by_cases hm3 : m ≤ 3
              · have hc := cmp_any wr _ rootS (H13.out.below hnx) a b (by omega) (by omega) (m : Int) (H.out.2.2.2.below (Below.next H3.out hnx))
                obtain ⟨u, hu⟩ : ∃ u, cmpE m (ofS implW rootS (signsT a.data.toList)) (ofS implW rootS (signsT b.data.toList)) = u := ⟨_, rfl⟩
                rw [hu] at hc
                have HN := Lib.hid hnx
                have hm3' : (m : Int) ≤ 3 := by omega
                clear hnx
                go_wp2_with fail
                refine hc.mono ?_
                clear hc
                rintro _ w4 ⟨rfl, hb4⟩
                have hb5 := Below.next HN.out hb4
                have hc := cmp_any w4 _ T (HT.out.1.below hb5) a b (by omega) (by omega) (m : Int) (H.out.2.2.2.below (Below.next H3.out hb5))
                rw [HT.out.2 m (by unfold lvl; omega), hu] at hc
                have HN4 := Lib.hid hb5
                clear hb4 hb5 hu
                go_wp2_with fail
                refine hc.mono ?_
                clear hc
                rintro _ w5 ⟨rfl, hb5⟩
                have HN5 := Lib.hid (Below.next HN4.out hb5)
                clear hb5
                go_wp2_with fail
                go_roundw
                case rel => exact ⟨m + 1, by omega, by omega, by go_num, HN5.out⟩
                case measure => simp [RowKit.intOf]; omega
              · obtain rfl : m = 4 := by omega
                have hc := H.out.1 wr (Below.next H3.out hnx)
                have HN := Lib.hid (Below.next H3.out hnx)
                clear hnx
                go_wp2_with fail
                refine hc.mono ?_
                clear hc
                rintro _ w4 ⟨rfl, hb4⟩
                have HB := Lib.hid (Below.next HN.out hb4)
                clear hb4
                go_wp2_with fail
                go_ret
                exact ⟨rfl, HB.out⟩
end Go.Proofs.YtccdkchmeelkfaaGreatDoor
