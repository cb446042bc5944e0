/- The anchor moved. -/
import Derived.Test.YtccdkchmeelkfaaGreatDoorA16
import Derived.Test.YtccdkchmeelkfaaGreatDoorA2
import Derived.Deep.RegionHeld3

/- (W28) tailor's work in memory; move. -/
namespace Go.Proofs.YtccdkchmeelkfaaGreatDoor
open Go.RowKit Go.Shelf

/-- tailor's work in memory: the table and the anchor. -/
structure WkAt (w : World) (wb : Nat) (p av : Value) (T : Tab Nat) (A : List Nat) : Prop where
  blk : w.heap[wb]? = some (.cells #[p, av] 109 (0, 0))
  tab : TableAt w p T
  anc : SlE w av A
  len : A.length ≤ 1000
theorem WkAt.below {w w' : World} {wb : Nat} {p av : Value} {T : Tab Nat} {A : List Nat} (h : WkAt w wb p av T A) (hb : Below w.heap.size w w') : WkAt w' wb p av T A :=
  ⟨blk_below h.blk hb, h.tab.below hb, h.anc.below hb, h.len⟩
theorem WkAt.lt {w : World} {wb : Nat} {p av : Value} {T : Tab Nat} {A : List Nat} (h : WkAt w wb p av T A) : wb < w.heap.size := (Array.getElem?_eq_some_iff.1 h.blk).1
/-- What move and rule tell and leave. -/
def WkRet (r : Except Int (Tab Nat × List Nat)) (w : World) (wb : Nat) (e : Ending) (w' : World) : Prop :=
  w.grownBy w' (some wb) ∧ match r with
    | .error c => e = .returned (.int .i64 c)
    | .ok x => e = .returned (.int .i64 0) ∧ ∃ p av, WkAt w' wb p av x.1 x.2

theorem cutS_take {l : Int} {A : List Nat} {j : Nat} (h : ∀ (i x : Nat), j ≤ i → A[i]? = some x → wt l x = 0) : cutS l A = cutS l (A.take j) := by
  unfold cutS
  have e : A.reverse = (A.drop j).reverse ++ (A.take j).reverse := by rw [← List.reverse_append, List.take_append_drop]
  rw [e]
  have hd : ∀ x ∈ (A.drop j).reverse, (wt l x == 0) = true := by
    intro x hx
    obtain ⟨i, hi⟩ := List.getElem?_of_mem (List.mem_reverse.1 hx)
    rw [List.getElem?_drop] at hi
    simp [h (j + i) x (by omega) hi]
  rw [List.dropWhile_append_of_pos hd]
theorem cutS_some {l : Int} {A : List Nat} {j : Nat} {x : Nat} (h : ∀ (i x : Nat), j + 1 ≤ i → A[i]? = some x → wt l x = 0) (hx : A[j]? = some x) (h0 : wt l x ≠ 0) : cutS l A = x :: (A.take j).reverse := by
  rw [cutS_take h]
  unfold cutS
  rw [List.take_add_one, hx, List.reverse_append]
  simp only [Option.toList_some, List.reverse_cons, List.reverse_nil, List.nil_append, List.cons_append]
  rw [List.dropWhile_cons, if_neg (by simpa using h0)]
theorem cutS_none {l : Int} {A : List Nat} (h : ∀ (i x : Nat), A[i]? = some x → wt l x = 0) : cutS l A = [] := by
  rw [cutS_take (j := 0) (fun i x _ => h i x)]; rfl

theorem move_done {w w4 W7 wr : World} {wb g2 c6 j n : Nat} {tb0 tb4 : Nat} {sa : Option Addr} {sn sc : Nat} {cur : Array Value} {T' : Tab Nat} {L A' : List Nat} {v : Nat} (hbw4 : Below w.heap.size w w4) (hT4 : TableAt w4 (.pointer (some ⟨tb4, 0, none⟩)) T') (wbk4 : w4.heap[wb]? = some (.cells #[.pointer (some ⟨tb0, 0, none⟩), .slice sa sn sc] 109 (0, 0))) (hwb : wb < w.heap.size)
    (h57 : w4.grownBy W7 (some wb)) (wbk7 : W7.heap[wb]? = some (.cells #[.pointer (some ⟨tb4, 0, none⟩), .slice (some ⟨g2, 0, none⟩) (j + 1) c6] 109 (0, 0))) (h7r : W7.grownBy wr (some g2)) (hgb : w4.heap.size ≤ g2) (hcur : wr.heap[g2]? = some (.cells cur 47 (0, 0))) (htk : cur.toList.take (j + 1) = cellsE L) (hL : L.length = j + 1) (hlc : j + 1 ≤ c6)
    (hlt : ∀ e ∈ L, e < 4294967296) (hv : v < 4294967296) (hLs : L.set j v = A') (hA : A'.length ≤ 1000) : WkRet (.ok (T', A')) w wb (.returned (.int .i64 0)) ((wr.drewN n).setCell ⟨g2, j, none⟩ (.int .u32 (v : Nat))) := by
  have hsz := hbw4.size
  have hcur1 : (wr.drewN n).heap[g2]? = some (.cells cur 47 (0, 0)) := hcur
  have hgs := (h7r.trans (grown_drewN wr n (some g2))).trans (grownBy_setCell (wr.drewN n) g2 j (.int .u32 (v : Nat)))
  have hg4 : w4.grownBy ((wr.drewN n).setCell ⟨g2, j, none⟩ (.int .u32 (v : Nat))) (some wb) := h57.andThen hgs (fun k hk => by simp at hk; exact .inl (by omega))
  have hwt := OwnE.write (w' := (wr.drewN n).setCell ⟨g2, j, none⟩ (.int .u32 (v : Nat))) (base := w4.heap.size) (c := c6) (i := j) (l := L) (x := v) (by rw [hL]; exact htk) hlt hv (by rw [hL]; exact hlc) hgb (heap_setCell _ hcur1)
  rw [hLs, hL] at hwt
  refine ⟨((grown_below hbw4).but _).trans hg4, rfl, _, _, ?_, hT4.off hg4 wbk4, hwt.sl, hA⟩
  exact (hgs.block _ (Array.getElem?_eq_some_iff.1 wbk7).1 (by simp; omega)).trans wbk7

set_option maxRecDepth 100000 in
set_option maxHeartbeats 4000000 in
theorem move_any (w : World) (wb : Nat) (p av : Value) (T : Tab Nat) (A : List Nat) (h : WkAt w wb p av T A) (l : Int) (hl : l = 1 ∨ l = 2 ∨ l = 3) :
    Calls Tryz.prog 98 #[.pointer (some ⟨wb, 0, none⟩), .int .i64 l] w (WkRet (moveS T A l) w wb) := by
  have hwb := h.lt
  obtain ⟨tb0, rfl⟩ := h.tab.ptr
  have b0 := (Below.refl w.heap.size w).alloc (Nat.le_refl _) (.cells #[.int .i64 l] 3)
  have h0 := h.below b0
  obtain ⟨aa, ac, rfl, hac, _, hop⟩ := h0.anc.open
  have c0 := cell_of_block (i := 0) h0.blk rfl
  have c1 := cell_of_block (i := 1) h0.blk rfl
  have lb := cell_of_block (i := 0) (heap_alloc_last w (.cells #[.int .i64 l] 3)) rfl
  have hA := h.len
  have H := Lib.hid (And.intro h (And.intro hl (And.intro hop (And.intro b0 h0))))
  clear hop h b0 h0 hl
  go_enter Tryz.func98, Tryz.ntmps98
  go_wp2_with fail
  go_loopw [5] (fun k wr => ∃ j n : Nat, j ≤ A.length ∧ k = .int .i64 ((j : Int) - 1) ∧ Hid (wr = (w.alloc (.cells #[.int .i64 l] 3)).drewN n) ∧ Hid (∀ (i x : Nat), j ≤ i → A[i]? = some x → wt l x = 0)) (fun k _ => (RowKit.intOf k + 1).toNat)
  case atStart => exact ⟨A.length, 0, Nat.le_refl _, rfl, Lib.hid rfl, Lib.hid (fun i x hi hx => by rw [List.getElem?_eq_none hi] at hx; cases hx)⟩
  case round =>
    obtain ⟨j, n, hj, rfl, hW, hI⟩ := hrel
    have hbw : Below w.heap.size w wr := by rw [hW.out]; exact Below.drewN H.out.2.2.2.1 n
    have k0 : wr.cell? ⟨wb, 0, none⟩ = some (.pointer (some ⟨tb0, 0, none⟩)) := by rw [hW.out]; exact c0
    have k1 : wr.cell? ⟨wb, 1, none⟩ = some (.slice aa A.length ac) := by rw [hW.out]; exact c1
    have kl : wr.cell? ⟨w.heap.size, 0, none⟩ = some (.int .i64 l) := by rw [hW.out]; exact lb
    have hW1 : w.heap.size + 1 ≤ wr.heap.size := by rw [hW.out]; simp
    clear c0 c1 lb
    cases j with
    | zero =>
      have hno := cutS_none (fun i x hx => hI.out i x (Nat.zero_le _) hx)
      have HN := Lib.hid hno
      clear hno hI
      rw [show ((0 : Nat) : Int) - 1 = -1 from rfl]
      go_wp2_with fail
      go_quiet (fail)
      go_wp2_with fail
      go_ret
      refine ⟨((grown_below hbw).but _).trans (grown_drewN _ _ _), ?_⟩
      unfold moveS
      rw [HN.out]
      rfl
    | succ j =>
      rw [show ((j + 1 : Nat) : Int) - 1 = (j : Int) by omega]
      obtain ⟨b, o, rfl, hbb, hcell⟩ := H.out.2.2.1 (by omega)
      obtain ⟨y, hy⟩ : ∃ y, A[j]? = some y := ⟨A[j], List.getElem?_eq_getElem (by omega)⟩
      have hcy : wr.cell? ⟨b, o + j, none⟩ = some (.int .u32 (y : Nat)) := by rw [hW.out]; exact hcell j y hy
      have hy32 := H.out.1.anc.2 y (List.mem_of_getElem? hy)
      have hwy := fun w => weight_any w y hy32 l
      have hylt : wt l y ≤ 65535 := by have := wt_lt l hy32; omega
      have hj0 : (0 : Int) ≤ (j : Int) := by omega
      by_cases hz : wt l y = 0
      · have HZ := Lib.hid (And.intro hy hz)
        rw [hz] at hwy
        simp only [Int.ofNat_zero] at hwy
        clear hcell hy hz
        go_wp2_with fail
        go_quiet ((go_at_call 26; exact quiet_same (v := .int .i64 0) (hwy _)))
        go_wp2_with fail
        go_roundw
        case rel =>
          refine ⟨j, _, by omega, rfl, Lib.hid (by rw [hW.out, World.drewN_drewN]), Lib.hid (fun i x hi hx => ?_)⟩
          by_cases hij : i = j
          · subst hij
            rw [HZ.out.1] at hx; cases hx; exact HZ.out.2
          · exact hI.out i x (by omega) hx
        case measure => simp [RowKit.intOf]
      · have hcut := cutS_some (fun i x hi hx => hI.out i x hi hx) hy hz
        have hmv : moveS T A l = if l = 1 ∧ 64255 < wt 1 y then .error 1 else if hasS T l (mostW l) then .error 60 else .ok (mapT (upW l (wt l y)) T, (A.take j).map (upW l (wt l y)) ++ [newW l y]) := by
          unfold moveS; rw [hcut]; simp only [List.reverse_reverse]
        have HM := Lib.hid (And.intro hmv hy)
        have hz' : ((wt l y : Int) == 0) = false := by simp; omega
        have hwy0 := fun n => hwy (wr.drewN n)
        have hmost := fun w => most_any w l H.out.2.1
        have hbw1 := hbw
        clear hcut hmv hcell hy hz hI
        obtain ⟨z, hzz⟩ : ∃ z, wt l y = z := ⟨_, rfl⟩
        rw [hzz] at hwy0 hz' hylt
        have HZ := Lib.hid hzz
        have htest : (l = 1 ∧ 64255 < z) ∨ (l = 1 ∧ z ≤ 64255) ∨ l ≠ 1 := by omega
        clear hzz hwy
        go_wp2_with fail
        go_quiet ((go_at_call 26; exact quiet_same (v := .int .i64 (z : Nat)) (hwy0 _)))
        have hq := Below.drewN (Below.refl wr.heap.size wr) nq
        obtain ⟨wq, hwq⟩ : ∃ wq, wr.drewN nq = wq := ⟨_, rfl⟩
        have hbq : Below w.heap.size w wq := by rw [← hwq]; exact Below.next hbw hq
        have q0 : wq.cell? ⟨wb, 0, none⟩ = some (.pointer (some ⟨tb0, 0, none⟩)) := by rw [← hwq]; exact k0
        have q1 : wq.cell? ⟨wb, 1, none⟩ = some (.slice (some ⟨b, o, none⟩) A.length ac) := by rw [← hwq]; exact k1
        have ql : wq.cell? ⟨w.heap.size, 0, none⟩ = some (.int .i64 l) := by rw [← hwq]; exact kl
        have qy : wq.cell? ⟨b, o + j, none⟩ = some (.int .u32 (y : Nat)) := by rw [← hwq]; exact hcy
        have hWq : w.heap.size + 1 ≤ wq.heap.size := by rw [← hwq]; simpa using hW1
        have hwyq : ∀ w, Calls Tryz.prog 26 #[.int .u32 y, .int .i64 l] w fun en w' => en = .returned (.int .i64 (z : Nat)) ∧ w = w' := fun w => by have := weight_any w y hy32 l; rw [HZ.out] at this; exact this
        have hbb2 : b < w.heap.size + 1 := by simpa using hbb
        have hbN : b < wq.heap.size := by omega
        rw [hwq]
        clear hwq hq hbw hW hwy0 k0 k1 kl hcy hW1
        have hTq := H.out.1.tab.below hbq
        have hhas := fun wd (hd : wd = wq.drewN 1) => has_any wd wb _ T (by rw [hd]; exact Nat.lt_of_lt_of_le hwb hbq.size) (by rw [hd]; exact q0) (hTq.below (by rw [hd]; exact Below.drewN (Below.refl _ _) 1)) l (mostW l)
        have HH := Lib.hid (And.intro hTq hhas)
        clear hTq hhas
        have hjd : decide ((j : Int) < 0) = false := by simp
        rcases htest with ⟨rfl, hgt⟩ | htest
        · have hmost1 : ∀ w, Calls Tryz.prog 139 #[.int .i64 1] w fun en w' => en = .returned (.int .i64 64255) ∧ w = w' := hmost
          have hgi : decide ((64255 : Int) < (z : Int)) = true := by simp; omega
          clear hmost
          go_wp2_with (first | (go_at_call 26; refine (hwyq _).mono ?_; rintro _ _ ⟨rfl, rfl⟩) | (go_at_call 139; refine (hmost1 _).mono ?_; rintro _ _ ⟨rfl, rfl⟩))
          go_ret
          have hzz := HZ.out
          refine ⟨(grown_below hbq).but _, ?_⟩
          rw [HM.out.1, if_pos (by simp; omega)]
          rfl
        · have hmv : moveS T A l = if hasS T l (mostW l) then .error 60 else .ok (mapT (upW l z) T, (A.take j).map (upW l z) ++ [newW l y]) := by
            have hzz := HZ.out
            rw [HM.out.1, if_neg (by rcases htest with ⟨rfl, h⟩ | h; omega; exact fun h2 => h h2.1), hzz]
          have hp1 : l = 1 → z ≤ 64255 := by omega
          have HM2 := Lib.hid (And.intro hmv (And.intro HM.out.2 hp1))
          clear HM hmv hp1
          have eg : ∀ args w, (callFunc 141 args).run Tryz.prog w = .ok (.enter 141 args) w := enters_of Tryz.func141 (by kernel_rfl) rfl
          have EG := Lib.hid eg
          clear eg
          rcases htest with ⟨hl1, hle⟩ | hl1
          all_goals
            first
            | (have hle0 := hle
               have hmost1 : ∀ w, Calls Tryz.prog 139 #[.int .i64 1] w fun en w' => en = .returned (.int .i64 64255) ∧ w = w' := fun w => most_any w 1 (.inl rfl)
               have hwy1 : ∀ w, Calls Tryz.prog 26 #[.int .u32 y, .int .i64 1] w fun en w' => en = .returned (.int .i64 (z : Nat)) ∧ w = w' := fun w => by have := hwyq w; rw [hl1] at this; exact this
               have hgi : decide ((64255 : Int) < (z : Int)) = false := by simp; omega
               have hl1' : (l == 1) = true := by simpa using hl1
               clear hl1
               go_wp2_with (first | (go_at_call 26; refine (hwy1 _).mono ?_; rintro _ _ ⟨rfl, rfl⟩) | (go_at_call 139; refine (hmost1 _).mono ?_; rintro _ _ ⟨rfl, rfl⟩))
               clear hgi hmost1 hle0 hle hl1' hwy1)
            | (have hl1' : (l == 1) = false := by simpa using hl1
               go_wp2_with fail
               clear hl1' hl1)
            refine wp_tail 4 (by kernel_rfl) (by kernel_rfl) (fun wd hwd => ?_)
            subst hwd
            iterate 3 still_step
            refine wpStill_step (fun K hK => ?_)
            go_simp
            refine ⟨_, (hmost _).mono (fun _ _ ⟨h1, h2⟩ => ⟨h1, h2.symm⟩), hK _ ?_⟩
            clear hK K
            refine wpStill_nil ?_
            have hh := HH.out.2 _ rfl
            obtain ⟨hv, hhv⟩ : ∃ hv, hasS T l (mostW l) = hv := ⟨_, rfl⟩
            rw [hhv] at hh
            have HV := Lib.hid hhv
            clear hhv hmost
            go_wp2_with fail
            refine hh.mono ?_
            clear hh
            rintro e w2 ⟨rfl, hb2⟩
            have hb2q := Below.next (Below.drewN (Below.refl wq.heap.size wq) 1) hb2
            have hbw2 := Below.next hbq hb2q
            cases hv with
            | true =>
              go_wp2_with fail
              go_ret
              exact ⟨(grown_below hbw2).but _, by rw [HM2.out.1, HV.out]; rfl⟩
            | false =>
              have r0 := (hb2q.cell (p := ⟨wb, 0, none⟩) (by show wb < _; omega)).trans q0
              have r1 := (hb2q.cell (p := ⟨wb, 1, none⟩) (by show wb < _; omega)).trans q1
              have rl := (hb2q.cell (p := ⟨w.heap.size, 0, none⟩) (by show w.heap.size < _; omega)).trans ql
              have ry := (hb2q.cell (p := ⟨b, o + j, none⟩) hbN).trans qy
              have hz2 := hb2q.size
              have hbN2 : b < w2.heap.size := by omega
              have hW2 : w.heap.size + 1 ≤ w2.heap.size := by omega
              have hW2' : w.heap.size < w2.heap.size := by omega
              have hwb2 : wb < w2.heap.size := by omega
              have HB2 := Lib.hid (And.intro hb2q hbw2)
              clear q0 q1 ql qy hb2 hb2q hbw2 hbN hWq hbq hbw1 hz2
              go_wp2_with fail
              have hjlt : j < A.length := by omega
              go_region_held3 (fun w' => w'.cell? ⟨wb, 1, none⟩ = some (.slice (some ⟨b, o, none⟩) A.length ac) ∧ w'.cell? ⟨w.heap.size, 0, none⟩ = some (.int .i64 l) ∧ w'.cell? ⟨b, o + j, none⟩ = some (.int .u32 (y : Nat))) (go_keep) (first | (go_at_call 26; refine (hwyq _).mono ?_; rintro _ _ ⟨rfl, rfl⟩))
              all_goals
                obtain ⟨W3, hW3⟩ : ∃ W3, (w2.alloc (.cells #[.int .i64 (z : Nat)] 3)).drew = W3 := ⟨_, rfl⟩
                have b3 : Below w2.heap.size w2 W3 := by rw [← hW3]; exact Below.drewN ((Below.refl _ _).alloc (Nat.le_refl _) _) 1
                have hz3 : W3.heap.size = w2.heap.size + 1 := by rw [← hW3]; simp
                have pz : W3.cell? ⟨w2.heap.size, 0, none⟩ = some (.int .i64 (z : Nat)) := by rw [← hW3]; simp
                have r0 := (b3.cell (p := ⟨wb, 0, none⟩) hwb2).trans r0
                have r1 := (b3.cell (p := ⟨wb, 1, none⟩) hwb2).trans r1
                have rl := (b3.cell (p := ⟨w.heap.size, 0, none⟩) hW2').trans rl
                have ry := (b3.cell (p := ⟨b, o + j, none⟩) hbN2).trans ry
                have hbw3 := Below.next HB2.out.2 b3
                have hT3 := H.out.1.tab.below hbw3
                have hmap := map_any W3 _ T hT3 141 #[.pointer (some ⟨w.heap.size, 0, none⟩), .pointer (some ⟨w2.heap.size, 0, none⟩)] EG.out (upW l z) (fun x w' hx hb => up_any w' x hx w.heap.size w2.heap.size l H.out.2.1 z ((hb.cell (p := ⟨w.heap.size, 0, none⟩) (show w.heap.size < W3.heap.size by omega)).trans rl) ((hb.cell (p := ⟨w2.heap.size, 0, none⟩) (show w2.heap.size < W3.heap.size by omega)).trans pz)) (fun x hx => upW_lt l z hx)
                rw [hW3]
                have HB3 := Lib.hid (And.intro hbw3 (And.intro rl pz))
                clear hW3 b3 HB2 hbN2 hW2 hT3 hbw3
                go_wp2_with fail
                refine hmap.mono ?_
                clear hmap
                rintro e w4 ⟨p4, rfl, hT4, hb4⟩
                obtain ⟨tb4, rfl⟩ := hT4.ptr
                have hbw4 := Below.next HB3.out.1 hb4
                have wbk4 : w4.heap[wb]? = some (.cells #[.pointer (some ⟨tb0, 0, none⟩), .slice (some ⟨b, o, none⟩) A.length ac] 109 (0, 0)) := blk_below H.out.1.blk hbw4
                have hlt3 : wb < W3.heap.size := by omega
                have r0 := (hb4.cell (p := ⟨wb, 0, none⟩) hlt3).trans r0
                have r1 := (hb4.cell (p := ⟨wb, 1, none⟩) hlt3).trans r1
                have f0 : w4.frozen? ⟨wb, 0, none⟩ = false := frozen_of_block wbk4
                have hg5 := grownBy_setCell w4 wb 0 (.pointer (some ⟨tb4, 0, none⟩))
                have wbk5 := heap_setCell (i := 0) (.pointer (some ⟨tb4, 0, none⟩)) wbk4
                have hT5 := hT4.off hg5 wbk4
                have hA4 := H.out.1.anc.below hbw4
                have hA5 := hA4.off hg5 wbk4
                have hpre := SlE.pre hA5 (show j + 1 ≤ A.length by omega)
                have hcl := cloneE_any _ _ _ hpre (by rw [List.length_take]; omega)
                have hsz4 := hb4.size
                have H4 := Lib.hid (And.intro hT4 (And.intro wbk4 hbw4))
                have H5 := Lib.hid (And.intro hbw4 (And.intro wbk5 (And.intro hT5 (And.intro hpre hb4))))
                clear hT4 hbw4 wbk4 wbk5 hT5 hg5 hA4 hA5 hpre hb4 ry hlt3
                go_wp2_with fail
                refine hcl.mono ?_
                clear hcl
                rintro e w6 ⟨v6, rfl, hown6, hb6⟩
                obtain ⟨a6, c6, rfl, hc6, hn6⟩ := owns_slice hown6
                clear hn6
                have hgs7 := grownBy_setCell w6 wb 1 (.slice a6 (A.take (j + 1)).length c6)
                have wbk6 := blk_below H5.out.2.1 hb6
                have wbk7 := heap_setCell (i := 1) (.slice a6 (A.take (j + 1)).length c6) wbk6
                have hT7 := (H5.out.2.2.1.below hb6).off hgs7 wbk6
                have hown7 := OwnE.own rfl hown6 H5.out.2.2.2.1.2
                have hoE := hown7.grown hgs7 (hown7.obj wbk6 (fun _ e => by cases e))
                have f1 : w6.frozen? ⟨wb, 1, none⟩ = false := frozen_of_block wbk6
                have q1 := cell_of_block (i := 1) wbk6 rfl
                have q0 := cell_of_block (i := 0) wbk6 rfl
                have hszs : W3.heap.size ≤ w4.heap.size ∧ w4.heap.size ≤ w6.heap.size := ⟨hsz4, by have := hb6.size; simpa [World.setCell] using this⟩
                have hg57 : w4.grownBy (w6.setCell ⟨wb, 1, none⟩ (.slice a6 (A.take (j + 1)).length c6)) (some wb) := (grownBy_setCell w4 wb 0 (.pointer (some ⟨tb4, 0, none⟩))).trans (((grown_below hb6).but _).trans hgs7)
                have H7 := Lib.hid (And.intro wbk7 (And.intro hT7 (And.intro hoE hg57)))
                clear hgs7 wbk6 wbk7 hT7 hown7 hoE hown6 hb6 hg57
                have hN5 : (w4.setCell ⟨wb, 0, none⟩ (.pointer (some ⟨tb4, 0, none⟩))).heap.size = w4.heap.size := by simp [World.setCell]
                rw [List.length_take, Nat.min_eq_left (show j + 1 ≤ A.length by omega)] at hc6 H7
                rw [hN5] at H7
                simp only [List.length_take, Nat.min_eq_left (show j + 1 ≤ A.length by omega)]
                have hb34 := H5.out.2.2.2.2
                have rl4 := (hb34.cell (p := ⟨w.heap.size, 0, none⟩) (show w.heap.size < W3.heap.size by omega)).trans HB3.out.2.1
                have pz4 := (hb34.cell (p := ⟨w2.heap.size, 0, none⟩) (show w2.heap.size < W3.heap.size by omega)).trans HB3.out.2.2
                obtain ⟨W7, hW7⟩ : ∃ W7, w6.setCell ⟨wb, 1, none⟩ (.slice a6 (j + 1) c6) = W7 := ⟨_, rfl⟩
                rw [hW7] at H7
                have rl7 := (grown_cell' H7.out.2.2.2 (show w.heap.size < w4.heap.size by omega) (show w.heap.size ≠ wb by omega)).trans rl4
                have pz7 := (grown_cell' H7.out.2.2.2 (show w2.heap.size < w4.heap.size by omega) (show w2.heap.size ≠ wb by omega)).trans pz4
                have k0 : W7.cell? ⟨wb, 0, none⟩ = some (.pointer (some ⟨tb4, 0, none⟩)) := cell_of_block H7.out.1 (by simp)
                have k1 : W7.cell? ⟨wb, 1, none⟩ = some (.slice a6 (j + 1) c6) := cell_of_block H7.out.1 (by simp)
                clear rl4 pz4 hb34 hN5
                go_wp2_with fail
                try rw [hW7]
                clear hW7
                have hg0 := World.grownBy.refl W7 (Value.slice a6 (j + 1) c6).ownBlock
                have hPl : (A.take (j + 1)).length = j + 1 := by rw [List.length_take]; omega
                have HPL := Lib.hid hPl
                have hoE7 := H7.out.2.2.1
                have hW7s : w4.heap.size ≤ W7.heap.size := H7.out.2.2.2.size
                have hwb7 : wb < W7.heap.size := by omega
                clear hPl q0 q1 f0 f1
                go_loopw [91] (fun i wr => ∃ q : Nat, q ≤ j + 1 ∧ i = .int .i64 q ∧ OwnE wr w4.heap.size (.slice a6 (j + 1) c6) (mapTo (upW l z) q (A.take (j + 1))) ∧ W7.grownBy wr (Value.slice a6 (j + 1) c6).ownBlock) (fun i _ => j + 1 - (RowKit.intOf i).toNat)
                case atStart => exact ⟨0, Nat.zero_le _, rfl, by rw [mapTo_none]; exact hoE7, hg0⟩
                case round =>
                  obtain ⟨q, hq, rfl, hoj, hgj⟩ := hrel
                  have hml : (mapTo (upW l z) q (A.take (j + 1))).length = j + 1 := by rw [mapTo_len]; exact HPL.out
                  obtain ⟨hlt32, ⟨he1, he2⟩ | ⟨g2, cc, cur, he1, hgb, hcur, hlc, htk⟩⟩ := hoj
                  · exfalso
                    have := congrArg List.length he2
                    rw [hml, List.length_nil] at this
                    omega
                  rw [hml] at he1 hlc htk
                  cases he1
                  have hgj2 : W7.grownBy wr (some g2) := hgj
                  have k0 := (grown_cell hgj2 (b := wb) (o := 0) hwb7 (show some wb ≠ some g2 by simp; omega)).trans k0
                  have k1 := (grown_cell hgj2 (b := wb) (o := 1) hwb7 (show some wb ≠ some g2 by simp; omega)).trans k1
                  have rl7 := (grown_cell hgj2 (b := w.heap.size) (o := 0) (show w.heap.size < W7.heap.size by omega) (show some w.heap.size ≠ some g2 by simp; omega)).trans rl7
                  have pz7 := (grown_cell hgj2 (b := w2.heap.size) (o := 0) (show w2.heap.size < W7.heap.size by omega) (show some w2.heap.size ≠ some g2 by simp; omega)).trans pz7
                  have hg2 := (Array.getElem?_eq_some_iff.1 hcur).1
                  have hgw := hgj2.size
                  by_cases hq1 : q < j + 1
                  · obtain ⟨x, hx⟩ : ∃ x, (A.take (j + 1))[q]? = some x := ⟨(A.take (j + 1))[q]'(by rw [HPL.out]; exact hq1), List.getElem?_eq_getElem _⟩
                    have hxm := mapTo_at (upW l z) hx
                    have hx32 : x < 4294967296 := hlt32 x (List.mem_of_getElem? hxm)
                    have hcx : cur[q]? = some (.int .u32 (x : Nat)) := by
                      have h1 : (cur.toList.take (j + 1))[q]? = some (.int .u32 (x : Nat)) := by rw [htk, cellsE, List.getElem?_map, hxm]; rfl
                      rw [List.getElem?_take_of_lt hq1, Array.getElem?_toList] at h1; exact h1
                    have cx := cell_of_block hcur hcx
                    have fx : wr.frozen? ⟨g2, q, none⟩ = false := frozen_of_block hcur
                    have eg := EG.out
                    have hup := up_any wr.drew x hx32 w.heap.size w2.heap.size l H.out.2.1 z rl7 pz7
                    have HJ := Lib.hid (And.intro hx (And.intro hlt32 (And.intro hlc (And.intro htk (And.intro hgb (And.intro hcur (And.intro hgj2 hml)))))))
                    clear hx hxm hlt32 htk hcx hgj hgj2 hcur hml hoE7 hg0
                    go_wp2_with fail
                    refine wp_tail 8 (by kernel_rfl) (by kernel_rfl) (fun wd hwd => ?_)
                    subst hwd
                    iterate 7 still_step
                    refine wpStill_step (fun K hK => ?_)
                    go_simp
                    refine ⟨_, hup.mono (fun _ _ ⟨h1, h2⟩ => ⟨h1, h2.symm⟩), hK _ ?_⟩
                    clear hK K hup
                    refine wpStill_nil ?_
                    go_wp2_with fail
                    go_roundw
                    case rel =>
                      obtain ⟨hx, hlt32, hlc, htk, hgb, hcur, hgj, hml⟩ := HJ.out
                      have hcur1 : (wr.drewN 1).heap[g2]? = some (.cells cur 47 (0, 0)) := hcur
                      have hwt := OwnE.write (w' := (wr.drewN 1).setCell ⟨g2, q, none⟩ (.int .u32 (upW l z x : Nat))) (base := w4.heap.size) (c := c6) (i := q) (l := mapTo (upW l z) q (A.take (j + 1))) (x := upW l z x) (by rw [hml]; exact htk) hlt32 (upW_lt l z hx32) (by rw [hml]; exact hlc) hgb (heap_setCell _ hcur1)
                      rw [mapTo_step (upW l z) hx, hml] at hwt
                      exact ⟨q + 1, by omega, by go_num, hwt, hgj.trans ((grown_drewN wr 1 (some g2)).trans (grownBy_setCell _ _ _ _))⟩
                    case measure => simp [RowKit.intOf]; omega
                  · obtain rfl : q = j + 1 := by omega
                    have hyj : (A.take (j + 1))[j]? = some y := by rw [List.getElem?_take, if_pos (by omega)]; exact HM2.out.2.1
                    have huy : upW l z y = y := by unfold upW; rw [if_neg (by rw [HZ.out]; omega)]
                    have hma : mapTo (upW l z) (j + 1) (A.take (j + 1)) = (A.take (j + 1)).map (upW l z) := by
                      have h := mapTo_all (upW l z) (A.take (j + 1))
                      rw [HPL.out] at h; exact h
                    rw [hma] at htk hml hlt32
                    have hcx : cur[j]? = some (.int .u32 (y : Nat)) := by
                      have h1 : (cur.toList.take (j + 1))[j]? = some (.int .u32 (y : Nat)) := by rw [htk, cellsE, List.map_map, List.getElem?_map, hyj]; show some (Value.int .u32 ((upW l z y : Nat) : Int)) = _; rw [huy]
                      rw [List.getElem?_take_of_lt (by omega), Array.getElem?_toList] at h1; exact h1
                    have cx := cell_of_block hcur hcx
                    have fx : wr.frozen? ⟨g2, j, none⟩ = false := frozen_of_block hcur
                    have hz65 : z + 1 < 65536 := by
                      have h1 := HM2.out.2.2
                      have h2 := wt_bnd H.out.2.1 hy32
                      rw [HZ.out] at h2
                      rcases H.out.2.1 with h | h | h
                      · have := h1 h; omega
                      · rw [h] at h2; simp [bndW] at h2; omega
                      · rw [h] at h2; simp [bndW] at h2; omega
                    have hwith := fun w => with_any w y hy32 l H.out.2.1 (z + 1) hz65
                    have hset32 := setw_lt l (z + 1) hy32
                    have HJ := Lib.hid (And.intro hlt32 (And.intro hlc (And.intro htk (And.intro hgb (And.intro hcur (And.intro hgj2 hml))))))
                    clear hyj huy hma hlt32 htk hcx hgj hgj2 hcur hml hoE7 hg0
                    rw [show ((z + 1 : Nat) : Int) = (z : Int) + 1 by omega] at hwith
                    go_wp2_with fail
                    go_quiet ((go_at_call 133; exact quiet_same (v := .int .u32 (setw l y (z + 1) : Nat)) (hwith _)))
                    have hfin : ∀ (n v : Nat), v < 4294967296 → v = newW l y → WkRet (moveS T A l) w wb (.returned (.int .i64 0)) ((wr.drewN n).setCell ⟨g2, j, none⟩ (.int .u32 (v : Nat))) := by
                      intro n v hv hvv
                      obtain ⟨hlt32, hlc, htk, hgb, hcur, hgj2, hml⟩ := HJ.out
                      rw [HM2.out.1, HV.out]
                      refine move_done H4.out.2.2 H4.out.1 H4.out.2.1 hwb H7.out.2.2.2 H7.out.1 hgj2 hgb hcur htk hml hlc hlt32 hv ?_ ?_
                      · rw [List.take_add_one, HM2.out.2.1, hvv]
                        simp only [Option.toList_some, List.map_append, List.map_cons, List.map_nil]
                        rw [List.set_append_right _ _ (by rw [List.length_map, List.length_take]; omega)]
                        have : j - ((A.take j).map (upW l z)).length = 0 := by rw [List.length_map, List.length_take]; omega
                        rw [this]; rfl
                      · rw [List.length_append, List.length_map, List.length_take]; simp; omega
                    have hny : newW l y = if l = 1 then mkw (z + 1) 32 2 false else if l = 2 then setw 3 (setw 2 y (z + 1)) 2 else setw l y (z + 1) := by
                      have hz := HZ.out
                      unfold newW
                      split
                      · rename_i h; rw [h] at hz; rw [hz]
                      · split
                        · rename_i h; rw [h] at hz; rw [hz]
                        · rw [hz]
                    have HF := Lib.hid (And.intro hfin hny)
                    clear hfin hny hwith
                    have hcl : l = 1 ∨ l = 2 ∨ l = 3 := H.out.2.1
                    rcases hcl with hl | hl | hl
                    · have e1 : (l == 1) = true := by simpa using hl
                      have e2 : (l == 2) = false := by simp; omega
                      have hmk := fun w => make_any w (z + 1) 32 2 false hz65 (by decide) (by decide)
                      rw [show ((z + 1 : Nat) : Int) = (z : Int) + 1 by omega] at hmk
                      have HL := Lib.hid hl
                      clear hl
                      go_wp2_with (go_at_call 96; refine (hmk _).mono ?_; rintro _ _ ⟨rfl, rfl⟩)
                      go_ret
                      exact HF.out.1 _ _ (mkw_lt _ hz65 (by decide) (by decide)) (by rw [HF.out.2, if_pos HL.out])
                    · have e1 : (l == 1) = false := by simp; omega
                      have e2 : (l == 2) = true := by simpa using hl
                      have hwi := fun w => with_any w (setw l y (z + 1)) hset32 3 (.inr (.inr rfl)) 2 (by decide)
                      have HL := Lib.hid hl
                      clear hl
                      go_wp2_with (go_at_call 133; refine (hwi _).mono ?_; rintro _ _ ⟨rfl, rfl⟩)
                      go_ret
                      exact HF.out.1 _ _ (setw_lt _ _ hset32) (by rw [HF.out.2, if_neg (by rw [HL.out]; decide), if_pos HL.out, HL.out])
                    · have e1 : (l == 1) = false := by simp; omega
                      have e2 : (l == 2) = false := by simp; omega
                      have HL := Lib.hid hl
                      clear hl
                      go_wp2_with fail
                      go_ret
                      exact HF.out.1 _ _ hset32 (by rw [HF.out.2, if_neg (by rw [HL.out]; decide), if_neg (by rw [HL.out]; decide)])
end Go.Proofs.YtccdkchmeelkfaaGreatDoor

/- (W29) slices.Concat of two rows of elements; rule. -/
namespace Go.Proofs.YtccdkchmeelkfaaGreatDoor
open Go.RowKit Go.Shelf

set_option maxRecDepth 100000 in
set_option maxHeartbeats 4000000 in
theorem grow_any (w : World) (n : Nat) (hn : n ≤ 1000) :
    Calls Tryz.prog 144 #[.slice none 0 0, .int .i64 n] w fun e w' => ∃ v, e = .returned v ∧ w'.ownsRow w.heap.size 47 1 v 0 [] ∧ Below w.heap.size w w' := by
  by_cases h0 : 0 < n
  · have hi : (0 : Int) < (n : Int) := by omega
    go_enter Tryz.func144, Tryz.ntmps144
    have hb4 : Tryz.t47.bytes = 4 := by kernel_rfl
    have hnc : Builtin.nextslicecap n 0 = n := by unfold Builtin.nextslicecap; simp; omega
    have k1 : ¬ (281474976710656 < (n : Int) * ((Tryz.t47.bytes : Nat) : Int)) := by rw [hb4]; omega
    have k2 : ¬ (281474976710656 < Builtin.nextslicecap n 0 * Tryz.t47.bytes) := by rw [hb4, hnc]; omega
    have HB := Lib.hid (And.intro k1 k2)
    clear hb4 hnc k1 k2
    go_wp2_with fail
    all_goals
      first
      | exact absurd (by assumption) (Int.not_lt.2 HB.out.1)
      | exact absurd (by assumption) HB.out.2
      | skip
    go_ret
    have hc := grownCap_ge w n 0 47
    have hc2 := grownCap_le_maxLen w n 0 47 (by unfold maxLen; omega)
    refine ⟨_, rfl, ⟨by simp, .inr ⟨w.heap.size, grownCap w n 0 47, _, rfl, Nat.le_refl _, heap_alloc_last w _, Nat.zero_le _, hc2, ?_, by simp⟩⟩, Below.drewN ((Below.refl _ _).alloc (Nat.le_refl _) _) 1⟩
    rw [Array.size_append, size_zeroCells, size_zeroCells]
    show n * 1 + (grownCap w n 0 47 - n) * 1 = grownCap w n 0 47 * 1
    omega
  · obtain rfl : n = 0 := by omega
    go_enter Tryz.func144, Tryz.ntmps144
    go_wp2_with fail
    go_ret
    exact ⟨_, rfl, World.ownsRow_nil _ _ _ _, Below.refl _ _⟩

set_option maxRecDepth 100000 in
set_option maxHeartbeats 4000000 in
/-- slices.Concat of two rows. -/
theorem concat_any (w : World) (g : Nat) (v1 v2 : Value) (A B : List Nat) (c0 : w.cell? ⟨g, 0, none⟩ = some v1) (c1 : w.cell? ⟨g, 1, none⟩ = some v2) (hg : g < w.heap.size) (h1 : SlE w v1 A) (h2 : SlE w v2 B) (hA : A.length ≤ 500) (hB : B.length ≤ 500) :
    Calls Tryz.prog 100 #[.slice (some ⟨g, 0, none⟩) 2 2] w fun e w' => ∃ v, e = .returned v ∧ SlE w' v (A ++ B) ∧ Below w.heap.size w w' := by
  obtain ⟨i0, hi, hz0, hz1, hz2⟩ := info_parts infoElem
  have h10 := h1
  have h20 := h2
  obtain ⟨a1, k1, rfl, hk1, hn1, _⟩ := h1.open
  obtain ⟨a2, k2, rfl, hk2, hn2, _⟩ := h2.open
  have hgr := grow_any w (A.length + B.length) (by omega)
  have H := Lib.hid (And.intro h10 h20)
  clear h1 h2 h10 h20 hn1 hn2
  rw [show ((A.length + B.length : Nat) : Int) = (A.length : Int) + (B.length : Int) by omega] at hgr
  go_enter Tryz.func100, Tryz.ntmps100
  go_wp2_with fail
  refine wp_loop_rounds 3 ?_
  go_wp2_with (with_reducible refine rounds_step ?_)
  refine hgr.mono ?_
  clear hgr
  rintro e w1 ⟨v, rfl, hown1, hb1⟩
  have hs1 := (H.out.1.below hb1).1
  have e1 := (hb1.cell (p := ⟨g, 1, none⟩) hg).trans c1
  have e0 := (hb1.cell (p := ⟨g, 0, none⟩) hg).trans c0
  have hsz1 := hb1.size
  clear c0 c1
  obtain ⟨av, cv, rfl, hcv, hnv⟩ := owns_slice hown1
  clear hnv
  go_wp2_with fail
  refine wp_loop_rounds 3 ?_
  go_wp2_with (first
    | with_reducible refine rounds_step ?_
    | (at_builtin; refine wpList_append_sl rfl _ _ 43 rfl w.heap.size 47 i0 (.int .u32 0) 1 4 Tryz.underlying43 hi hz0 hz1 hz2 rfl (by decide) _ _ _ rfl hown1 _ _ _ rfl hs1 (cellsE_one A) (by unfold maxLen; omega) (by omega) hsz1 ?_; intro v2 w2 hown2 hg2; rw [Nat.zero_add, List.nil_append] at hown2; obtain ⟨av2, cv2, rfl, hcv2, hnv2⟩ := owns_slice hown2; have hb2 := below_grown hb1 hown1 hg2; have hs2 := (H.out.2.below hb2).1; have e2 : w2.cell? ⟨g, 1, none⟩ = some (.slice a2 B.length k2) := ((grown_cell hg2 (by omega) (fun e => by have := (hown1.lt g e.symm).1; omega)).trans e1); have hsz2 := hb2.size; clear hnv2 hg2)
    | (at_builtin; refine wpList_append_sl rfl _ _ 43 rfl w.heap.size 47 i0 (.int .u32 0) 1 4 Tryz.underlying43 hi hz0 hz1 hz2 rfl (by decide) _ _ _ rfl hown2 _ _ _ rfl hs2 (cellsE_one B) (by unfold maxLen; omega) (by omega) hsz2 ?_; intro v3 w3 hown3 hg3; have hb3 := below_grown hb2 hown2 hg3; clear hg3))
  replace hown3 : w3.ownsRow w.heap.size 47 1 v3 (A.length + B.length) (cellsE (A ++ B)) := by rw [cellsE_append]; exact hown3
  go_ret
  refine ⟨_, rfl, ⟨?_, fun e he => ?_⟩, hb3⟩
  · have := Sl.of_owns hown3
    rw [← List.length_append] at this
    exact this
  · rcases List.mem_append.1 he with he | he
    · exact H.out.1.2 e he
    · exact H.out.2.2 e he
end Go.Proofs.YtccdkchmeelkfaaGreatDoor
