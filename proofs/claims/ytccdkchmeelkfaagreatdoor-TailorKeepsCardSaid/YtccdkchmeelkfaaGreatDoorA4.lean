/- Keys and signs of tables. -/
import Derived.Test.YtccdkchmeelkfaaGreatDoorA3
import Derived.Test.YtccdkchmeelkfaaGreatDoorA1
import Derived.Deep.QuietTactic
import Derived.BigQuiet
import Derived.StillTailTactics
import Derived.WalkSpells

/- (W4) parts -/
namespace Go.Proofs.YtccdkchmeelkfaaGreatDoor
open Go.RowKit

/-- What key answers: a key and whether it is one; of what is none nothing is said of the key. -/
def KeyIs (l : List Int) (w : World) (e : Ending) (w' : World) : Prop := Below w.heap.size w w' ∧ ∃ k, e = .returned (.tuple #[encK k, .bool (decide (okKey l))]) ∧ (okKey l → k = k3 l)
theorem KeyIs.mk {l : List Int} {w w' : World} {k : K3} {b : Bool} (hb : Below w.heap.size w w') (h1 : b = decide (okKey l)) (h2 : okKey l → k = k3 l) : KeyIs l w (.returned (.tuple #[encK k, .bool b])) w' := ⟨hb, k, by rw [h1], h2⟩
theorem below2 (w : World) (o o' : Obj) : Below w.heap.size w ((w.alloc o).alloc o') := ((Below.refl _ _).alloc (Nat.le_refl _) o).alloc (by simp) o'

theorem sign_yes (w : World) (x : Int) (h : isSign x = true) : Calls Tryz.prog 132 #[.int .i64 x] w fun en w' => en = .returned (.bool true) ∧ w = w' := by
  have := sign_any w x; rw [h] at this; exact this
theorem sign_no (w : World) (x : Int) (h : isSign x = false) : Calls Tryz.prog 132 #[.int .i64 x] w fun en w' => en = .returned (.bool false) ∧ w = w' := by
  have := sign_any w x; rw [h] at this; exact this

set_option maxRecDepth 100000 in
set_option maxHeartbeats 1000000 in
theorem key_out (w : World) (a : Option Addr) (c : Nat) (l : List Int) (n : Nat) (hl : n = l.length) (h : n < 1 ∨ 3 < n) (hn : n ≤ 1000000000) :
    Calls Tryz.prog 93 #[.slice a n c] w (KeyIs l w) := by
  have hk : decide (okKey l) = false := decide_eq_false (fun hh => by obtain ⟨_, _, _⟩ := hh; omega)
  have fin : ∀ o o', KeyIs l w (.returned (.tuple #[encK (0, 0, 0), .bool false])) ((w.alloc o).alloc o') := fun o o' => KeyIs.mk (below2 _ _ _) hk.symm (fun h => by simp [h] at hk)
  have FIN := Lib.hid fin
  clear hk fin hl
  rcases h with h | h
  · obtain rfl : n = 0 := by omega
    go_enter Tryz.func93, Tryz.ntmps93
    go_wp2_with fail
    exact bodyPost_ret (v := .tuple #[encK (0, 0, 0), .bool false]) (by simp [results, Tryz.results93, go_sem, encK]) rfl (FIN.out _ _)
  · have h1 : decide ((n : Int) < 1) = false := by simp; omega
    have h2 : decide ((3 : Int) < n) = true := by simp; omega
    go_enter Tryz.func93, Tryz.ntmps93
    go_wp2_with fail
    exact bodyPost_ret (v := .tuple #[encK (0, 0, 0), .bool false]) (by simp [results, Tryz.results93, go_sem, encK]) rfl (FIN.out _ _)

set_option maxRecDepth 100000 in
set_option maxHeartbeats 2000000 in
theorem key_in (w : World) (c : Nat) (l : List Int) (b o : Nat) (hb : b < w.heap.size) (h1 : 1 ≤ l.length) (h3 : l.length ≤ 3) (hc : ∀ j x, l[j]? = some x → w.cell? ⟨b, o + j, none⟩ = some (.int .i64 x)) :
    Calls Tryz.prog 93 #[.slice (some ⟨b, o, none⟩) l.length c] w (KeyIs l w) := by
  match l, h1, h3 with
  | [x], _, _ =>
    have c0 := hc 0 x rfl
    simp only [Nat.add_zero] at c0
    clear hc
    cases hs0 : isSign x
    · have fin : ∀ o o', KeyIs [x] w (.returned (.tuple #[encK (0, 0, 0), .bool false])) ((w.alloc o).alloc o') := fun o o' => KeyIs.mk (below2 _ _ _) (by simp [okKey, hs0]) (fun h => by simp [okKey, hs0] at h)
      have FIN := Lib.hid fin
      have cs0 := fun w => sign_no w x hs0
      clear fin hs0 
      go_enter Tryz.func93, Tryz.ntmps93
      go_wp2_with fail
      refine wp_loop_rounds 1 ?_
      go_wp2_with (with_reducible refine rounds_step ?_)
      refine (cs0 _).mono ?_
      rintro _ _ ⟨rfl, rfl⟩
      go_wp2_with (with_reducible refine rounds_step ?_)
      exact bodyPost_ret (v := .tuple #[encK (0, 0, 0), .bool false]) (by simp [results, Tryz.results93, go_sem, encK]) rfl (FIN.out _ _)
    have fin : ∀ o o', KeyIs [x] w (.returned (.tuple #[encK (x + 1, 0, 0), .bool true])) ((w.alloc o).alloc o') := fun o o' => KeyIs.mk (below2 _ _ _) (by simp [okKey, hs0]) (fun h => by simp [k3])
    have FIN := Lib.hid fin
    have cs0 := fun w => sign_yes w x hs0
    have hx0 := isSign_bd hs0
    have hy0 : x ≤ 2000000 := by omega
    have hz0 : 0 ≤ x := hx0.1
    clear fin hs0 hx0
    go_enter Tryz.func93, Tryz.ntmps93
    go_wp2_with fail
    refine wp_loop_rounds 2 ?_
    go_wp2_with (with_reducible refine rounds_step ?_)
    refine (cs0 _).mono ?_
    rintro _ _ ⟨rfl, rfl⟩
    go_wp2_with (with_reducible refine rounds_step ?_)
    exact bodyPost_ret (v := .tuple #[encK (x + 1, 0, 0), .bool true]) (by simp [results, Tryz.results93, go_sem, encK]) rfl (FIN.out _ _)
  | [x, y], _, _ =>
    have c0 := hc 0 x rfl
    have c1 := hc 1 y rfl
    simp only [Nat.add_zero] at c0
    clear hc
    cases hs0 : isSign x
    · have fin : ∀ o o', KeyIs [x, y] w (.returned (.tuple #[encK (0, 0, 0), .bool false])) ((w.alloc o).alloc o') := fun o o' => KeyIs.mk (below2 _ _ _) (by simp [okKey, hs0]) (fun h => by simp [okKey, hs0] at h)
      have FIN := Lib.hid fin
      have cs0 := fun w => sign_no w x hs0
      clear fin hs0 
      go_enter Tryz.func93, Tryz.ntmps93
      go_wp2_with fail
      refine wp_loop_rounds 1 ?_
      go_wp2_with (with_reducible refine rounds_step ?_)
      refine (cs0 _).mono ?_
      rintro _ _ ⟨rfl, rfl⟩
      go_wp2_with (with_reducible refine rounds_step ?_)
      exact bodyPost_ret (v := .tuple #[encK (0, 0, 0), .bool false]) (by simp [results, Tryz.results93, go_sem, encK]) rfl (FIN.out _ _)
    cases hs1 : isSign y
    · have fin : ∀ o o', KeyIs [x, y] w (.returned (.tuple #[encK (x + 1, 0, 0), .bool false])) ((w.alloc o).alloc o') := fun o o' => KeyIs.mk (below2 _ _ _) (by simp [okKey, hs0, hs1]) (fun h => by simp [okKey, hs0, hs1] at h)
      have FIN := Lib.hid fin
      have cs0 := fun w => sign_yes w x hs0
      have hx0 := isSign_bd hs0
      have hy0 : x ≤ 2000000 := by omega
      have hz0 : 0 ≤ x := hx0.1
      have cs1 := fun w => sign_no w y hs1
      clear fin hs0 hs1 hx0
      go_enter Tryz.func93, Tryz.ntmps93
      go_wp2_with fail
      refine wp_loop_rounds 2 ?_
      go_wp2_with (with_reducible refine rounds_step ?_)
      refine (cs0 _).mono ?_
      rintro _ _ ⟨rfl, rfl⟩
      go_wp2_with (with_reducible refine rounds_step ?_)
      refine (cs1 _).mono ?_
      rintro _ _ ⟨rfl, rfl⟩
      go_wp2_with (with_reducible refine rounds_step ?_)
      exact bodyPost_ret (v := .tuple #[encK (x + 1, 0, 0), .bool false]) (by simp [results, Tryz.results93, go_sem, encK]) rfl (FIN.out _ _)
    have fin : ∀ o o', KeyIs [x, y] w (.returned (.tuple #[encK (x + 1, y + 1, 0), .bool true])) ((w.alloc o).alloc o') := fun o o' => KeyIs.mk (below2 _ _ _) (by simp [okKey, hs0, hs1]) (fun h => by simp [k3])
    have FIN := Lib.hid fin
    have cs0 := fun w => sign_yes w x hs0
    have hx0 := isSign_bd hs0
    have hy0 : x ≤ 2000000 := by omega
    have hz0 : 0 ≤ x := hx0.1
    have cs1 := fun w => sign_yes w y hs1
    have hx1 := isSign_bd hs1
    have hy1 : y ≤ 2000000 := by omega
    have hz1 : 0 ≤ y := hx1.1
    clear fin hs0 hs1 hx0 hx1
    go_enter Tryz.func93, Tryz.ntmps93
    go_wp2_with fail
    refine wp_loop_rounds 3 ?_
    go_wp2_with (with_reducible refine rounds_step ?_)
    refine (cs0 _).mono ?_
    rintro _ _ ⟨rfl, rfl⟩
    go_wp2_with (with_reducible refine rounds_step ?_)
    refine (cs1 _).mono ?_
    rintro _ _ ⟨rfl, rfl⟩
    go_wp2_with (with_reducible refine rounds_step ?_)
    exact bodyPost_ret (v := .tuple #[encK (x + 1, y + 1, 0), .bool true]) (by simp [results, Tryz.results93, go_sem, encK]) rfl (FIN.out _ _)
  | [x, y, z], _, _ =>
    have c0 := hc 0 x rfl
    have c1 := hc 1 y rfl
    have c2 := hc 2 z rfl
    simp only [Nat.add_zero] at c0
    clear hc
    cases hs0 : isSign x
    · have fin : ∀ o o', KeyIs [x, y, z] w (.returned (.tuple #[encK (0, 0, 0), .bool false])) ((w.alloc o).alloc o') := fun o o' => KeyIs.mk (below2 _ _ _) (by simp [okKey, hs0]) (fun h => by simp [okKey, hs0] at h)
      have FIN := Lib.hid fin
      have cs0 := fun w => sign_no w x hs0
      clear fin hs0 
      go_enter Tryz.func93, Tryz.ntmps93
      go_wp2_with fail
      refine wp_loop_rounds 1 ?_
      go_wp2_with (with_reducible refine rounds_step ?_)
      refine (cs0 _).mono ?_
      rintro _ _ ⟨rfl, rfl⟩
      go_wp2_with (with_reducible refine rounds_step ?_)
      exact bodyPost_ret (v := .tuple #[encK (0, 0, 0), .bool false]) (by simp [results, Tryz.results93, go_sem, encK]) rfl (FIN.out _ _)
    cases hs1 : isSign y
    · have fin : ∀ o o', KeyIs [x, y, z] w (.returned (.tuple #[encK (x + 1, 0, 0), .bool false])) ((w.alloc o).alloc o') := fun o o' => KeyIs.mk (below2 _ _ _) (by simp [okKey, hs0, hs1]) (fun h => by simp [okKey, hs0, hs1] at h)
      have FIN := Lib.hid fin
      have cs0 := fun w => sign_yes w x hs0
      have hx0 := isSign_bd hs0
      have hy0 : x ≤ 2000000 := by omega
      have hz0 : 0 ≤ x := hx0.1
      have cs1 := fun w => sign_no w y hs1
      clear fin hs0 hs1 hx0
      go_enter Tryz.func93, Tryz.ntmps93
      go_wp2_with fail
      refine wp_loop_rounds 2 ?_
      go_wp2_with (with_reducible refine rounds_step ?_)
      refine (cs0 _).mono ?_
      rintro _ _ ⟨rfl, rfl⟩
      go_wp2_with (with_reducible refine rounds_step ?_)
      refine (cs1 _).mono ?_
      rintro _ _ ⟨rfl, rfl⟩
      go_wp2_with (with_reducible refine rounds_step ?_)
      exact bodyPost_ret (v := .tuple #[encK (x + 1, 0, 0), .bool false]) (by simp [results, Tryz.results93, go_sem, encK]) rfl (FIN.out _ _)
    cases hs2 : isSign z
    · have fin : ∀ o o', KeyIs [x, y, z] w (.returned (.tuple #[encK (x + 1, y + 1, 0), .bool false])) ((w.alloc o).alloc o') := fun o o' => KeyIs.mk (below2 _ _ _) (by simp [okKey, hs0, hs1, hs2]) (fun h => by simp [okKey, hs0, hs1, hs2] at h)
      have FIN := Lib.hid fin
      have cs0 := fun w => sign_yes w x hs0
      have hx0 := isSign_bd hs0
      have hy0 : x ≤ 2000000 := by omega
      have hz0 : 0 ≤ x := hx0.1
      have cs1 := fun w => sign_yes w y hs1
      have hx1 := isSign_bd hs1
      have hy1 : y ≤ 2000000 := by omega
      have hz1 : 0 ≤ y := hx1.1
      have cs2 := fun w => sign_no w z hs2
      clear fin hs0 hs1 hs2 hx0 hx1
      go_enter Tryz.func93, Tryz.ntmps93
      go_wp2_with fail
      refine wp_loop_rounds 3 ?_
      go_wp2_with (with_reducible refine rounds_step ?_)
      refine (cs0 _).mono ?_
      rintro _ _ ⟨rfl, rfl⟩
      go_wp2_with (with_reducible refine rounds_step ?_)
      refine (cs1 _).mono ?_
      rintro _ _ ⟨rfl, rfl⟩
      go_wp2_with (with_reducible refine rounds_step ?_)
      refine (cs2 _).mono ?_
      rintro _ _ ⟨rfl, rfl⟩
      go_wp2_with (with_reducible refine rounds_step ?_)
      exact bodyPost_ret (v := .tuple #[encK (x + 1, y + 1, 0), .bool false]) (by simp [results, Tryz.results93, go_sem, encK]) rfl (FIN.out _ _)
    have fin : ∀ o o', KeyIs [x, y, z] w (.returned (.tuple #[encK (x + 1, y + 1, z + 1), .bool true])) ((w.alloc o).alloc o') := fun o o' => KeyIs.mk (below2 _ _ _) (by simp [okKey, hs0, hs1, hs2]) (fun h => by simp [k3])
    have FIN := Lib.hid fin
    have cs0 := fun w => sign_yes w x hs0
    have hx0 := isSign_bd hs0
    have hy0 : x ≤ 2000000 := by omega
    have hz0 : 0 ≤ x := hx0.1
    have cs1 := fun w => sign_yes w y hs1
    have hx1 := isSign_bd hs1
    have hy1 : y ≤ 2000000 := by omega
    have hz1 : 0 ≤ y := hx1.1
    have cs2 := fun w => sign_yes w z hs2
    have hx2 := isSign_bd hs2
    have hy2 : z ≤ 2000000 := by omega
    have hz2 : 0 ≤ z := hx2.1
    clear fin hs0 hs1 hs2 hx0 hx1 hx2
    go_enter Tryz.func93, Tryz.ntmps93
    go_wp2_with fail
    refine wp_loop_rounds 4 ?_
    go_wp2_with (with_reducible refine rounds_step ?_)
    refine (cs0 _).mono ?_
    rintro _ _ ⟨rfl, rfl⟩
    go_wp2_with (with_reducible refine rounds_step ?_)
    refine (cs1 _).mono ?_
    rintro _ _ ⟨rfl, rfl⟩
    go_wp2_with (with_reducible refine rounds_step ?_)
    refine (cs2 _).mono ?_
    rintro _ _ ⟨rfl, rfl⟩
    go_wp2_with (with_reducible refine rounds_step ?_)
    exact bodyPost_ret (v := .tuple #[encK (x + 1, y + 1, z + 1), .bool true]) (by simp [results, Tryz.results93, go_sem, encK]) rfl (FIN.out _ _)

/-- table.key: the signs as an array; false where they are no key. -/
theorem key_any (w : World) (v : Value) (l : List Int) (h : SlI w v l) (hn : l.length ≤ 1000000000) : Calls Tryz.prog 93 #[v] w (KeyIs l w) := by
  obtain ⟨a, c, rfl, _, _, h4⟩ := h.open
  by_cases hl : 1 ≤ l.length ∧ l.length ≤ 3
  · obtain ⟨b, o, rfl, hb, hc⟩ := h4 (by omega)
    exact key_in w c l b o hb hl.1 hl.2 hc
  · exact key_out w a c l l.length rfl (by omega) hn
end Go.Proofs.YtccdkchmeelkfaaGreatDoor

/- (W5) parts -/
namespace Go.Proofs.YtccdkchmeelkfaaGreatDoor
open Go.RowKit

theorem infoInt : (Tryz.prog.info? 3).map (fun i => (i.zero, i.size, i.bytes)) = some (some (.int .i64 0), 1, 8) := by kernel_rfl
theorem infoElem : (Tryz.prog.info? 47).map (fun i => (i.zero, i.size, i.bytes)) = some (some (.int .u32 0), 1, 4) := by kernel_rfl
theorem cell_one_at (w : World) (v : Value) (T n : Nat) (hn : n = w.heap.size) : ∀ j u, [v][j]? = some u → (w.alloc (.cells #[v] T)).cell? ((⟨n, 0, none⟩ : Addr).add j) = some u := by
  subst hn; exact cell_one_new w v T
theorem one_cell {q : IntKind} {x : Int} : ∀ u ∈ [Value.int q x], u.oneCell' = true := by intro u hu; simp at hu; subst hu; rfl

set_option maxRecDepth 100000 in
set_option maxHeartbeats 2000000 in
/-- seq.signs: the signs of a key, in memory of the call's own. -/
theorem signs_any (w : World) (l : List Int) (h : okKey l) :
    Calls Tryz.prog 45 #[encK (k3 l)] w fun e w' => ∃ v, e = .returned v ∧ w'.ownsRow w.heap.size 3 1 v l.length (l.map (Value.int .i64)) ∧ Below w.heap.size w w' := by
  obtain ⟨i0, hi, hz0, hz1, hz2⟩ := info_parts infoInt
  have bd : ∀ c ∈ l, 0 ≤ c ∧ c ≤ 1114367 := fun c hc => isSign_bd (h.2.2 c hc)
  obtain ⟨h1, h3, _⟩ := h
  have ix0 : ∀ k w, (Instr.index 93 (encK k) (.int .i64 0)).run Tryz.prog w = .ok (.int .i64 k.1) w := fun _ _ => by kernel_rfl
  have ix1 : ∀ k w, (Instr.index 93 (encK k) (.int .i64 1)).run Tryz.prog w = .ok (.int .i64 k.2.1) w := fun _ _ => by kernel_rfl
  have ix2 : ∀ k w, (Instr.index 93 (encK k) (.int .i64 2)).run Tryz.prog w = .ok (.int .i64 k.2.2) w := fun _ _ => by kernel_rfl
  match l, h1, h3 with
  | [x], _, _ =>
    have hb_x := bd x (by simp)
    have hc_x : x ≤ 2000000 := by omega
    have hd_x : 0 ≤ x := hb_x.1
    have hp_x : decide (0 < x + 1) = true := by simp; omega
    have j0 := ix0 (x + 1, 0, 0)
    have j1 := ix1 (x + 1, 0, 0)
    have j2 := ix2 (x + 1, 0, 0)
    clear ix0 ix1 ix2 bd hb_x
    simp only [encK] at j0 j1 j2
    show Calls Tryz.prog _ #[encK (x + 1, 0, 0)] w _
    unfold encK
    have hown0 := World.ownsRow_nil w w.heap.size 3 1
    go_enter Tryz.func45, Tryz.ntmps45
    go_wp2_with fail
    refine wp_loop_rounds 4 ?_
    go_wp2_with (first | with_reducible refine rounds_step ?_ | (at_builtin; refine wpList_append_own _ rfl _ _ 22 rfl w.heap.size 3 i0 (.int .i64 0) 1 8 Tryz.underlying22 hi hz0 hz1 hz2 rfl (by decide) _ _ _ rfl ((hown0.alloc _).alloc _) _ 1 1 [.int .i64 x] rfl rfl ?_ one_cell (by decide) (by decide) ?_ ?_))
    · exact cell_one_at _ _ _ _ (by simp)
    · simp only [World.size_alloc]; omega
    intro v1 w1 hown1 hg1 _
    have hb1 : Below w.heap.size w w1 := (below2 w _ _).grown hg1 (by simp; omega) (fun k hk => by simp [Value.ownBlock] at hk)
    clear hg1 hown0
    replace hown1 : w1.ownsRow w.heap.size 3 1 v1 1 [.int .i64 x] := hown1
    go_wp2_with (with_reducible refine rounds_step ?_)
    go_ret
    exact ⟨v1, rfl, hown1, hb1⟩
  | [x, y], _, _ =>
    have hb_x := bd x (by simp)
    have hc_x : x ≤ 2000000 := by omega
    have hd_x : 0 ≤ x := hb_x.1
    have hp_x : decide (0 < x + 1) = true := by simp; omega
    have hb_y := bd y (by simp)
    have hc_y : y ≤ 2000000 := by omega
    have hd_y : 0 ≤ y := hb_y.1
    have hp_y : decide (0 < y + 1) = true := by simp; omega
    have j0 := ix0 (x + 1, y + 1, 0)
    have j1 := ix1 (x + 1, y + 1, 0)
    have j2 := ix2 (x + 1, y + 1, 0)
    clear ix0 ix1 ix2 bd hb_x hb_y
    simp only [encK] at j0 j1 j2
    show Calls Tryz.prog _ #[encK (x + 1, y + 1, 0)] w _
    unfold encK
    have hown0 := World.ownsRow_nil w w.heap.size 3 1
    go_enter Tryz.func45, Tryz.ntmps45
    go_wp2_with fail
    refine wp_loop_rounds 4 ?_
    go_wp2_with (first | with_reducible refine rounds_step ?_ | (at_builtin; refine wpList_append_own _ rfl _ _ 22 rfl w.heap.size 3 i0 (.int .i64 0) 1 8 Tryz.underlying22 hi hz0 hz1 hz2 rfl (by decide) _ _ _ rfl ((hown0.alloc _).alloc _) _ 1 1 [.int .i64 x] rfl rfl ?_ one_cell (by decide) (by decide) ?_ ?_))
    · exact cell_one_at _ _ _ _ (by simp)
    · simp only [World.size_alloc]; omega
    intro v1 w1 hown1 hg1 _
    have hb1 : Below w.heap.size w w1 := (below2 w _ _).grown hg1 (by simp; omega) (fun k hk => by simp [Value.ownBlock] at hk)
    clear hg1 hown0
    replace hown1 : w1.ownsRow w.heap.size 3 1 v1 1 [.int .i64 x] := hown1
    go_wp2_with (first | with_reducible refine rounds_step ?_ | (at_builtin; refine wpList_append_own _ rfl _ _ 22 rfl w.heap.size 3 i0 (.int .i64 0) 1 8 Tryz.underlying22 hi hz0 hz1 hz2 rfl (by decide) _ _ _ rfl (hown1.alloc _) _ 1 1 [.int .i64 y] rfl rfl ?_ one_cell (by decide) (by decide) ?_ ?_))
    · exact cell_one_at _ _ _ _ (by simp)
    · have := hb1.size; simp at this ⊢; omega
    intro v2 w2 hown2 hg2 _
    have hb2 : Below w.heap.size w w2 := (hb1.alloc hb1.size _).grown hg2 (by have := hb1.size; simp; omega) (fun k hk => ((hown1.alloc (.cells #[.int .i64 y] 3)).lt k hk).1)
    clear hg2 hb1 hown1
    replace hown2 : w2.ownsRow w.heap.size 3 1 v2 2 [.int .i64 x, .int .i64 y] := hown2
    go_wp2_with (with_reducible refine rounds_step ?_)
    go_ret
    exact ⟨v2, rfl, hown2, hb2⟩
  | [x, y, z], _, _ =>
    have hb_x := bd x (by simp)
    have hc_x : x ≤ 2000000 := by omega
    have hd_x : 0 ≤ x := hb_x.1
    have hp_x : decide (0 < x + 1) = true := by simp; omega
    have hb_y := bd y (by simp)
    have hc_y : y ≤ 2000000 := by omega
    have hd_y : 0 ≤ y := hb_y.1
    have hp_y : decide (0 < y + 1) = true := by simp; omega
    have hb_z := bd z (by simp)
    have hc_z : z ≤ 2000000 := by omega
    have hd_z : 0 ≤ z := hb_z.1
    have hp_z : decide (0 < z + 1) = true := by simp; omega
    have j0 := ix0 (x + 1, y + 1, z + 1)
    have j1 := ix1 (x + 1, y + 1, z + 1)
    have j2 := ix2 (x + 1, y + 1, z + 1)
    clear ix0 ix1 ix2 bd hb_x hb_y hb_z
    simp only [encK] at j0 j1 j2
    show Calls Tryz.prog _ #[encK (x + 1, y + 1, z + 1)] w _
    unfold encK
    have hown0 := World.ownsRow_nil w w.heap.size 3 1
    go_enter Tryz.func45, Tryz.ntmps45
    go_wp2_with fail
    refine wp_loop_rounds 4 ?_
    go_wp2_with (first | with_reducible refine rounds_step ?_ | (at_builtin; refine wpList_append_own _ rfl _ _ 22 rfl w.heap.size 3 i0 (.int .i64 0) 1 8 Tryz.underlying22 hi hz0 hz1 hz2 rfl (by decide) _ _ _ rfl ((hown0.alloc _).alloc _) _ 1 1 [.int .i64 x] rfl rfl ?_ one_cell (by decide) (by decide) ?_ ?_))
    · exact cell_one_at _ _ _ _ (by simp)
    · simp only [World.size_alloc]; omega
    intro v1 w1 hown1 hg1 _
    have hb1 : Below w.heap.size w w1 := (below2 w _ _).grown hg1 (by simp; omega) (fun k hk => by simp [Value.ownBlock] at hk)
    clear hg1 hown0
    replace hown1 : w1.ownsRow w.heap.size 3 1 v1 1 [.int .i64 x] := hown1
    go_wp2_with (first | with_reducible refine rounds_step ?_ | (at_builtin; refine wpList_append_own _ rfl _ _ 22 rfl w.heap.size 3 i0 (.int .i64 0) 1 8 Tryz.underlying22 hi hz0 hz1 hz2 rfl (by decide) _ _ _ rfl (hown1.alloc _) _ 1 1 [.int .i64 y] rfl rfl ?_ one_cell (by decide) (by decide) ?_ ?_))
    · exact cell_one_at _ _ _ _ (by simp)
    · have := hb1.size; simp at this ⊢; omega
    intro v2 w2 hown2 hg2 _
    have hb2 : Below w.heap.size w w2 := (hb1.alloc hb1.size _).grown hg2 (by have := hb1.size; simp; omega) (fun k hk => ((hown1.alloc (.cells #[.int .i64 y] 3)).lt k hk).1)
    clear hg2 hb1 hown1
    replace hown2 : w2.ownsRow w.heap.size 3 1 v2 2 [.int .i64 x, .int .i64 y] := hown2
    go_wp2_with (first | with_reducible refine rounds_step ?_ | (at_builtin; refine wpList_append_own _ rfl _ _ 22 rfl w.heap.size 3 i0 (.int .i64 0) 1 8 Tryz.underlying22 hi hz0 hz1 hz2 rfl (by decide) _ _ _ rfl (hown2.alloc _) _ 1 1 [.int .i64 z] rfl rfl ?_ one_cell (by decide) (by decide) ?_ ?_))
    · exact cell_one_at _ _ _ _ (by simp)
    · have := hb2.size; simp at this ⊢; omega
    intro v3 w3 hown3 hg3 _
    have hb3 : Below w.heap.size w w3 := (hb2.alloc hb2.size _).grown hg3 (by have := hb2.size; simp; omega) (fun k hk => ((hown2.alloc (.cells #[.int .i64 z] 3)).lt k hk).1)
    clear hg3 hb2 hown2
    replace hown3 : w3.ownsRow w.heap.size 3 1 v3 3 [.int .i64 x, .int .i64 y, .int .i64 z] := hown3
    go_wp2_with (with_reducible refine rounds_step ?_)
    go_ret
    exact ⟨v3, rfl, hown3, hb3⟩
end Go.Proofs.YtccdkchmeelkfaaGreatDoor

/- (W6) parts -/
namespace Go.Proofs.YtccdkchmeelkfaaGreatDoor
open Go.RowKit

theorem new_cells (w : World) (xs : List Value) (T : Nat) (b : Nat) (hb : b = w.heap.size) : ∀ j x, xs[j]? = some x → (w.alloc (.cells xs.toArray T)).cell? ⟨b, 0 + j, none⟩ = some x := by
  intro j x hj
  subst hb
  rw [World.cell?_alloc_at _ _ _ _ rfl]
  simpa using hj

theorem Sl.new (w : World) (xs : List Value) (T c : Nat) (hc : xs.length ≤ c) : Sl (w.alloc (.cells xs.toArray T)) 1 (.slice (some ⟨w.heap.size, 0, none⟩) xs.length c) xs.length xs :=
  ⟨by simp, _, c, rfl, hc, (fun h => by cases h), fun _ => ⟨w.heap.size, 0, rfl, by simp, new_cells w xs T _ rfl⟩⟩

theorem implW_sign {c : Int} (h : isSign c = true) : implW c = [mkw (64256 + c.toNat / 32768) 32 2 false, mkw (32768 + c.toNat % 32768) 32 2 false] := by simp [implW, h]
theorem implW_none {c : Int} (h : isSign c = false) : implW c = [] := by simp [implW, h]

theorem low15 (c : Nat) (h : c < 2000000) : bits .and .i64 (c : Int) 32767 = (c : Int) % 32768 := by
  have := bits_mask .i64 62 (by decide) (fun n h0 h1 => by rw [IntKind.wrap_i64]; omega) 15 (by decide) (c : Int) (by omega) (by omega)
  simpa using this
theorem low15or (x : Nat) (h : x < 32768) : bits .or .i64 32768 (x : Int) = ((32768 + x : Nat) : Int) := by
  have := bits_join .i64 62 (by decide) (fun n h0 h1 => by rw [IntKind.wrap_i64]; omega) 15 32768 x (by omega) (by decide) (by decide) (by omega) (by omega) (by omega)
  rw [this]; omega

theorem of_pri (w : World) (p : Int) (n : Nat) (hn : (n : Int) = p) (hs : n < 65536) :
    Calls Tryz.prog 51 #[.int .i64 p, .int .i64 32, .int .i64 2, .bool false] w fun en w' => en = .returned (.int .u32 (mkw n 32 2 false : Nat)) ∧ w = w' := by
  subst hn
  exact of_any w n 32 2 false hs (by omega) (by omega)

set_option maxRecDepth 100000 in
set_option maxHeartbeats 1000000 in
theorem implicit_any (w : World) (c : Int) : Calls Tryz.prog 166 #[.int .i64 c] w fun e w' => ∃ v, e = .returned v ∧ SlE w' v (implW c) ∧ Below w.heap.size w w' := by
  cases hs : isSign c
  · have cs := fun w => sign_no w c hs
    rw [implW_none hs]
    clear hs
    go_enter Tryz.func166, Tryz.ntmps166
    go_wp2_with (go_at_call 132; refine (cs _).mono ?_; rintro _ _ ⟨rfl, rfl⟩)
    go_ret
    exact ⟨_, rfl, SlE.nil _, Below.refl _ _⟩
  · have cs := fun w => sign_yes w c hs
    have hb := isSign_bd hs
    rw [implW_sign hs]
    clear hs
    obtain ⟨n, rfl⟩ := Int.eq_ofNat_of_zero_le hb.1
    have hn : n ≤ 1114367 := by omega
    clear hb
    simp only [Int.toNat_natCast]
    have o1 := fun w => of_pri w (64256 + (n : Int) / 32768) (64256 + n / 32768) (by omega) (by omega)
    have o2 := fun w => of_pri w (32768 + (n : Int) % 32768) (32768 + n % 32768) (by omega) (by omega)
    have q1 := low15 n (by omega)
    have q2 : bits .or .i64 32768 ((n : Int) % 32768) = 32768 + (n : Int) % 32768 := by have := low15or (n % 32768) (by omega); rw [show ((n % 32768 : Nat) : Int) = (n : Int) % 32768 by omega] at this; rw [this]; omega
    have l1 : mkw (64256 + n / 32768) 32 2 false < 4294967296 := mkw_lt _ (by omega) (by omega) (by omega)
    have l2 : mkw (32768 + n % 32768) 32 2 false < 4294967296 := mkw_lt _ (by omega) (by omega) (by omega)
    generalize mkw (64256 + n / 32768) 32 2 false = m1 at *
    generalize mkw (32768 + n % 32768) 32 2 false = m2 at *
    have L1 := Lib.hid l1
    have L2 := Lib.hid l2
    clear l1 l2
    go_enter Tryz.func166, Tryz.ntmps166
    go_wp2_with (go_at_call 132; refine (cs _).mono ?_; rintro _ _ ⟨rfl, rfl⟩)
    refine (o1 _).mono ?_
    rintro _ _ ⟨rfl, rfl⟩
    go_wp2_with fail
    refine (o2 _).mono ?_
    rintro _ _ ⟨rfl, rfl⟩
    go_wp2_with fail
    go_ret
    refine ⟨_, rfl, ⟨Sl.new w [.int .u32 m1, .int .u32 m2] _ 2 (by simp), ?_⟩, (Below.refl _ _).alloc (Nat.le_refl _) _⟩
    intro e he
    simp at he
    rcases he with rfl | rfl
    · exact L1.out
    · exact L2.out

/-- slices.Clip of elements: the same, of that capacity. -/
theorem clipE_any (w : World) (a : Option Addr) (n c : Nat) (hn : n ≤ c) (h1 : n ≤ 1000000000) : Calls Tryz.prog 56 #[.slice a n c] w fun e w' => e = .returned (.slice a n n) ∧ w = w' := by
  by_cases h0 : n = 0
  · subst h0
    go_enter Tryz.func56, Tryz.ntmps56
    go_wp2
    go_ret
    exact ⟨rfl, rfl⟩
  · go_enter Tryz.func56, Tryz.ntmps56
    go_wp2
    go_ret
    exact ⟨rfl, rfl⟩
end Go.Proofs.YtccdkchmeelkfaaGreatDoor
