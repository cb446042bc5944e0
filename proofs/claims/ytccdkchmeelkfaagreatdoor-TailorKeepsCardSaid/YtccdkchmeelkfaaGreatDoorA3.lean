/- The elements' functions. -/
import Derived.Test.YtccdkchmeelkfaaGreatDoorProg
import Derived.Test.YtccdkchmeelkfaaGreatDoorA1

/- (W1) parts -/
namespace Go.Proofs.YtccdkchmeelkfaaGreatDoor
open Go.RowKit

theorem field_1 (w : World) : Calls Tryz.prog 64 #[.int .i64 1] w fun e w' => e = .returned (.tuple #[.int .i64 16, .int .i64 16]) ∧ w = w' := by
  go_enter Tryz.func64, Tryz.ntmps64
  go_wp2
  go_ret2
  exact ⟨rfl, rfl⟩
theorem field_2 (w : World) : Calls Tryz.prog 64 #[.int .i64 2] w fun e w' => e = .returned (.tuple #[.int .i64 8, .int .i64 8]) ∧ w = w' := by
  go_enter Tryz.func64, Tryz.ntmps64
  go_wp2
  go_ret2
  exact ⟨rfl, rfl⟩
theorem field_3 (w : World) : Calls Tryz.prog 64 #[.int .i64 3] w fun e w' => e = .returned (.tuple #[.int .i64 1, .int .i64 7]) ∧ w = w' := by
  go_enter Tryz.func64, Tryz.ntmps64
  go_wp2
  go_ret2
  exact ⟨rfl, rfl⟩

set_option maxHeartbeats 400000 in
theorem weight_any (w : World) (e : Nat) (h : e < 4294967296) (l : Int) :
    Calls Tryz.prog 26 #[.int .u32 e, .int .i64 l] w fun en w' => en = .returned (.int .i64 (wt l e : Nat)) ∧ w = w' := by
  by_cases h1 : l = 1
  · subst h1
    go_enter Tryz.func26, Tryz.ntmps26
    go_wp2
    go_ret
    exact ⟨ret_int (get_1 e h), rfl⟩
  by_cases h2 : l = 2
  · subst h2
    go_enter Tryz.func26, Tryz.ntmps26
    go_wp2
    go_ret
    exact ⟨ret_int (get_2 e h), rfl⟩
  by_cases h3 : l = 3
  · subst h3
    go_enter Tryz.func26, Tryz.ntmps26
    go_wp2
    go_ret
    exact ⟨ret_int (get_3 e h), rfl⟩
  have hz := get_0 e h
  go_enter Tryz.func26, Tryz.ntmps26
  go_wp2
  go_ret
  exact ⟨ret_int (by simp [wt, h1, h2, h3]), rfl⟩

set_option maxHeartbeats 400000 in
theorem with_any (w : World) (e : Nat) (h : e < 4294967296) (l : Int) (hl : l = 1 ∨ l = 2 ∨ l = 3) (x : Nat) (hx : x < 65536) :
    Calls Tryz.prog 133 #[.int .u32 e, .int .i64 l, .int .i64 x] w fun en w' => en = .returned (.int .u32 (setw l e x : Nat)) ∧ w = w' := by
  rcases hl with h1 | h1 | h1
  · subst h1
    go_enter Tryz.func133, Tryz.ntmps133
    go_wp2
    go_ret
    exact ⟨ret_int (set_1 e x h hx), rfl⟩
  · subst h1
    go_enter Tryz.func133, Tryz.ntmps133
    go_wp2
    go_ret
    exact ⟨ret_int (set_2 e x h hx), rfl⟩
  · subst h1
    go_enter Tryz.func133, Tryz.ntmps133
    go_wp2
    go_ret
    exact ⟨ret_int (set_3 e x h hx), rfl⟩

set_option maxHeartbeats 400000 in
theorem variable_any (w : World) (e : Nat) (h : e < 4294967296) :
    Calls Tryz.prog 95 #[.int .u32 e] w fun en w' => en = .returned (.bool (isVar e)) ∧ w = w' := by
  go_enter Tryz.func95, Tryz.ntmps95
  go_wp2
  go_ret
  refine ⟨ret_bool ?_, rfl⟩
  rw [and1 e h]; unfold isVar
  rcases Nat.mod_two_eq_zero_or_one e with h | h <;> rw [h] <;> rfl

set_option maxHeartbeats 400000 in
theorem ok_any (w : World) (e : Nat) (h : e < 4294967296) :
    Calls Tryz.prog 49 #[.int .u32 e] w fun en w' => en = .returned (.bool (okw e)) ∧ w = w' := by
  unfold okw
  have c1 := weight_any w e h 1
  have c2 := weight_any w e h 2
  have c3 := weight_any w e h 3
  have cv := variable_any w e h
  generalize wt 1 e = p at *
  generalize wt 2 e = s at *
  generalize wt 3 e = t at *
  generalize isVar e = v at *
  by_cases hp : 0 < p <;> by_cases hs : 0 < s <;> by_cases ht : 0 < t <;> cases v <;>
  · go_enter Tryz.func49, Tryz.ntmps49
    go_wp2_with fail
    refine c1.mono ?_
    rintro _ _ ⟨rfl, rfl⟩
    go_wp2_with fail
    refine c2.mono ?_
    rintro _ _ ⟨rfl, rfl⟩
    go_wp2_with fail
    refine c3.mono ?_
    rintro _ _ ⟨rfl, rfl⟩
    go_wp2_with (refine cv.mono ?_; rintro _ _ ⟨rfl, rfl⟩)
    go_ret
    exact ⟨ret_bool (by simp [hp, hs, ht]), rfl⟩
end Go.Proofs.YtccdkchmeelkfaaGreatDoor

/- (W2) parts -/
namespace Go.Proofs.YtccdkchmeelkfaaGreatDoor
open Go.RowKit

set_option maxRecDepth 100000 in
set_option maxHeartbeats 800000 in
theorem make_any (w : World) (p s t : Nat) (v : Bool) (hp : p < 65536) (hs : s < 256) (ht : t < 128) :
    Calls Tryz.prog 96 #[.int .i64 p, .int .i64 s, .int .i64 t, .bool v] w fun en w' => en = .returned (.tuple #[.int .u32 (mkw p s t v : Nat), .int .i64 0]) ∧ w = w' := by
  have i0 : ∀ w, (Instr.index 92 (.agg #[.int .i64 p, .int .i64 s, .int .i64 t]) (.int .i64 0)).run Tryz.prog w = .ok (.int .i64 p) w := fun _ => by kernel_rfl
  have i1 : ∀ w, (Instr.index 92 (.agg #[.int .i64 p, .int .i64 s, .int .i64 t]) (.int .i64 1)).run Tryz.prog w = .ok (.int .i64 s) w := fun _ => by kernel_rfl
  have i2 : ∀ w, (Instr.index 92 (.agg #[.int .i64 p, .int .i64 s, .int .i64 t]) (.int .i64 2)).run Tryz.prog w = .ok (.int .i64 t) w := fun _ => by kernel_rfl
  have l0 := setw_lt 1 (e := 0) p (by omega)
  have l1 := setw_lt 2 (e := setw 1 0 p) s l0
  have c0 : Calls Tryz.prog 133 #[.int .u32 0, .int .i64 1, .int .i64 p] w fun en w' => en = .returned (.int .u32 (setw 1 0 p : Nat)) ∧ w = w' := with_any w 0 (by omega) 1 (by omega) p hp
  have c1 := with_any w (setw 1 0 p) l0 2 (by omega) s (by omega)
  have c2 := with_any w (setw 2 (setw 1 0 p) s) l1 3 (by omega) t (by omega)
  have hm := mkw_set hp hs ht
  have hor := or1 (mkw p s t false) (mkw_lt false hp hs ht) (by unfold mkw; simp; omega)
  generalize setw 1 0 p = e1 at *
  generalize setw 2 e1 s = e2 at *
  generalize setw 3 e2 t = e3 at *
  subst hm
  have hv : mkw p s t v = mkw p s t false + (if v then 1 else 0) := by unfold mkw; simp
  have HV := Lib.hid hv
  have HP : (p : Int) ≤ 65535 := by omega
  have HS : (s : Int) ≤ 255 := by omega
  have HT : (t : Int) ≤ 127 := by omega
  clear hv hp hs ht l0 l1
  generalize mkw p s t false = e3 at *
  generalize mkw p s t v = e4 at *
  cases v <;>
  · go_enter Tryz.func96, Tryz.ntmps96
    go_wp2_with fail
    refine wp_loop_rounds 4 ?_
    go_wp2_with (with_reducible refine rounds_step ?_)
    refine (field_1 _).mono ?_
    rintro _ _ ⟨rfl, rfl⟩
    go_wp2_with fail
    refine c0.mono ?_
    rintro _ _ ⟨rfl, rfl⟩
    go_wp2_with (with_reducible refine rounds_step ?_)
    refine (field_2 _).mono ?_
    rintro _ _ ⟨rfl, rfl⟩
    go_wp2_with fail
    refine c1.mono ?_
    rintro _ _ ⟨rfl, rfl⟩
    go_wp2_with (with_reducible refine rounds_step ?_)
    refine (field_3 _).mono ?_
    rintro _ _ ⟨rfl, rfl⟩
    go_wp2_with fail
    refine c2.mono ?_
    rintro _ _ ⟨rfl, rfl⟩
    go_wp2_with (with_reducible refine rounds_step ?_)
    go_ret2
    exact ⟨by rw [HV.out]; rfl, rfl⟩

set_option maxHeartbeats 400000 in
theorem of_any (w : World) (p s t : Nat) (v : Bool) (hp : p < 65536) (hs : s < 256) (ht : t < 128) :
    Calls Tryz.prog 51 #[.int .i64 p, .int .i64 s, .int .i64 t, .bool v] w fun en w' => en = .returned (.int .u32 (mkw p s t v : Nat)) ∧ w = w' := by
  have c := make_any w p s t v hp hs ht
  clear hp hs ht
  go_enter Tryz.func51, Tryz.ntmps51
  go_wp2_with (refine c.mono ?_; rintro _ _ ⟨rfl, rfl⟩)
  go_ret
  exact ⟨rfl, rfl⟩

set_option maxHeartbeats 400000 in
theorem letter_any (w : World) (c : Int) (t : Nat) (h1 : 97 ≤ c) (h2 : c ≤ 122) (ht : t < 128) :
    Calls Tryz.prog 52 #[.int .i32 c, .int .i64 t] w fun en w' => en = .returned (.int .u32 (letterW c t : Nat)) ∧ w = w' := by
  have k : Calls Tryz.prog 51 #[.int .i64 (256 + 8 * (c - 97)), .int .i64 32, .int .i64 t, .bool false] w fun en w' => en = .returned (.int .u32 (letterW c t : Nat)) ∧ w = w' := by
    have := of_any w (256 + 8 * (c - 97).toNat) 32 t false (by omega) (by omega) ht
    rw [show ((256 + 8 * (c - 97).toNat : Nat) : Int) = 256 + 8 * (c - 97) by omega] at this
    exact this
  generalize letterW c t = r at *
  go_enter Tryz.func52, Tryz.ntmps52
  go_wp2_with fail
  refine k.mono ?_
  rintro _ _ ⟨rfl, rfl⟩
  go_wp2_with fail
  go_ret
  exact ⟨rfl, rfl⟩

theorem of_mark (w : World) (s : Int) (n : Nat) (hn : (n : Int) = s) (hs : n < 256) :
    Calls Tryz.prog 51 #[.int .i64 0, .int .i64 s, .int .i64 2, .bool false] w fun en w' => en = .returned (.int .u32 (mkw 0 n 2 false : Nat)) ∧ w = w' := by
  subst hn
  exact of_any w 0 n 2 false (by omega) hs (by omega)

set_option maxHeartbeats 800000 in
theorem mark_any (w : World) (c : Int) :
    Calls Tryz.prog 53 #[.int .i64 c] w fun en w' => en = .returned (.int .u32 (mkw 0 (markW c) 2 false : Nat)) ∧ w = w' := by
  by_cases h0 : c = 776
  · subst h0
    have k := of_mark w 43 43 rfl (by omega)
    go_enter Tryz.func53, Tryz.ntmps53
    go_wp2_with (go_at_call 51; refine k.mono ?_; rintro _ _ ⟨rfl, rfl⟩)
    go_ret
    exact ⟨rfl, rfl⟩
  by_cases h1 : c = 778
  · subst h1
    have k := of_mark w 41 41 rfl (by omega)
    go_enter Tryz.func53, Tryz.ntmps53
    go_wp2_with (go_at_call 51; refine k.mono ?_; rintro _ _ ⟨rfl, rfl⟩)
    go_ret
    exact ⟨rfl, rfl⟩
  by_cases h2 : c = 768
  · subst h2
    have k := of_mark w 37 37 rfl (by omega)
    have i0 : ∀ w, (Instr.index 161 (.agg #[.int .i64 37, .int .i64 36, .int .i64 39, .int .i64 45, .int .i64 47]) (.int .i64 0)).run Tryz.prog w = .ok (.int .i64 37) w := fun _ => by kernel_rfl
    go_enter Tryz.func53, Tryz.ntmps53
    go_wp2_with (go_at_call 51; refine k.mono ?_; rintro _ _ ⟨rfl, rfl⟩)
    go_ret
    exact ⟨rfl, rfl⟩
  by_cases h3 : c = 769
  · subst h3
    have k := of_mark w 36 36 rfl (by omega)
    have i0 : ∀ w, (Instr.index 161 (.agg #[.int .i64 37, .int .i64 36, .int .i64 39, .int .i64 45, .int .i64 47]) (.int .i64 1)).run Tryz.prog w = .ok (.int .i64 36) w := fun _ => by kernel_rfl
    go_enter Tryz.func53, Tryz.ntmps53
    go_wp2_with (go_at_call 51; refine k.mono ?_; rintro _ _ ⟨rfl, rfl⟩)
    go_ret
    exact ⟨rfl, rfl⟩
  by_cases h4 : c = 770
  · subst h4
    have k := of_mark w 39 39 rfl (by omega)
    have i0 : ∀ w, (Instr.index 161 (.agg #[.int .i64 37, .int .i64 36, .int .i64 39, .int .i64 45, .int .i64 47]) (.int .i64 2)).run Tryz.prog w = .ok (.int .i64 39) w := fun _ => by kernel_rfl
    go_enter Tryz.func53, Tryz.ntmps53
    go_wp2_with (go_at_call 51; refine k.mono ?_; rintro _ _ ⟨rfl, rfl⟩)
    go_ret
    exact ⟨rfl, rfl⟩
  by_cases h5 : c = 771
  · subst h5
    have k := of_mark w 45 45 rfl (by omega)
    have i0 : ∀ w, (Instr.index 161 (.agg #[.int .i64 37, .int .i64 36, .int .i64 39, .int .i64 45, .int .i64 47]) (.int .i64 3)).run Tryz.prog w = .ok (.int .i64 45) w := fun _ => by kernel_rfl
    go_enter Tryz.func53, Tryz.ntmps53
    go_wp2_with (go_at_call 51; refine k.mono ?_; rintro _ _ ⟨rfl, rfl⟩)
    go_ret
    exact ⟨rfl, rfl⟩
  by_cases h6 : c = 772
  · subst h6
    have k := of_mark w 47 47 rfl (by omega)
    have i0 : ∀ w, (Instr.index 161 (.agg #[.int .i64 37, .int .i64 36, .int .i64 39, .int .i64 45, .int .i64 47]) (.int .i64 4)).run Tryz.prog w = .ok (.int .i64 47) w := fun _ => by kernel_rfl
    go_enter Tryz.func53, Tryz.ntmps53
    go_wp2_with (go_at_call 51; refine k.mono ?_; rintro _ _ ⟨rfl, rfl⟩)
    go_ret
    exact ⟨rfl, rfl⟩
  have k := of_mark w 48 48 rfl (by omega)
  have hm : markW c = 48 := by simp [markW, *]
  rw [hm]
  clear hm
  go_enter Tryz.func53, Tryz.ntmps53
  go_wp2_with (go_at_call 51; refine k.mono ?_; rintro _ _ ⟨rfl, rfl⟩)
  go_ret
  exact ⟨rfl, rfl⟩
end Go.Proofs.YtccdkchmeelkfaaGreatDoor

/- (W3) parts -/
namespace Go.Proofs.YtccdkchmeelkfaaGreatDoor
open Go.RowKit

set_option maxHeartbeats 800000 in
theorem sign_any (w : World) (c : Int) :
    Calls Tryz.prog 132 #[.int .i64 c] w fun en w' => en = .returned (.bool (isSign c)) ∧ w = w' := by
  by_cases h1 : 0 ≤ c <;> by_cases h2 : c < 55296 <;> by_cases h3 : 57344 ≤ c <;> by_cases h4 : c < 1114112 <;> by_cases h5 : 1114240 ≤ c <;> by_cases h6 : c ≤ 1114367 <;> (first | (exfalso; omega) | skip) <;>
  · go_enter Tryz.func132, Tryz.ntmps132
    go_wp2
    go_ret
    exact ⟨ret_bool (by simp [isSign, h1, h2, h3, h4, h5, h6]), rfl⟩

theorem most_any (w : World) (l : Int) (h : l = 1 ∨ l = 2 ∨ l = 3) :
    Calls Tryz.prog 139 #[.int .i64 l] w fun en w' => en = .returned (.int .i64 (mostW l)) ∧ w = w' := by
  have i1 : ∀ w, (Instr.index 235 (.agg #[.int .i64 0, .int .i64 64255, .int .i64 255, .int .i64 127]) (.int .i64 1)).run Tryz.prog w = .ok (.int .i64 64255) w := fun _ => by kernel_rfl
  have i2 : ∀ w, (Instr.index 235 (.agg #[.int .i64 0, .int .i64 64255, .int .i64 255, .int .i64 127]) (.int .i64 2)).run Tryz.prog w = .ok (.int .i64 255) w := fun _ => by kernel_rfl
  have i3 : ∀ w, (Instr.index 235 (.agg #[.int .i64 0, .int .i64 64255, .int .i64 255, .int .i64 127]) (.int .i64 3)).run Tryz.prog w = .ok (.int .i64 127) w := fun _ => by kernel_rfl
  rcases h with rfl | rfl | rfl
  · go_enter Tryz.func139, Tryz.ntmps139
    go_wp2
    go_ret
    exact ⟨rfl, rfl⟩
  · go_enter Tryz.func139, Tryz.ntmps139
    go_wp2
    go_ret
    exact ⟨rfl, rfl⟩
  · go_enter Tryz.func139, Tryz.ntmps139
    go_wp2
    go_ret
    exact ⟨rfl, rfl⟩

set_option maxHeartbeats 800000 in
theorem special_any (w : World) (c : Int) :
    Calls Tryz.prog 164 #[.int .i64 c] w fun en w' => en = .returned (.bool (specialS c)) ∧ w = w' := by
  by_cases h : c = 32 ∨ c = 10 ∨ c = 38 ∨ c = 60 ∨ c = 61 ∨ c = 47 ∨ c = 92
  · rcases h with rfl | rfl | rfl | rfl | rfl | rfl | rfl <;>
    · go_enter Tryz.func164, Tryz.ntmps164
      go_wp2
      go_ret
      exact ⟨rfl, rfl⟩
  · have e : specialS c = false := by unfold specialS; simp; omega
    rw [e]
    clear e
    go_enter Tryz.func164, Tryz.ntmps164
    go_wp2
    all_goals first | (exfalso; simp_all; done) | (go_ret; exact ⟨rfl, rfl⟩)

set_option maxHeartbeats 800000 in
theorem cmpI_any (w : World) (a b : Int) :
    Calls Tryz.prog 61 #[.int .i64 a, .int .i64 b] w fun en w' => en = .returned (.int .i64 (if a < b then -1 else if b < a then 1 else 0)) ∧ w = w' := by
  by_cases h1 : a < b
  · rw [if_pos h1]
    have h2 : ¬ b < a := by omega
    go_enter Tryz.func61, Tryz.ntmps61
    go_wp2
    go_ret
    exact ⟨rfl, rfl⟩
  rw [if_neg h1]
  by_cases h2 : b < a
  · rw [if_pos h2]
    go_enter Tryz.func61, Tryz.ntmps61
    go_wp2
    go_ret
    exact ⟨rfl, rfl⟩
  rw [if_neg h2]
  go_enter Tryz.func61, Tryz.ntmps61
  go_wp2
  go_ret
  exact ⟨rfl, rfl⟩

set_option maxHeartbeats 800000 in
theorem valid_any (w : World) (c v : Int) (h1 : 0 ≤ c) (h2 : c ≤ 1114367) (h3 : -2147483648 ≤ v) (h4 : v ≤ 2147483647) :
    Calls Tryz.prog 136 #[.agg #[.int .i64 c, .int .i64 v]] w fun en w' => en = .returned (.bool true) ∧ Below w.heap.size w w' := by
  go_enter Tryz.func136, Tryz.ntmps136
  go_wp2
  go_ret
  exact ⟨rfl, (Below.refl _ _).alloc (Nat.le_refl _) _⟩
end Go.Proofs.YtccdkchmeelkfaaGreatDoor
