/- Entry and Check. -/
import Derived.Test.YtccdkchmeelkfaaGreatDoorA6
import Derived.Shelf.Abstract
import Derived.Lib.Walk
import Derived.Test.YtccdkchmeelkfaaGreatDoorA1
import Derived.Deep.LoopGhost

/- (W10) parts -/
namespace Go.Proofs.YtccdkchmeelkfaaGreatDoor
open Go.RowKit Go.Shelf

/-- A function value that answers p of each element's word, whatever has been laid since w. -/
def PredE (g : FuncId) (cb : Array Value) (p : Nat → Bool) (w : World) : Prop :=
  ∀ x w', x < 4294967296 → Below w.heap.size w w' → Calls Tryz.prog g (#[.int .u32 (x : Nat)] ++ cb) w' fun e w'' => e = .returned (.bool (p x)) ∧ ∃ n, w'' = w'.drewN n

set_option maxRecDepth 100000 in
set_option maxHeartbeats 1000000 in
theorem containsE_any (w : World) (v : Value) (l : List Nat) (h : SlE w v l) (hl : l.length ≤ 1000000000) (g : FuncId) (cb : Array Value) (eg : ∀ args w, (callFunc g args).run Tryz.prog w = .ok (.enter g args) w) (p : Nat → Bool) (hp : PredE g cb p w) :
    Calls Tryz.prog 47 #[v, .func (.func g) #[] cb] w fun e w' => e = .returned (.bool (l.any p)) ∧ ∃ n, w' = w.drewN n := by
  have hidx : Calls Tryz.prog 94 #[v, .func (.func g) #[] cb] w fun e w' => (∃ r : Int, e = .returned (.int .i64 r) ∧ (l.any p = true → 0 ≤ r) ∧ (l.any p = false → r = -1)) ∧ ∃ n, w' = w.drewN n := by
    obtain ⟨a, c, rfl, _, _, hop⟩ := h.open
    have HP := Lib.hid hp
    have HO := Lib.hid hop
    have HL := Lib.hid h.2
    clear hp hop h
    go_enter Tryz.func94, Tryz.ntmps94
    go_wp2_with fail
    go_loopw [8] (fun i wr => ∃ k m : Nat, k ≤ l.length ∧ i = .int .i64 k ∧ wr = w.drewN m ∧ Hid (∀ x ∈ l.take k, p x = false)) (fun i _ => l.length - (intOf i).toNat)
    case atStart => exact ⟨0, 0, Nat.zero_le _, rfl, rfl, Lib.hid (by simp)⟩
    case round =>
      obtain ⟨k, m, hk, rfl, rfl, hno⟩ := hrel
      by_cases hk1 : k < l.length
      · obtain ⟨b, o, rfl, hb, hcell⟩ := HO.out (by omega)
        obtain ⟨x, hx⟩ : ∃ x, l[k]? = some x := ⟨l[k], List.getElem?_eq_getElem hk1⟩
        have hc := hcell k x hx
        have hcall := HP.out x (w.drewN m) (HL.out x (List.mem_of_getElem? hx)) (Below.drewN (Below.refl _ _) m)
        have HX := Lib.hid hx
        clear hcell hx
        cases hpx : p x with
        | true =>
          rw [hpx] at hcall
          have HPX := Lib.hid hpx
          clear hpx
          go_wp2_with (go_at_fn g; refine hcall.mono ?_; rintro e w' ⟨rfl, n, rfl⟩)
          go_ret
          refine ⟨⟨_, rfl, fun _ => by omega, fun h => ?_⟩, _, rfl⟩
          have : l.any p = true := List.any_eq_true.2 ⟨x, List.mem_of_getElem? HX.out, HPX.out⟩
          rw [this] at h; cases h
        | false =>
          rw [hpx] at hcall
          have HPX := Lib.hid hpx
          clear hpx
          go_wp2_with (go_at_fn g; refine hcall.mono ?_; rintro e w' ⟨rfl, n, rfl⟩)
          go_roundw
          case rel =>
            refine ⟨k + 1, m + n, by omega, by go_num, rfl, Lib.hid (fun y hy => ?_)⟩
            rw [List.take_add_one, HX.out] at hy
            rcases List.mem_append.1 hy with hy | hy
            · exact hno.out y hy
            · simp at hy; subst hy; exact HPX.out
          case measure => simp [intOf]; omega
      · obtain rfl : k = l.length := by omega
        go_wp2_with fail
        go_ret
        refine ⟨⟨_, rfl, fun h => ?_, fun _ => rfl⟩, _, rfl⟩
        obtain ⟨x, hx, hpx⟩ := List.any_eq_true.1 h
        have := hno.out x (by rw [List.take_length]; exact hx)
        rw [this] at hpx; cases hpx
  clear hp h
  cases ha : l.any p <;> rw [ha] at hidx <;>
  · simp at hidx
    go_enter Tryz.func47, Tryz.ntmps47
    go_wp2_with fail
    refine hidx.mono ?_
    rintro e w1 ⟨⟨r, rfl, hr⟩, n, rfl⟩
    go_wp2_with fail
    go_ret
    exact ⟨rfl, n, rfl⟩
end Go.Proofs.YtccdkchmeelkfaaGreatDoor

/- (W11) The closures of Check, has and move. -/
namespace Go.Proofs.YtccdkchmeelkfaaGreatDoor
open Go.RowKit Go.Shelf


set_option maxHeartbeats 1000000 in
theorem check1_any (w : World) (x : Nat) (h : x < 4294967296) :
    Calls Tryz.prog 48 #[.int .u32 x] w fun e w' => e = .returned (.bool (badW x)) ∧ w = w' := by
  have c1 := ok_any w x h
  have c2 := weight_any w x h 1
  have hlt : wt 1 x ≤ 65535 := by have := wt_lt 1 h; omega
  unfold badW
  generalize okw x = b at *
  generalize wt 1 x = k at *
  clear h
  cases b
  · clear hlt c2
    go_enter Tryz.func48, Tryz.ntmps48
    go_wp2_with (go_at_call 49; refine c1.mono ?_; rintro _ _ ⟨rfl, rfl⟩)
    go_ret
    exact ⟨ret_bool (by simp), rfl⟩
  · go_enter Tryz.func48, Tryz.ntmps48
    go_wp2_with (first | (go_at_call 49; refine c1.mono ?_; rintro _ _ ⟨rfl, rfl⟩) | (go_at_call 26; refine c2.mono ?_; rintro _ _ ⟨rfl, rfl⟩))
    go_ret
    exact ⟨ret_bool (by simp; omega), rfl⟩

theorem pred_check (w : World) : PredE 48 #[] badW w := fun x w' hx _ =>
  (check1_any w' x hx).mono fun _ _ ⟨h1, h2⟩ => ⟨h1, 0, h2.symm⟩

set_option maxHeartbeats 1000000 in
theorem has1_any (w : World) (x : Nat) (h : x < 4294967296) (b1 b2 : Nat) (l m : Int) (h1 : w.cell? ⟨b1, 0, none⟩ = some (.int .i64 l)) (h2 : w.cell? ⟨b2, 0, none⟩ = some (.int .i64 m)) :
    Calls Tryz.prog 172 #[.int .u32 x, .pointer (some ⟨b1, 0, none⟩), .pointer (some ⟨b2, 0, none⟩)] w fun e w' => e = .returned (.bool ((wt l x : Int) == m)) ∧ ∃ n, w' = w.drewN n := by
  have c2 := fun n => weight_any (w.drewN n) x h l
  generalize wt l x = k at *
  clear h
  go_enter Tryz.func172, Tryz.ntmps172
  go_wp2_with fail
  go_quiet ((go_at_call 26; exact quiet_same (v := .int .i64 (k : Nat)) (c2 _)))
  go_wp2_with fail
  go_ret
  exact ⟨rfl, _, rfl⟩

theorem pred_has (w : World) (b1 b2 : Nat) (l m : Int) (g1 : b1 < w.heap.size) (g2 : b2 < w.heap.size) (h1 : w.cell? ⟨b1, 0, none⟩ = some (.int .i64 l)) (h2 : w.cell? ⟨b2, 0, none⟩ = some (.int .i64 m)) :
    PredE 172 #[.pointer (some ⟨b1, 0, none⟩), .pointer (some ⟨b2, 0, none⟩)] (fun x => (wt l x : Int) == m) w := fun x w' hx hb =>
  has1_any w' x hx b1 b2 l m ((hb.cell (p := ⟨b1, 0, none⟩) g1).trans h1) ((hb.cell (p := ⟨b2, 0, none⟩) g2).trans h2)

set_option maxHeartbeats 1000000 in
/-- move$1: the element, its weight one more where it is above p. (l: a level; p: a weight) -/
theorem up_any (w : World) (x : Nat) (h : x < 4294967296) (b1 b2 : Nat) (l : Int) (hl : l = 1 ∨ l = 2 ∨ l = 3) (p : Nat) (h1 : w.cell? ⟨b1, 0, none⟩ = some (.int .i64 l)) (h2 : w.cell? ⟨b2, 0, none⟩ = some (.int .i64 p)) :
    Calls Tryz.prog 141 #[.int .u32 x, .pointer (some ⟨b1, 0, none⟩), .pointer (some ⟨b2, 0, none⟩)] w fun e w' => e = .returned (.int .u32 (upW l p x : Nat)) ∧ w = w' := by
  have c2 := weight_any w x h l
  have hlt : wt l x ≤ 65535 := by have := wt_lt l h; omega
  have cm : Calls Tryz.prog 139 #[.int .i64 1] w fun en w' => en = .returned (.int .i64 64255) ∧ w = w' := most_any w 1 (by omega)
  unfold upW
  by_cases hp : p < wt l x
  · have hpi : ((p : Int) < (wt l x : Int)) := by omega
    by_cases hl1 : 1 < l
    · have c3 : Calls Tryz.prog 133 #[.int .u32 x, .int .i64 l, .int .i64 ((wt l x : Int) + 1)] w fun en w' => en = .returned (.int .u32 (setw l x (wt l x + 1) : Nat)) ∧ w = w' := by
        have h256 : wt l x + 1 < 65536 := by rcases hl with rfl | rfl | rfl <;> simp [wt] <;> omega
        exact with_any w x h l hl (wt l x + 1) h256
      rw [if_pos ⟨hp, .inl hl1⟩]
      generalize wt l x = k at *
      generalize setw l x (k + 1) = r at *
      clear h hl
      go_enter Tryz.func141, Tryz.ntmps141
      go_wp2_with fail
      refine c2.mono ?_
      rintro _ _ ⟨rfl, rfl⟩
      go_wp2_with (go_at_call 133; refine c3.mono ?_; rintro _ _ ⟨rfl, rfl⟩)
      go_ret
      exact ⟨rfl, rfl⟩
    · obtain rfl : l = 1 := by omega
      by_cases h64 : wt 1 x ≤ 64255
      · have c3 : Calls Tryz.prog 133 #[.int .u32 x, .int .i64 1, .int .i64 ((wt 1 x : Int) + 1)] w fun en w' => en = .returned (.int .u32 (setw 1 x (wt 1 x + 1) : Nat)) ∧ w = w' := with_any w x h 1 hl (wt 1 x + 1) (by omega)
        rw [if_pos ⟨hp, .inr h64⟩]
        generalize wt 1 x = k at *
        generalize setw 1 x (k + 1) = r at *
        clear h hl
        go_enter Tryz.func141, Tryz.ntmps141
        go_wp2_with fail
        refine c2.mono ?_
        rintro _ _ ⟨rfl, rfl⟩
        go_wp2_with (first | (go_at_call 133; refine c3.mono ?_; rintro _ _ ⟨rfl, rfl⟩) | (go_at_call 139; refine cm.mono ?_; rintro _ _ ⟨rfl, rfl⟩))
        go_ret
        exact ⟨rfl, rfl⟩
      · rw [if_neg (by omega)]
        generalize wt 1 x = k at *
        clear h hl
        go_enter Tryz.func141, Tryz.ntmps141
        go_wp2_with fail
        refine c2.mono ?_
        rintro _ _ ⟨rfl, rfl⟩
        go_wp2_with (go_at_call 139; refine cm.mono ?_; rintro _ _ ⟨rfl, rfl⟩)
        go_ret
        exact ⟨rfl, rfl⟩
  · rw [if_neg (fun h => hp h.1)]
    have hpi : ((wt l x : Int) ≤ (p : Int)) := by omega
    generalize wt l x = k at *
    clear h hl
    go_enter Tryz.func141, Tryz.ntmps141
    go_wp2_with fail
    refine c2.mono ?_
    rintro _ _ ⟨rfl, rfl⟩
    go_wp2_with fail
    go_ret
    exact ⟨rfl, rfl⟩
end Go.Proofs.YtccdkchmeelkfaaGreatDoor

/- (W12) parts -/
namespace Go.Proofs.YtccdkchmeelkfaaGreatDoor
open Go.RowKit Go.Shelf

set_option maxRecDepth 100000 in
set_option maxHeartbeats 1000000 in
/-- Table.Entry: is there such an entry? (Its elements are not told here.) -/
theorem entry_any (w : World) (p v : Value) (T : Tab Nat) (h : TableAt w p T) (k : List Int) (hs : SlI w v k) (hk : okKey k) :
    Calls Tryz.prog 46 #[p, v] w fun e w' => ∃ lv, e = .returned (.tuple #[lv, .bool (alook T k).isSome]) ∧ Below w.heap.size w w' := by
  have hkey := key_any w v k hs (by have := hk.2.1; omega)
  obtain ⟨tb, mb, tp, T', rfl, ht, hc0, hc1, htr, hen, hperm, hok⟩ := h
  have hrun := ents_run hen hperm hok hk
  have HK := Lib.hid hk
  clear htr hc1 hs hk hen hperm
  go_enter Tryz.func46, Tryz.ntmps46
  go_wp2_with fail
  refine hkey.mono ?_
  clear hkey
  rintro e w1 ⟨hb1, ⟨x1, x2, x3⟩, rfl, hkk⟩
  rw [decide_eq_true HK.out]
  rw [← hkk HK.out] at hrun
  clear hkk
  have hc0' := (hb1.cell (p := ⟨tb, 0, none⟩) ht).trans hc0
  have ht1 := Nat.lt_of_lt_of_le ht hb1.size
  clear hc0
  simp only [encK] at hrun ⊢
  rcases hrun with ⟨hno, hrun⟩ | ⟨l, lv, hyes, hlv, hrun⟩
  · have hlook := fun (n : Nat) => hrun ((w1.alloc (.cells #[.int .i64 x1, .int .i64 x2, .int .i64 x3] 93)).drewN n) (Below.drewN (hb1.alloc hb1.size _) n)
    have HN := Lib.hid hno
    clear hrun hno
    go_wp2_with fail
    go_quiet (fail)
    go_wp2_with fail
    refine (cloneE_any _ _ [] (SlE.nil _) (by simp)).mono ?_
    rintro e w2 ⟨v2, rfl, hown, hb2⟩
    obtain ⟨a2, c2, rfl, hc2, _⟩ := owns_slice hown
    clear hown
    go_wp2_with fail
    refine (clipE_any _ _ _ _ hc2 (by simp)).mono ?_
    rintro e w3 ⟨rfl, rfl⟩
    go_wp2_with fail
    go_ret2
    exact ⟨_, by rw [HN.out]; rfl, Below.next (Below.drewN (hb1.alloc hb1.size _) _) hb2⟩
  · have hlook := fun (n : Nat) => hrun ((w1.alloc (.cells #[.int .i64 x1, .int .i64 x2, .int .i64 x3] 93)).drewN n) (Below.drewN (hb1.alloc hb1.size _) n)
    have hl8 := hok.2.2.2 _ (alook_mem hyes)
    simp only at hl8
    have HN := Lib.hid hyes
    have HL := Lib.hid hlv
    clear hrun hyes hlv
    go_wp2_with fail
    go_quiet (fail)
    go_wp2_with fail
    refine (cloneE_any _ _ l (HL.out.below (Below.drewN (hb1.alloc hb1.size _) _)) (by omega)).mono ?_
    rintro e w2 ⟨v2, rfl, hown, hb2⟩
    obtain ⟨a2, c2, rfl, hc2, _⟩ := owns_slice hown
    clear hown
    go_wp2_with fail
    refine (clipE_any _ _ _ _ hc2 (by omega)).mono ?_
    rintro e w3 ⟨rfl, rfl⟩
    go_wp2_with fail
    go_ret2
    exact ⟨_, by rw [HN.out]; rfl, Below.next (Below.drewN (hb1.alloc hb1.size _) _) hb2⟩

theorem okKey_take {k : List Int} (h : okKey k) {n : Nat} (h1 : 1 ≤ n) (h2 : n < k.length) : okKey (k.take n) :=
  ⟨by rw [List.length_take]; omega, by rw [List.length_take]; have := h.2.1; omega, fun c hc => h.2.2 c (List.mem_of_mem_take hc)⟩

theorem k3_of_mem {T : Tab Nat} {w : World} {m : List (K3 × Value)} (h2 : m.map (·.1) = T.map (fun e => k3 e.1)) (h3 : ∀ (i : Nat) (q : K3 × Value) (e : List Int × List Nat), m[i]? = some q → T[i]? = some e → SlE w q.2 e.2) {i : Nat} {q : K3 × Value} (hq : m[i]? = some q) :
    ∃ e, T[i]? = some e ∧ q.1 = k3 e.1 ∧ SlE w q.2 e.2 := by
  have h4 : (m.map (·.1))[i]? = some q.1 := by rw [List.getElem?_map, hq]; rfl
  rw [h2, List.getElem?_map] at h4
  cases he : T[i]? with
  | none => rw [he] at h4; cases h4
  | some e => rw [he] at h4; exact ⟨e, rfl, (Option.some.inj h4).symm, h3 i q e hq he⟩
end Go.Proofs.YtccdkchmeelkfaaGreatDoor

/- (W13) parts -/
namespace Go.Proofs.YtccdkchmeelkfaaGreatDoor
open Go.RowKit Go.Shelf

theorem mem_erase {α : Type} {l : List α} {i : Nat} {x q : α} (hx : l[i]? = some x) (hq : q ∈ l) : q = x ∨ q ∈ l.eraseIdx i := by
  induction l generalizing i with
  | nil => cases hq
  | cons a r ih =>
    cases i with
    | zero => simp at hx; subst hx; rcases List.mem_cons.1 hq with h | h; exact .inl h; exact .inr (by simpa using h)
    | succ i =>
      simp at hx
      rcases List.mem_cons.1 hq with h | h
      · exact .inr (by simp [h])
      · rcases ih hx h with h | h
        · exact .inl h
        · exact .inr (by simp [h])
theorem alook_of_mem {α β : Type} [DecidableEq α] {m : List (α × β)} (hn : (m.map (·.1)).Nodup) {p : α × β} (hp : p ∈ m) : alook m p.1 = some p.2 := by
  induction m with
  | nil => cases hp
  | cons q r ih =>
    rw [List.map_cons, List.nodup_cons] at hn
    rcases List.mem_cons.1 hp with h | h
    · rw [alook, h, if_pos rfl]
    · have : q.1 ≠ p.1 := fun e => hn.1 (by rw [e]; exact List.mem_map.2 ⟨p, h, rfl⟩)
      rw [alook, if_neg this]; exact ih hn.2 h
theorem mem_of_erase {α : Type} {l : List α} {i : Nat} {q : α} (hq : q ∈ l.eraseIdx i) : q ∈ l := List.mem_of_mem_eraseIdx hq

set_option maxRecDepth 100000 in
set_option maxHeartbeats 2000000 in
/-- Table.Check. -/
theorem check_any (w : World) (p : Value) (T : Tab Nat) (h : TableAt w p T) :
    Calls Tryz.prog 20 #[p] w fun e w' => e = .returned (.int .i64 (checkS T)) ∧ Below w.heap.size w w' := by
  have hT := h
  obtain ⟨tb, mb, tp, T', rfl, ht, hc0, hc1, htr, hen, hperm, hok⟩ := h
  obtain ⟨m, hm, h2, h3⟩ := hen
  have H3 := Lib.hid (And.intro h2 h3)
  have HT := Lib.hid (And.intro hT (And.intro hperm hok))
  clear hT htr hc1 hperm hok h2 h3
  have eg : ∀ args w, (callFunc 48 args).run Tryz.prog w = .ok (.enter 48 args) w := enters_of Tryz.func48 (by kernel_rfl) rfl
  have EG := Lib.hid eg
  clear eg
  go_enter Tryz.func20, Tryz.ntmps20
  go_wp2_with (at_range; refine wpList_range_at rfl _ rfl Tryz.underlying88 rfl hm ?_; intro w0 hit0 hg0 hs0)
  have hw0 : Below w.heap.size w w0 := (Below.refl _ _).grown hg0 (Nat.le_refl _) (fun k hk => by cases hk)
  clear hg0 hm hs0
  go_frame
  go_loopg [2] m.length (fun gg r wr => r = .int .i64 0 ∧ ∃ left, IterAt encK wr w.heap.size mb m left ∧ Below w.heap.size w wr ∧ left.length ≤ gg ∧ Hid (∀ q ∈ left, q ∈ m) ∧ Hid (∀ q ∈ m, q ∈ left ∨ ∀ e ∈ T', q.1 = k3 e.1 → soundE T e = true))
  case atStart => exact ⟨rfl, m, hit0, hw0, Nat.le_refl _, Lib.hid (fun q hq => hq), Lib.hid (fun q hq => .inl hq)⟩
  case round =>
    obtain ⟨rfl, left, hit, hnx, hgg, hsub, hdone⟩ := hrel
    clear hit0 hw0
    obtain ⟨wo, rfl⟩ : ∃ wo : World, wo = wr := ⟨_, rfl⟩
    go_wp2_with (at_next; refine wpList_next_seq rfl _ rfl rfl hit (fun hl => ?_) (fun i x1 x2 x3 v w1 hi hit1 hg1 hs1 hen => ?_))
    · subst hl
      have hsnd : checkS T = 0 := by
        unfold checkS
        rw [if_pos]
        rw [List.all_eq_true]
        intro e he
        obtain ⟨i, hi⟩ := List.getElem?_of_mem (HT.out.2.1.mem_iff.2 he)
        have h4 : (m.map (·.1))[i]? = some (k3 e.1) := by rw [H3.out.1, List.getElem?_map, hi]; rfl
        rw [List.getElem?_map] at h4
        cases hq : m[i]? with
        | none => rw [hq] at h4; cases h4
        | some q =>
          rw [hq] at h4
          rcases hdone.out q (List.mem_of_getElem? hq) with hm | hm
          · cases hm
          · exact hm e (HT.out.2.1.mem_iff.2 he) (Option.some.inj h4)
      go_ret
      exact ⟨by rw [hsnd]; rfl, hnx⟩
    · have hw1 : Below w.heap.size w w1 := hnx.grown hg1 hnx.size (fun k hk => by cases hk; exact Nat.le_refl _)
      have hmi : ((x1, x2, x3), v) ∈ m := hsub.out _ (List.mem_of_getElem? hi)
      obtain ⟨j, hj⟩ := List.getElem?_of_mem hmi
      obtain ⟨e, he, hke, hve⟩ := k3_of_mem H3.out.1 H3.out.2 hj
      simp only at hke hve
      have heT : e ∈ T := HT.out.2.1.mem_iff.1 (List.mem_of_getElem? he)
      have hek := HT.out.2.2.1 e heT
      have hsg := fun w => signs_any w e.1 hek
      rw [← hke] at hsg
      simp only [encK] at hsg
      have H4 := Lib.hid (And.intro hi (And.intro hmi (And.intro he (And.intro hke (And.intro hve (And.intro heT hek))))))
      have H5 := Lib.hid (And.intro hsub hdone)
      have hl1 := hek.1
      have hl3 := hek.2.1
      clear hi hmi hj he hke hve heT hek hit hg1 hnx hdone hsub hen
      refine (hsg _).mono ?_
      clear hsg
      rintro e' w2 ⟨sv, rfl, hown, hb2⟩
      have hsl : SlI w2 sv e.1 := Sl.of_owns hown
      have hw1' := hw1.alloc hw1.size (.cells #[.int .i64 x1, .int .i64 x2, .int .i64 x3] 93)
      have hw2 := Below.next hw1' hb2
      have hit2 : IterAt encK w2 w.heap.size mb m (left.eraseIdx i) := (hit1.below ((Below.refl _ _).alloc (Nat.le_refl _) (.cells #[.int .i64 x1, .int .i64 x2, .int .i64 x3] 93))).below hb2
      obtain ⟨a2, c2, rfl, hc2, _, hop⟩ := hsl.open
      obtain ⟨b2, o2, rfl, hbb, hcc⟩ := hop (by omega)
      have hc20 : ¬ c2 = 0 := by omega
      have HC := Lib.hid hcc
      clear hop hown hb2 hw1' hsl hcc hit1 hs1 hw1
      go_wp2_with fail
      go_loopw [2, 6] (fun r n wr => r = .int .i64 0 ∧ ∃ q : Nat, 1 ≤ q ∧ q ≤ e.1.length ∧ n = .int .i64 q ∧ Below w2.heap.size w2 wr ∧ Hid (∀ n, 1 ≤ n → n < q → (alook T (e.1.take n)).isSome = true)) (fun _ n _ => e.1.length - (intOf n).toNat)
      case atStart => exact ⟨rfl, 1, Nat.le_refl _, hl1, rfl, Below.refl _ _, Lib.hid (fun n h1 h2 => by omega)⟩
      case round =>
        obtain ⟨rfl, q, hq1, hq2, rfl, hb3, hpre⟩ := hrel
        by_cases hq : q < e.1.length
        · have hb2r := Nat.lt_of_lt_of_le hbb hb3.size
          have hsub := SlI.sub (c := c2) (i := 0) (n := q) hb2r (fun j x hj => (hb3.cell (p := ⟨b2, o2 + j, none⟩) hbb).trans (HC.out j x hj)) (by omega) (by omega)
          simp only [Nat.add_zero, List.drop_zero] at hsub
          have hw3 := Below.next hw2 hb3
          have hen := entry_any wr _ _ T (HT.out.1.below hw3) _ hsub (okKey_take H4.out.2.2.2.2.2.2 hq1 hq)
          clear hsub hb2r
          cases hs : (alook T (e.1.take q)).isSome with
          | true =>
            rw [hs] at hen
            have HS := Lib.hid hs
            clear hs
            go_wp2_with fail
            refine hen.mono ?_
            rintro e' w3 ⟨lv, rfl, hb4⟩
            go_wp2_with fail
            go_roundw
            case rel => exact ⟨rfl, q + 1, by omega, by omega, by go_num, Below.next hb3 hb4, Lib.hid (fun n h1 h2 => by by_cases hnq : n = q; rw [hnq]; exact HS.out; exact hpre.out n h1 (by omega))⟩
            case measure => simp [intOf]; omega
          | false =>
            rw [hs] at hen
            have hbad : checkS T = 3 := by
              unfold checkS
              rw [if_neg]
              intro hall
              have h1 := List.all_eq_true.1 hall e H4.out.2.2.2.2.2.1
              unfold soundE at h1
              rw [Bool.and_eq_true, List.all_eq_true] at h1
              have h2 := h1.1 q (List.mem_range.2 hq)
              rw [hs] at h2
              simp at h2
              omega
            have HB := Lib.hid hbad
            clear hs hbad
            go_wp2_with fail
            refine hen.mono ?_
            rintro e' w3 ⟨lv, rfl, hb4⟩
            go_wp2_with fail
            go_ret
            exact ⟨by rw [HB.out]; rfl, Below.next hw3 hb4⟩
        · obtain rfl : q = e.1.length := by omega
          have hw3 := Below.next hw2 hb3
          have hcf := containsE_any wr v e.2 (H4.out.2.2.2.2.1.below hw3) (by have := HT.out.2.2.2.2.2 e H4.out.2.2.2.2.2.1; omega) 48 #[] EG.out badW (pred_check wr)
          cases hs : e.2.any badW with
          | false =>
            rw [hs] at hcf
            have HS := Lib.hid hs
            clear hs
            go_wp2_with fail
            refine hcf.mono ?_
            rintro e' w3 ⟨rfl, n, rfl⟩
            go_wp2_with fail
            go_roundg (left.eraseIdx i).length
            case measure =>
              have hlt : i < left.length := (List.getElem?_eq_some_iff.1 H4.out.1).1
              rw [List.length_eraseIdx_of_lt hlt]; omega
            case rel =>
              refine ⟨rfl, left.eraseIdx i, (hit2.below hb3).below (Below.drewN (Below.refl _ _) _), Below.drewN hw3 _, Nat.le_refl _, Lib.hid (fun q hq => H5.out.1.out q (mem_of_erase hq)), Lib.hid (fun q hq => ?_)⟩
              rcases H5.out.2.out q hq with h | h
              · rcases mem_erase H4.out.1 h with h | h
                · refine .inr (fun e2 he2 hk2 => ?_)
                  have e12 : e2 = e := by
                    have hk12 : e2.1 = e.1 := k3_inj (HT.out.2.2.1 e2 (HT.out.2.1.mem_iff.1 he2)) H4.out.2.2.2.2.2.2 (by rw [← hk2, h]; exact H4.out.2.2.2.1)
                    have n1 := alook_of_mem HT.out.2.2.2.1 (HT.out.2.1.mem_iff.1 he2)
                    have n2 := alook_of_mem HT.out.2.2.2.1 H4.out.2.2.2.2.2.1
                    rw [hk12, n2] at n1
                    exact Prod.ext hk12 (Option.some.inj n1).symm
                  rw [e12]
                  unfold soundE
                  rw [Bool.and_eq_true, List.all_eq_true]
                  refine ⟨fun n hn => ?_, by rw [HS.out]; rfl⟩
                  by_cases h0 : n = 0
                  · simp [h0]
                  · rw [hpre.out n (by omega) (List.mem_range.1 hn)]; simp
                · exact .inl h
              · exact .inr h
          | true =>
            rw [hs] at hcf
            have hbad : checkS T = 3 := by
              unfold checkS
              rw [if_neg]
              intro hall
              have h1 := List.all_eq_true.1 hall e H4.out.2.2.2.2.2.1
              unfold soundE at h1
              rw [Bool.and_eq_true, hs] at h1
              simp at h1
            have HB := Lib.hid hbad
            clear hs hbad
            go_wp2_with fail
            refine hcf.mono ?_
            rintro e' w3 ⟨rfl, n, rfl⟩
            go_wp2_with fail
            go_ret
            exact ⟨by rw [HB.out]; rfl, Below.drewN hw3 _⟩
end Go.Proofs.YtccdkchmeelkfaaGreatDoor
