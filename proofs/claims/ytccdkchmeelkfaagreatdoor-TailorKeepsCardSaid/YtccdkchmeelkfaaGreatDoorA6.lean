/- Look-ups in a table. -/
import Derived.Test.YtccdkchmeelkfaaGreatDoorA4
import Derived.Test.YtccdkchmeelkfaaGreatDoorA1

/- (W7) parts -/
namespace Go.Proofs.YtccdkchmeelkfaaGreatDoor
open Go.RowKit

theorem zeroInt (w : World) : (zeroValue 3).run Tryz.prog w = .ok (.int .i64 0) w := by kernel_rfl
theorem zeroElems (w : World) : (zeroValue 43).run Tryz.prog w = .ok (.slice none 0 0) w := by kernel_rfl

set_option maxRecDepth 100000 in
set_option maxHeartbeats 1000000 in
theorem get_any (w : World) (p : Value) (f : Int → Nat) (h : TrieAt w p f) (c : Int) (hc : i64ok c) :
    Calls Tryz.prog 165 #[p, .int .i64 c] w fun e w' => e = .returned (.int .i64 (f c : Nat)) ∧ w = w' := by
  obtain ⟨tb, bv, n, bs, mb, m, rfl, ht, hc0, hc1, hn, hsl, hm, hnd, hok, hv, hz, h3⟩ := h
  have lk := fun k (hk : i64ok k) => hm.run_look kl_int Tryz.underlying162 hok hnd hk zeroInt true
  simp only [if_true] at lk
  by_cases h1 : c < 0 ∨ 1114367 < c
  · have hf : f c = 0 := hz c (by rcases h1 with h | h <;> simp [h])
    have hq : i64ok (wrap64 (c.tdiv 64)) := by unfold i64ok wrap64; omega
    have l1 := lk _ hq
    rw [hf]
    clear lk hz hv h3 hf hc hq hok hn
    generalize (alook m (wrap64 (c.tdiv 64))).getD (.int .i64 0) = r at *
    generalize (alook m (wrap64 (c.tdiv 64))).isSome = s at *
    rcases h1 with h1 | h1
    · have d1 : decide (c < 0) = true := by simpa using h1
      clear h1
      cases s <;>
      · go_enter Tryz.func165, Tryz.ntmps165
        go_wp2
        go_ret
        exact ⟨rfl, rfl⟩
    · have d1 : decide (c < 0) = false := by simp; omega
      have d2 : decide (1114367 < c) = true := by simpa using h1
      clear h1
      cases s <;>
      · go_enter Tryz.func165, Tryz.ntmps165
        go_wp2
        go_ret
        exact ⟨rfl, rfl⟩
  have h1' : 0 ≤ c := by omega
  have h2' : c ≤ 1114367 := by omega
  have d1 : decide (c < 0) = false := by simpa using h1'
  have d2 : decide (1114367 < c) = false := by simpa using h2'
  have hq : i64ok (c / 64) := by unfold i64ok at hc ⊢; omega
  have l1 := lk _ hq
  clear h1
  cases ha : alook m (c / 64) with
  | none =>
    have hf := hz c (.inr (.inr ha))
    rw [hf]
    rw [ha] at l1
    clear lk hz hv h3 hf hc hq hok hn ha
    simp only [Option.getD_none, Option.isSome_none] at l1
    go_enter Tryz.func165, Tryz.ntmps165
    go_wp2
    go_ret
    exact ⟨rfl, rfl⟩
  | some v =>
    obtain ⟨k, hk, rfl, hj⟩ := hv _ _ ha
    rw [ha] at l1
    simp only [Option.getD_some, Option.isSome_some] at l1
    have hj0 := (hj (c % 64).toNat (by omega)).2
    rw [show c / 64 * 64 + (((c % 64).toNat : Nat) : Int) = c by omega] at hj0
    have hf3 := h3 c
    generalize f c = r at *
    clear lk hz hv h3 hj hc hq hok ha
    obtain ⟨hs1, a, cc, rfl, hs2, _, hs3⟩ := hsl
    obtain ⟨b, o, rfl, hb, hcell⟩ := hs3 (by omega)
    have hx := hcell _ _ hj0
    rw [← Nat.add_assoc] at hx
    clear hcell hs3 hj0
    have hm64 : 0 ≤ c % 64 := by omega
    have hm65 : c % 64 < 64 := by omega
    go_enter Tryz.func165, Tryz.ntmps165
    go_wp2
    go_ret
    exact ⟨rfl, rfl⟩
end Go.Proofs.YtccdkchmeelkfaaGreatDoor

/- (W8) parts -/
namespace Go.Proofs.YtccdkchmeelkfaaGreatDoor
open Go.RowKit

theorem quiet_same {P : Program} {f : FuncId} {args : Array Value} {w : World} {n : Nat} {v : Value}
    (h : Calls P f args (w.drewN n) fun e w' => e = .returned v ∧ w.drewN n = w') : Calls P f args (w.drewN n) fun e w'' => e = .returned v ∧ ∃ m, w'' = w.drewN m :=
  h.mono fun _ _ ⟨he, hm⟩ => ⟨he, n, hm.symm⟩

theorem TrieAt.drewN {w : World} {p : Value} {f : Int → Nat} (h : TrieAt w p f) (n : Nat) : TrieAt (w.drewN n) p f := h.below (Below.drewN (Below.refl _ _) n)

theorem SlI.sub {w : World} {b o c : Nat} {s : List Int} {i n : Nat} (hb : b < w.heap.size) (h : ∀ j x, s[j]? = some x → w.cell? ⟨b, o + j, none⟩ = some (.int .i64 x)) (hn : n ≤ s.length - i) (hc : n ≤ c) : SlI w (.slice (some ⟨b, o + i, none⟩) n c) ((s.drop i).take n) := by
  have hl : ((s.drop i).take n).length = n := by rw [List.length_take, List.length_drop]; omega
  unfold SlI
  rw [hl]
  refine ⟨by rw [List.length_map, hl]; omega, _, c, rfl, hc, (fun h => by cases h), fun _ => ⟨b, o + i, rfl, hb, fun j x hj => ?_⟩⟩
  rw [List.getElem?_map, List.getElem?_take] at hj
  split at hj
  · rw [List.getElem?_drop] at hj
    cases hx : s[i + j]? with
    | none => rw [hx] at hj; cases hj
    | some y => rw [hx] at hj; cases hj; rw [Nat.add_assoc]; exact h _ _ hx
  · cases hj

/-- A look-up in a table's map, at any later world. -/
theorem EntsAt.run {w : World} {mb : Nat} {T : Tab Nat} (h : EntsAt w mb T) (hk : ∀ e ∈ T, okKey e.1) (hn : (T.map (·.1)).Nodup) {k : List Int} (hok : okKey k) :
    (alook T k = none ∧ ∀ w', Below w.heap.size w w' → (Instr.lookup 88 (.map (some mb)) (encK (k3 k)) true).run Tryz.prog w' = .ok (.tuple #[.slice none 0 0, .bool false]) w') ∨
    ∃ l v, alook T k = some l ∧ SlE w v l ∧ ∀ w', Below w.heap.size w w' → (Instr.lookup 88 (.map (some mb)) (encK (k3 k)) true).run Tryz.prog w' = .ok (.tuple #[v, .bool true]) w' := by
  obtain ⟨m, h1, h2, h3⟩ := h
  have hnd : (m.map (·.1)).Nodup := by rw [h2]; exact k3_map_nodup hk hn
  have hokm : ∀ p ∈ m, ok3 p.1 := by
    intro p hp
    have : p.1 ∈ m.map (·.1) := List.mem_map.2 ⟨p, hp, rfl⟩
    rw [h2] at this
    obtain ⟨e, he, e1⟩ := List.mem_map.1 this
    rw [← e1]; exact k3_ok (hk e he)
  rcases ents_look h2 h3 hk hok with ⟨e1, e2⟩ | ⟨l, v, e1, e2, e3⟩
  · refine .inl ⟨e1, fun w' hb => ?_⟩
    have := (h1.below hb).run_look kl_seq Tryz.underlying88 hokm hnd (k3_ok hok) zeroElems true
    simpa [e2] using this
  · refine .inr ⟨l, v, e1, e3, fun w' hb => ?_⟩
    have := (h1.below hb).run_look kl_seq Tryz.underlying88 hokm hnd (k3_ok hok) zeroElems true
    simpa [e2] using this

theorem okTab.perm {ε : Type} {T T' : Tab ε} (h : okTab T) (hp : T'.Perm T) : okTab T' :=
  ⟨fun e he => h.1 e (hp.mem_iff.1 he), (hp.map _).nodup_iff.2 h.2.1, by rw [hp.length_eq]; exact h.2.2.1, fun e he => h.2.2.2 e (hp.mem_iff.1 he)⟩

/-- .. in the table's own list. -/
theorem ents_run {w : World} {mb : Nat} {T T' : Tab Nat} (h : EntsAt w mb T') (hp : T'.Perm T) (hok : okTab T) {k : List Int} (hk : okKey k) :
    (alook T k = none ∧ ∀ w', Below w.heap.size w w' → (Instr.lookup 88 (.map (some mb)) (encK (k3 k)) true).run Tryz.prog w' = .ok (.tuple #[.slice none 0 0, .bool false]) w') ∨
    ∃ l v, alook T k = some l ∧ SlE w v l ∧ ∀ w', Below w.heap.size w w' → (Instr.lookup 88 (.map (some mb)) (encK (k3 k)) true).run Tryz.prog w' = .ok (.tuple #[v, .bool true]) w' := by
  have h' := hok.perm hp
  have e := alook_perm hp h'.2.1 k
  rw [← e]
  exact h.run h'.1 h'.2.1 hk

theorem tryS_no {T : Tab Nat} {s : List Int} {n : Nat} (h : alook T (s.take (n + 1)) = none) : tryS T s (n + 1) = tryS T s n := by rw [tryS, h]
theorem tryS_yes {T : Tab Nat} {s : List Int} {n : Nat} {l : List Nat} (h : alook T (s.take (n + 1)) = some l) : tryS T s (n + 1) = some (l, n + 1) := by rw [tryS, h]
theorem atS_of {T : Tab Nat} {s : List Int} {c : Int} {r : List Int} (hs : s = c :: r) : atS implW T s = (tryS T s (min 3 s.length)).getD (implW c, 1) := by subst hs; rfl

set_option maxRecDepth 100000 in
set_option maxHeartbeats 2000000 in
theorem at_any (w : World) (p v : Value) (T : Tab Nat) (h : TableAt w p T) (s : List Int) (hs : SlI w v s) (hi64 : ∀ c ∈ s, i64ok c) (i : Nat) (hi : i < s.length) (hb : s.length ≤ 1000000000) :
    Calls Tryz.prog 131 #[p, v, .int .i64 i] w fun e w' => ∃ lv, e = .returned (.tuple #[lv, .int .i64 (atS implW T (s.drop i)).2]) ∧ SlE w' lv (atS implW T (s.drop i)).1 ∧ Below w.heap.size w w' := by
  obtain ⟨tb, mb, tp, T', rfl, ht, hc0, hc1, htr, hen, hperm, hok⟩ := h
  obtain ⟨a, cc, rfl, hcap, _, hop⟩ := hs.open
  obtain ⟨b, o, rfl, hbs, hcell⟩ := hop (by omega)
  obtain ⟨c, hc⟩ : ∃ c, s[i]? = some c := ⟨s[i], List.getElem?_eq_getElem hi⟩
  have hci := hcell _ _ hc
  have hc64 := hi64 c (List.mem_of_getElem? hc)
  have hl3 := longS_le hok c
  have g1 := fun n => get_any (w.drewN n) tp (longS T) (htr.drewN n) c hc64
  have hsum : IntKind.i64.wrap ((s.length : Int) - i) = s.length - i := IntWalk.i64_in _ (by omega)
  have hd : s.drop i = c :: s.drop (i + 1) := by
    rw [List.drop_eq_getElem_cons hi]; congr 1; exact (List.getElem?_eq_some_iff.1 hc).2
  have hlong := tryS_long hok (c := c) (r := s.drop (i + 1))
  rw [← hd] at hlong
  have hat := atS_of (T := T) hd
  have hdl : (s.drop i).length = s.length - i := List.length_drop
  rw [hdl] at hlong hat
  have HS := Lib.hid hcell
  have HT := Lib.hid (And.intro hen (And.intro hperm hok))
  clear hs hi64 hcell htr hen hperm hok hop hc hc64 hd hdl
  generalize longS T c = L at *
  have HG := Lib.hid hlong
  have HA := Lib.hid hat
  clear hlong hat
  go_enter Tryz.func131, Tryz.ntmps131
  go_wp2_with fail
  go_quiet ((go_at_call 165; exact quiet_same (v := .int .i64 (L : Nat)) (g1 _)))
  clear g1
  go_wp2_with fail
  all_goals
    go_loopw [8] (fun t wr => ∃ n : Nat, n ≤ 3 ∧ n ≤ s.length - i ∧ t = .int .i64 n ∧ Below w.heap.size w wr ∧ Hid (tryS T (s.drop i) (min 3 (s.length - i)) = tryS T (s.drop i) n)) (fun t _ => (intOf t).toNat)
    case atStart =>
      first
        | exact ⟨L, hl3, by omega, rfl, Below.drewN (Below.refl _ _) _, Lib.hid (by rw [HG.out, show min L (s.length - i) = L by omega])⟩
        | exact ⟨s.length - i, by omega, Nat.le_refl _, by rw [show ((s.length - i : Nat) : Int) = (s.length : Int) - i by omega], Below.drewN (Below.refl _ _) _, Lib.hid (by rw [HG.out, show min L (s.length - i) = s.length - i by omega])⟩
    case round =>
      obtain ⟨n, hn3, hnl, rfl, hnx, htry⟩ := hrel
      have hbr := Nat.lt_of_lt_of_le hbs hnx.size
      have htr := Nat.lt_of_lt_of_le ht hnx.size
      by_cases hn0 : n = 0
      · subst hn0
        have hci' := (hnx.cell (p := ⟨b, o + i, none⟩) hbs).trans hci
        clear hci
        go_wp2_with fail
        refine (implicit_any _ _).mono ?_
        rintro e w1 ⟨lv, rfl, hlv, hb1⟩
        go_wp2_with fail
        go_ret2
        have e1 : atS implW T (s.drop i) = (implW c, 1) := by rw [HA.out, htry.out]; rfl
        rw [e1]
        exact ⟨lv, rfl, hlv, Below.next hnx hb1⟩
      · obtain ⟨m, rfl⟩ : ∃ m, n = m + 1 := ⟨n - 1, by omega⟩
        clear hn0
        have hsub := SlI.sub (c := cc - i) hbr (fun j x hj => (hnx.cell (p := ⟨b, o + j, none⟩) hbs).trans (HS.out j x hj)) hnl (by omega)
        have hk := key_any wr _ _ hsub (by rw [List.length_take]; omega)
        clear hsub
        generalize hkey : (s.drop i).take (m + 1) = key at hk
        go_wp2_with fail
        refine hk.mono ?_
        rintro e w1 ⟨hb1, ⟨x1, x2, x3⟩, rfl, hkk⟩
        have hw1 := Below.next hnx hb1
        have hc0' := (hw1.cell (p := ⟨tb, 0, none⟩) ht).trans hc0
        have ht1 := Nat.lt_of_lt_of_le ht hw1.size
        clear hk hc0 hc1 hci htr hbr hb1 hnx
        by_cases hkok : okKey key
        · have hk' := hkk hkok
          rw [decide_eq_true hkok]
          have hlk := ents_run HT.out.1 HT.out.2.1 HT.out.2.2 hkok
          rw [← hk'] at hlk
          have HK := Lib.hid hkey
          clear hkk hk' hkey
          simp only [encK] at hlk ⊢
          rcases hlk with ⟨hno, hrun⟩ | ⟨l, lv, hyes, hlv, hrun⟩
          · have hlook := fun (n : Nat) => hrun ((w1.alloc (.cells #[.int .i64 x1, .int .i64 x2, .int .i64 x3] 93)).drewN n) (Below.drewN (hw1.alloc hw1.size _) n)
            have HR := Lib.hid hrun
            have HN := Lib.hid hno
            clear hrun hno
            go_wp2_with fail
            go_quiet (fail)
            go_wp2_with fail
            go_roundw
            case rel => exact ⟨m, by omega, by omega, by go_num, Below.drewN (hw1.alloc hw1.size _) _, Lib.hid (by rw [htry.out]; exact tryS_no (by rw [HK.out]; exact HN.out))⟩
            case measure => simp [intOf]
          · have hlook := fun (n : Nat) => hrun ((w1.alloc (.cells #[.int .i64 x1, .int .i64 x2, .int .i64 x3] 93)).drewN n) (Below.drewN (hw1.alloc hw1.size _) n)
            have HR := Lib.hid hrun
            have HN := Lib.hid (And.intro hyes hlv)
            clear hrun hyes hlv
            go_wp2_with fail
            go_quiet (fail)
            go_wp2_with fail
            go_ret2
            have e1 : atS implW T (s.drop i) = (l, m + 1) := by rw [HA.out, htry.out, tryS_yes (by rw [HK.out]; exact HN.out.1)]; rfl
            rw [e1]
            exact ⟨lv, rfl, HN.out.2.below (Below.drewN (hw1.alloc hw1.size _) _), Below.drewN (hw1.alloc hw1.size _) _⟩
        · rw [decide_eq_false hkok]
          have hno : alook T ((s.drop i).take (m + 1)) = none := alook_none (fun e he h1 => hkok (by rw [← hkey, ← h1]; exact HT.out.2.2.1 e he))
          have HN := Lib.hid hno
          clear hno hkk hkok hkey
          simp only [encK]
          go_wp2_with fail
          go_roundw
          case rel => exact ⟨m, by omega, by omega, by go_num, hw1.alloc hw1.size _, Lib.hid (by rw [htry.out]; exact tryS_no HN.out)⟩
          case measure => simp [intOf]
end Go.Proofs.YtccdkchmeelkfaaGreatDoor

/- (W9) parts -/
namespace Go.Proofs.YtccdkchmeelkfaaGreatDoor
open Go.RowKit

theorem cellsE_one (l : List Nat) : ∀ u ∈ l.map (fun n : Nat => Value.int .u32 (n : Int)), u.oneCell' = true := by
  intro u hu; obtain ⟨n, _, rfl⟩ := List.mem_map.1 hu; rfl
theorem cellsI_one (l : List Int) : ∀ u ∈ l.map (Value.int .i64), u.oneCell' = true := by
  intro u hu; obtain ⟨n, _, rfl⟩ := List.mem_map.1 hu; rfl
def cellsE (l : List Nat) : List Value := l.map fun n : Nat => Value.int .u32 (n : Int)
theorem cellsE_append (a b : List Nat) : cellsE (a ++ b) = cellsE a ++ cellsE b := by simp [cellsE]
theorem cellsE_length (a : List Nat) : (cellsE a).length = a.length := by simp [cellsE]

set_option maxRecDepth 100000 in
set_option maxHeartbeats 1000000 in
/-- slices.Clone of elements: new memory of the same. -/
theorem cloneE_any (w : World) (v : Value) (l : List Nat) (h : SlE w v l) (hn : l.length ≤ 1000000000) :
    Calls Tryz.prog 57 #[v] w fun e w' => ∃ v', e = .returned v' ∧ w'.ownsRow w.heap.size 47 1 v' l.length (cellsE l) ∧ Below w.heap.size w w' := by
  obtain ⟨i0, hi, hz0, hz1, hz2⟩ := info_parts infoElem
  have hsl := h.1
  obtain ⟨a, c, rfl, hc, hnil, hop⟩ := h.open
  cases a with
  | none =>
    have hl : l = [] := by
      by_cases h0 : l = []
      · exact h0
      · obtain ⟨b, o, e, _⟩ := hop (List.length_pos_iff.2 h0); cases e
    subst hl
    have := hnil rfl
    subst this
    clear hsl h hop hnil
    have he := fun w => Lib.run_eql_slice_nil (P := Tryz.prog) w 43 47 none 0 0 0 0 Tryz.underlying43
    go_enter Tryz.func57, Tryz.ntmps57
    go_wp2
    go_ret
    exact ⟨_, rfl, World.ownsRow_nil _ _ _ _, Below.refl _ _⟩
  | some ad =>
    have he := fun w => Lib.run_eql_slice_nil (P := Tryz.prog) w 43 47 (some ad) l.length c 0 0 Tryz.underlying43
    clear hop hnil h
    go_enter Tryz.func57, Tryz.ntmps57
    have hown : (w.alloc (.cells #[] 47)).ownsRow w.heap.size 47 1 (.slice (some ⟨w.heap.size, 0, none⟩) 0 0) 0 [] := World.ownsRow_made w #[] 0 (Nat.le_refl _) (by decide) rfl
    have hsl' := Sl.below hsl ((Below.refl _ _).alloc (Nat.le_refl _) (.cells #[] 47))
    clear hsl
    go_wp2_with (at_builtin; refine wpList_append_sl rfl _ _ 43 rfl w.heap.size 47 i0 (.int .u32 0) 1 4 Tryz.underlying43 hi hz0 hz1 hz2 rfl (by decide) _ _ _ rfl hown _ _ _ rfl hsl' (cellsE_one l) (by unfold maxLen; omega) (by omega) (by simp) ?_; intro v' w' hown' hg')
    go_ret
    refine ⟨_, rfl, by simpa [cellsE] using hown', below_grown ((Below.refl _ _).alloc (Nat.le_refl _) _) hown hg'⟩

theorem SlE.of_owns {w : World} {base : Nat} {v : Value} {l : List Nat} (h : w.ownsRow base 47 1 v l.length (cellsE l)) (hl : ∀ e ∈ l, e < 4294967296) : SlE w v l := ⟨Sl.of_owns h, hl⟩

theorem atS_len {T : Tab Nat} (h : okTab T) (s : List Int) : (atS implW T s).1.length ≤ 8 := by
  cases s with
  | nil => simp [atS]
  | cons c r =>
    unfold atS
    simp only
    have key : ∀ n x, tryS T (c :: r) n = some x → x.1.length ≤ 8 := by
      intro n
      induction n with
      | zero => intro x hx; simp [tryS] at hx
      | succ n ih =>
        intro x hx
        unfold tryS at hx
        split at hx
        · rename_i l hl
          cases hx
          exact h.2.2.2 _ (alook_mem hl)
        · exact ih x hx
    cases hr : tryS T (c :: r) (min 3 (c :: r).length) with
    | none => simp [implW]; split <;> simp
    | some x => exact key _ x hr

set_option maxRecDepth 100000 in
set_option maxHeartbeats 1000000 in
/-- Table.Of: the elements of signs. -/
theorem of_tab (w : World) (p v : Value) (T : Tab Nat) (h : TableAt w p T) (s : List Int) (hs : SlI w v s) (hi64 : ∀ c ∈ s, i64ok c) (hb : s.length ≤ 100000000) :
    Calls Tryz.prog 92 #[p, v] w fun e w' => ∃ lv, e = .returned lv ∧ SlE w' lv (ofS implW T s) ∧ Below w.heap.size w w' := by
  obtain ⟨i0, hi, hz0, hz1, hz2⟩ := info_parts infoElem
  have hokT : okTab T := by obtain ⟨_, _, _, _, _, _, _, _, _, _, _, h⟩ := h; exact h
  obtain ⟨a, cc, hv, _⟩ := hs.open
  have hat := fun (wr : World) (hw : Below w.heap.size w wr) (i : Nat) (hi : i < s.length) => at_any wr p v T (h.below hw) s (hs.below hw) hi64 i hi (by omega)
  have HAT := Lib.hid hat
  have HT := Lib.hid hokT
  clear hat h hs hi64 hokT
  subst hv
  go_enter Tryz.func92, Tryz.ntmps92
  go_wp2_with fail
  go_loopw [5, 6] (fun o i wr => ∃ (k : Nat) (l : List Nat), k ≤ s.length ∧ i = .int .i64 k ∧ wr.ownsRow w.heap.size 47 1 o l.length (cellsE l) ∧ Below w.heap.size w wr ∧ l.length ≤ 8 * k ∧ Hid (ofS implW T s = l ++ ofS implW T (s.drop k)) ∧ Hid (∀ e ∈ l, e < 4294967296)) (fun _ i _ => s.length - (intOf i).toNat)
  case atStart => exact ⟨0, [], Nat.zero_le _, rfl, World.ownsRow_nil _ _ _ _, Below.refl _ _, Nat.le_refl _, Lib.hid rfl, Lib.hid (by simp)⟩
  case round =>
    obtain ⟨k, l, hk, rfl, hown, hnx, hll, hof, hlt⟩ := hrel
    by_cases hk1 : k < s.length
    · have hc := HAT.out wr hnx k hk1
      have hp := atS_pos implW T (s := s.drop k) (by intro h0; have := congrArg List.length h0; rw [List.length_drop] at this; simp at this; omega)
      rw [List.length_drop] at hp
      have h8 := atS_len HT.out (s.drop k)
      have hcons := ofS_cons implW T (s := s.drop k) (by intro h0; have := congrArg List.length h0; rw [List.length_drop] at this; simp at this; omega)
      rw [List.drop_drop] at hcons
      generalize hA : atS implW T (s.drop k) = A at *
      have HA := Lib.hid hA
      have HC := Lib.hid hcons
      clear hA hcons
      obtain ⟨la, n⟩ := A
      go_wp2_with fail
      refine hc.mono ?_
      clear hc
      rintro e w1 ⟨lv, rfl, hlv, hb1⟩
      have hown1 := owns_below hown hb1
      have hw1 := Below.next hnx hb1
      have hsl := hlv.1
      have hlt1 := Lib.hid hlv.2
      clear hlv hb1 hnx hown
      go_wp2_with (at_builtin; refine wpList_append_sl rfl _ _ 43 rfl w.heap.size 47 i0 (.int .u32 0) 1 4 Tryz.underlying43 hi hz0 hz1 hz2 rfl (by decide) _ _ _ rfl hown1 _ _ _ rfl hsl (cellsE_one la) (by unfold maxLen; omega) (by omega) hw1.size ?_; intro v' w2 hown' hg')
      have hw2 := below_grown hw1 hown1 hg'
      have hown2 : w2.ownsRow w.heap.size 47 1 v' (l ++ la).length (cellsE (l ++ la)) := by rw [List.length_append, cellsE_append]; exact hown'
      clear hown' hg' hown1 hw1 hsl
      go_roundw
      case rel => exact ⟨k + n, l ++ la, by omega, by go_num, hown2, hw2, by rw [List.length_append]; omega, Lib.hid (by rw [hof.out, HC.out, List.append_assoc]), Lib.hid (fun e he => by rcases List.mem_append.1 he with he | he; exact hlt.out e he; exact hlt1.out e he)⟩
      case measure => simp [intOf]; omega
    · obtain rfl : k = s.length := by omega
      have hSlE := SlE.of_owns hown hlt.out
      obtain ⟨a', c', rfl, hc', hn'⟩ := owns_slice hown
      have hE : ofS implW T s = l := by rw [hof.out, List.drop_length, ofS_nil, List.append_nil]
      have HE := Lib.hid hE
      have hfin : SlE wr (.slice a' l.length l.length) l := by
        refine ⟨?_, hSlE.2⟩
        obtain ⟨g1, a2, c2, g2, g3, g4, g5⟩ := hSlE.1
        cases g2
        exact ⟨g1, a', l.length, rfl, Nat.le_refl _, (fun h0 => by have := g4 h0; omega), g5⟩
      have HF := Lib.hid hfin
      clear hE hfin hSlE hown hof hlt HAT
      go_wp2_with fail
      refine (clipE_any _ _ _ _ hc' (by omega)).mono ?_
      rintro e w1 ⟨rfl, rfl⟩
      go_wp2_with fail
      go_ret
      exact ⟨_, rfl, by rw [HE.out]; exact HF.out, hnx⟩
end Go.Proofs.YtccdkchmeelkfaaGreatDoor
