/- A table's entries. -/
import Derived.Test.YtccdkchmeelkfaaGreatDoorA14
import Derived.Shelf.SlSortCmp.NoneTotal
import Derived.Deep.LoopGhost

/- (W23) Table.Entries: the entries, in memory of the call's own, in whatever order. -/
namespace Go.Proofs.YtccdkchmeelkfaaGreatDoor
open Go.RowKit Go.Shelf Go.Sort

/-- Entries in memory. -/
structure EntriesAt (w : World) (base : Nat) (v : Value) (E : List EntM) : Prop where
  row : Sl w 2 v E.length (E.flatMap encE)
  key : ∀ x ∈ E, SlI w x.kv x.k ∧ okKey x.k
  own : ∀ x ∈ E, OwnE w base x.ev x.l
  apart : E.Pairwise fun x y => x.ev.ownBlock = none ∨ x.ev.ownBlock ≠ y.ev.ownBlock
  tyr : E = [] ∨ ∃ g cur, v.ownBlock = some g ∧ w.heap[g]? = some (.cells cur 45 (0, 0))
  tyk : ∀ x ∈ E, w.ownsRow base 3 1 x.kv x.k.length (x.k.map (Value.int .i64))

theorem clipN_any (w : World) (a : Option Addr) (n c : Nat) (hn : n ≤ c) (_h1 : n ≤ 1000000000) : Calls Tryz.prog 63 #[.slice a n c] w fun e w' => e = .returned (.slice a n n) ∧ w = w' := by
  go_enter Tryz.func63, Tryz.ntmps63
  go_wp2
  go_ret
  exact ⟨rfl, rfl⟩

theorem infoEntry : (Tryz.prog.info? 45).map (fun i => (i.zero, i.size, i.bytes)) = some (some (.agg #[.slice none 0 0, .slice none 0 0]), 2, 48) := by kernel_rfl

/-- What the loop has laid. -/
structure EntL (w wr : World) (r : Value) (E : List EntM) : Prop where
  row : wr.ownsRow w.heap.size 45 2 r E.length (E.flatMap encE)
  key : ∀ x ∈ E, wr.ownsRow w.heap.size 3 1 x.kv x.k.length (x.k.map (Value.int .i64)) ∧ okKey x.k
  own : ∀ x ∈ E, OwnE wr w.heap.size x.ev x.l
  apart : E.Pairwise fun x y => x.ev.ownBlock = none ∨ x.ev.ownBlock ≠ y.ev.ownBlock
  below : Below w.heap.size w wr

theorem EntL.next {w wr w' : World} {r : Value} {E : List EntM} (h : EntL w wr r E) (hb : Below wr.heap.size wr w') : EntL w w' r E where
  row := owns_below h.row hb
  key x hx := ⟨owns_below (h.key x hx).1 hb, (h.key x hx).2⟩
  own x hx := (h.own x hx).below hb
  apart := h.apart
  below := Below.next h.below hb
theorem EntL.turn {w wr w' : World} {r : Value} {E : List EntM} {j : Nat} {o : Obj} (h : EntL w wr r E) (hg : wr.grownBy w' (some j)) (hj : wr.heap[j]? = some o) (hno : ∀ cur t, o ≠ .cells cur t (0, 0)) (hbase : w.heap.size ≤ j) : EntL w w' r E where
  row := h.row.kept hg (ownsRow_ne_a h.row hj (fun c => hno c _))
  key x hx := ⟨(h.key x hx).1.kept hg (ownsRow_ne_a (h.key x hx).1 hj (fun c => hno c _)), (h.key x hx).2⟩
  own x hx := (h.own x hx).grown hg ((h.own x hx).obj hj (fun c => hno c _))
  apart := h.apart
  below := h.below.grown hg h.below.size (fun k hk => by simp at hk; omega)
theorem OwnE.base {w : World} {b b' : Nat} {v : Value} {l : List Nat} (h : OwnE w b v l) (hb : b' ≤ b) : OwnE w b' v l := by
  obtain ⟨h0, h | ⟨g, c, cur, hv, h1, h2⟩⟩ := h
  · exact ⟨h0, .inl h⟩
  · exact ⟨h0, .inr ⟨g, c, cur, hv, Nat.le_trans hb h1, h2⟩⟩
theorem EntL.app {w wr w' : World} {r r' : Value} {E : List EntM} {x : EntM} {n : Nat} {xs : List Value} {lo : Nat} (h : EntL w wr r E) (hn : n = E.length + 1) (hx : xs = E.flatMap encE ++ encE x) (hrow : w'.ownsRow w.heap.size 45 2 r' n xs) (hg : wr.grownBy w' r.ownBlock)
    (hk : wr.ownsRow w.heap.size 3 1 x.kv x.k.length (x.k.map (Value.int .i64))) (hkk : okKey x.k) (ho : OwnE wr lo x.ev x.l) (hlo : w.heap.size ≤ lo) (hnew : ∀ y ∈ E, ∀ b, y.ev.ownBlock = some b → b < lo) : EntL w w' r' (E ++ [x]) := by
  have own : ∀ {b : Nat} {v : Value} {l : List Nat}, OwnE wr b v l → OwnE w' b v l := fun hv => by
    refine hv.grown hg ?_
    obtain ⟨_, hr⟩ := h.row
    rcases hr with ⟨rfl, _⟩ | ⟨g, cap, cur, rfl, _, hgb, _⟩
    · cases hvb : Value.ownBlock _ with
      | none => exact .inl rfl
      | some b => exact .inr (by simp [Value.ownBlock])
    · exact hv.obj hgb (fun c e => by cases e)
  exact {
    row := by
      have e1 : (E ++ [x]).flatMap encE = xs := by rw [hx]; simp
      rw [e1, List.length_append, List.length_singleton, ← hn]; exact hrow
    key := fun y hy => by
      rcases List.mem_append.1 hy with hy | hy
      · exact ⟨(h.key y hy).1.kept hg (row_ne (h.key y hy).1 h.row (by decide)), (h.key y hy).2⟩
      · simp at hy; subst hy; exact ⟨hk.kept hg (row_ne hk h.row (by decide)), hkk⟩
    own := fun y hy => by
      rcases List.mem_append.1 hy with hy | hy
      · exact own (h.own y hy)
      · simp at hy; subst hy; exact own (ho.base hlo)
    apart := by
      rw [List.pairwise_append]
      refine ⟨h.apart, by simp, fun y hy z hz => ?_⟩
      simp at hz; subst hz
      cases hb : y.ev.ownBlock with
      | none => exact .inl rfl
      | some b =>
        refine .inr fun e => ?_
        have h1 := hnew y hy b hb
        have h2 := (ho.blt e.symm).1
        omega
    below := below_grown h.below h.row hg }

/-- Entries of a map that are still to come, and what they are. -/
def Par (w : World) (left : List (K3 × Value)) (lT : Tab Nat) : Prop := left.map (·.1) = lT.map (fun e => k3 e.1) ∧ ∀ (i : Nat) (q : K3 × Value) (e : List Int × List Nat), left[i]? = some q → lT[i]? = some e → SlE w q.2 e.2
theorem Par.erase {w : World} {left : List (K3 × Value)} {lT : Tab Nat} (h : Par w left lT) (i : Nat) : Par w (left.eraseIdx i) (lT.eraseIdx i) := by
  refine ⟨by rw [map_erase, map_erase, h.1], fun j q e hq he => ?_⟩
  rw [List.getElem?_eraseIdx] at hq he
  split at hq
  · rename_i hj; rw [if_pos hj] at he; exact h.2 _ _ _ hq he
  · rename_i hj; rw [if_neg hj] at he; exact h.2 _ _ _ hq he
end Go.Proofs.YtccdkchmeelkfaaGreatDoor

/- (W24) Table.Entries, walked. -/
namespace Go.Proofs.YtccdkchmeelkfaaGreatDoor
open Go.RowKit Go.Shelf Go.Sort

set_option maxRecDepth 100000 in
set_option maxHeartbeats 4000000 in
theorem entries_any (w : World) (p : Value) (T : Tab Nat) (h : TableAt w p T) :
    Calls Tryz.prog 25 #[p] w fun e w' => ∃ v E, e = .returned v ∧ EntriesAt w' w.heap.size v E ∧ (E.map fun x => (x.k, x.l)).Perm T ∧ Below w.heap.size w w' := by
  obtain ⟨tb, mb, tp, T', rfl, ht, hc0, hc1, htr, hen, hperm, hok⟩ := h
  obtain ⟨m, hm, h2, h3⟩ := hen
  have hml : m.length ≤ 500 := by
    have := congrArg List.length h2
    simp at this
    rw [this, hperm.length_eq]; exact hok.2.2.1
  have HT := Lib.hid (And.intro (show Par w m T' from ⟨h2, h3⟩) (And.intro hperm hok))
  have hmb := hm.lt
  clear htr hc1 hperm hok h2 h3
  obtain ⟨i0, hi, hz0, hz1, hz2⟩ := info_parts infoEntry
  go_enter Tryz.func25, Tryz.ntmps25
  go_wp2_with (at_range; refine wpList_range_at rfl _ rfl Tryz.underlying88 rfl hm ?_; intro w0 hit0 hg0 hs0)
  have hw0 : Below w.heap.size w w0 := (Below.refl _ _).grown hg0 (Nat.le_refl _) (fun k hk => by cases hk)
  clear hg0 hm
  go_frame
  go_loopg [3] m.length (fun gg r wr => ∃ left E lT, IterAt encK wr w.heap.size mb m left ∧ EntL w wr r E ∧ w.heap.size + 1 ≤ wr.heap.size ∧ left.length ≤ gg ∧ Hid (Par w left lT ∧ ((E.map fun x => (x.k, x.l)) ++ lT).Perm T'))
  case atStart => exact ⟨m, [], T', hit0, ⟨World.ownsRow_nil _ _ _ _, by simp, by simp, by simp, hw0⟩, by omega, Nat.le_refl _, Lib.hid ⟨HT.out.1, by simp⟩⟩
  case round =>
    obtain ⟨left, E, lT, hit, hL, hsz, hgg, hI⟩ := hrel
    clear hit0 hw0 hs0
    obtain ⟨wo, rfl⟩ : ∃ wo : World, wo = wr := ⟨_, rfl⟩
    go_wp2_with (at_next; refine wpList_next_seq rfl _ rfl rfl hit (fun hl => ?_) (fun i x1 x2 x3 v w1 hi1 hit1 hg1 hs1 hen => ?_))
    · subst hl
      have hlT : lT = [] := by have := hI.out.1.1; simpa using this
      have hpm : (E.map fun x => (x.k, x.l)).Perm T := by
        have := hI.out.2
        rw [hlT, List.append_nil] at this
        exact this.trans HT.out.2.1
      have hEl : E.length ≤ 500 := by
        have h1 := hpm.length_eq
        have h3 := HT.out.2.2.2.2.1
        simp at h1; omega
      have hev : ∀ x ∈ E, x.ev.cells.size = 1 ∧ x.ev.oneCell' = true := fun x hx => by
        obtain ⟨_, ⟨e, _⟩ | ⟨g, c, cur, e, _⟩⟩ := hL.own x hx <;> rw [e] <;> exact ⟨rfl, rfl⟩
      have HP := Lib.hid (And.intro hpm hev)
      obtain ⟨a3, c3, rfl, hc3, _⟩ := owns_slice hL.row
      have HL := Lib.hid hL
      clear hpm hlT hev hit hI hgg hsz
      by_cases h0 : E.length = 0
      · have hE0 : E = [] := List.eq_nil_of_length_eq_zero h0
        subst hE0
        have hsn := AnyF.slices_SortFunc_none Tryz.sortE a3 c3 (.func (.func 59) #[] #[]) wo
        refine hsn.mono ?_
        rintro e w5 ⟨rfl, rfl⟩
        clear hL
        go_wp2_with (go_at_call 63; refine (clipN_any w5 a3 0 c3 (by omega) (by omega)).mono ?_; rintro e' w' ⟨rfl, rfl⟩)
        go_ret
        exact ⟨_, [], rfl, ⟨Sl.nil w5 2 0 a3 (fun _ => rfl), by simp, by simp, by simp, .inl rfl, by simp⟩, HP.out.1, HL.out.below⟩
      · obtain ⟨g, rfl⟩ : ∃ g, a3 = some ⟨g, 0, none⟩ := by
          obtain ⟨_, hr⟩ := hL.row
          rcases hr with ⟨hn, hz⟩ | ⟨g, cap, cur, hv, _⟩
          · exact absurd hz h0
          · exact ⟨g, by simpa using (Value.slice.inj hv).1⟩
        have hrow := hL.row
        obtain ⟨_, hr⟩ := hrow
        rcases hr with ⟨hn, hz⟩ | ⟨g', cap, cur, hv, hbase, hgb, _⟩
        · exact absurd hz h0
        cases hv
        have hso := esort_any wo w.heap.size g c3 E (by omega) (by omega) hL.row (fun x hx => ⟨(hL.key x hx).1, (hL.key x hx).2, HP.out.2 x hx⟩)
        have HG := Lib.hid (And.intro hbase hgb)
        clear hL hbase hgb
        refine hso.mono ?_
        rintro e w5 ⟨rfl, E', hpe, hrow', hg5⟩
        have HR := Lib.hid (And.intro hpe (And.intro hrow' hg5))
        clear hpe hrow' hg5 hso
        go_wp2_with (go_at_call 63; refine (clipN_any w5 (some ⟨g, 0, none⟩) E.length c3 hc3 (by omega)).mono ?_; rintro e' w' ⟨rfl, rfl⟩)
        go_ret
        obtain ⟨hpe, hrow', hg5⟩ := HR.out
        have hlen := hpe.length_eq
        refine ⟨_, E', rfl, ⟨?_, fun x hx => ?_, fun x hx => ?_, ?_, ?_, fun x hx => ?_⟩, (hpe.map _).trans HP.out.1, HL.out.below.grown hg5 HL.out.below.size (fun k hk => by simp at hk; have := HG.out.1; omega)⟩
        · have h1 := Sl.of_owns hrow'
          obtain ⟨q1, a, c, q2, q3, q4, q5⟩ := h1
          cases q2
          rw [hlen]
          exact ⟨q1, _, E.length, rfl, Nat.le_refl _, (fun h => by cases h), q5⟩
        · have hx' := hpe.mem_iff.1 hx
          have hk := (HL.out.key x hx').1
          exact ⟨Sl.grown (Sl.of_owns hk) hg5 (ownsRow_ne_a hk HG.out.2 (fun _ e => by cases e)), (HL.out.key x hx').2⟩
        · have hx' := hpe.mem_iff.1 hx
          exact (HL.out.own x hx').grown hg5 ((HL.out.own x hx').obj HG.out.2 (fun _ e => by cases e))
        · refine (hpe.pairwise_iff ?_).2 HL.out.apart
          intro x y hxy
          rcases hxy with h | h
          · cases hy : y.ev.ownBlock with
            | none => exact .inl rfl
            | some b => exact .inr (by rw [h]; simp)
          · exact .inr (fun e => h e.symm)
        · obtain ⟨_, hr⟩ := hrow'
          rcases hr with ⟨hn, hz⟩ | ⟨g', cap, cur, hv, _, hgb, _⟩
          · exact absurd hz h0
          · cases hv; exact .inr ⟨g, cur, rfl, hgb⟩
        · have hk := (HL.out.key x (hpe.mem_iff.1 hx)).1
          exact hk.kept hg5 (ownsRow_ne_a hk HG.out.2 (fun _ e => by cases e))
    · obtain ⟨e, he, hke, hve⟩ := k3_of_mem hI.out.1.1 hI.out.1.2 hi1
      simp only at hke hve
      have heT : e ∈ T' := hI.out.2.mem_iff.1 (List.mem_append_right _ (List.mem_of_getElem? he))
      have hek := HT.out.2.2.1 e (HT.out.2.1.mem_iff.1 heT)
      have hel : e.2.length ≤ 8 := HT.out.2.2.2.2.2 e (HT.out.2.1.mem_iff.1 heT)
      have hEl : E.length ≤ 500 := by
        have h1 := hI.out.2.length_eq
        have h2 := HT.out.2.1.length_eq
        have h3 := HT.out.2.2.2.2.1
        simp at h1; omega
      have hsg := fun w => signs_any w e.1 hek
      rw [← hke] at hsg
      simp only [encK] at hsg
      obtain ⟨_, _, _, _, _, _, _, hob, _⟩ := id hit
      have hL1 := hL.turn hg1 hob (fun _ _ e => by cases e) (Nat.le_refl _)
      have H4 := Lib.hid (And.intro hi1 (And.intro he (And.intro hke (And.intro hve hek))))
      clear hi1 he hke hve heT hek hit hg1 hen hob hL
      refine (hsg _).mono ?_
      clear hsg
      rintro e' w2 ⟨kv, rfl, hkv, hb2⟩
      have b1 := fun (u : World) => (Below.refl u.heap.size u).alloc (Nat.le_refl _) (.cells #[.int .i64 x1, .int .i64 x2, .int .i64 x3] 93)
      have hL2 := (hL1.next (b1 w1)).next hb2
      have hit2 := (hit1.below (b1 w1)).below hb2
      have hkv2 := ownsRow_base_a hkv (Nat.le_trans hL1.below.size (b1 w1).size)
      have hsz2 : w.heap.size + 1 ≤ w2.heap.size := by have := hb2.size; simp at this; omega
      have hve2 : SlE w2 v e.2 := H4.out.2.2.2.1.below hL2.below
      have hcl := cloneE_any w2 v e.2 hve2 (by omega)
      clear hL1 hit1 hkv hb2 hs1 b1 hve2
      obtain ⟨a4, c4, rfl, hc4, hn4⟩ := owns_slice hkv2
      go_wp2_with fail
      refine hcl.mono ?_
      rintro e' w3 ⟨ev, rfl, hev, hb3⟩
      obtain ⟨a5, c5, rfl, hc5, hn5⟩ := owns_slice hev
      have hL3 := hL2.next hb3
      have hit3 := hit2.below hb3
      have hkv3 := owns_below hkv2 hb3
      have hoe := OwnE.clip hev H4.out.2.2.2.1.2
      have hsz3 := Nat.le_trans hsz2 hb3.size
      have hw2w := hL2.below.size
      have hnew : ∀ y ∈ E, ∀ b, y.ev.ownBlock = some b → b < w2.heap.size := fun y hy b hb => ((hL2.own y hy).blt hb).2
      have HNW := Lib.hid hnew
      clear hL2 hit2 hkv2 hb3 hcl hn4 hn5 hev hnew
      go_wp2_with (first
        | (go_at_call 56; refine (clipE_any w3 a5 e.2.length c5 hc5 (by omega)).mono ?_; rintro e' w' ⟨rfl, rfl⟩)
        | (at_builtin; go_loud (refine wpList_append_sl rfl _ _ 41 rfl w.heap.size 45 i0 (.agg #[.slice none 0 0, .slice none 0 0]) 2 48 Tryz.underlying41 hi hz0 hz1 hz2 rfl (by decide) _ _ _ rfl (owns_below hL3.row ((Below.refl _ _).alloc (Nat.le_refl _) _)) _ 1 [.slice a4 e.1.length c4, .slice a5 e.2.length e.2.length] rfl (SlNew2 _ _ _ _ _ rfl) (by intro u hu; simp at hu; rcases hu with rfl | rfl <;> rfl) (by unfold maxLen; omega) (by omega) (by have := hL3.below.size; simp; omega) ?_; intro v6 w6 hown6 hg6)))
      have b1 := (Below.refl w3.heap.size w3).alloc (Nat.le_refl _) (.cells #[.slice a4 e.1.length c4, .slice a5 e.2.length e.2.length] 45)
      have hL4 := (hL3.next b1).app (x := ⟨.slice a4 e.1.length c4, .slice a5 e.2.length e.2.length, e.1, e.2⟩) rfl rfl hown6 hg6 (owns_below hkv3 b1) H4.out.2.2.2.2 (hoe.below b1) hw2w HNW.out
      have hitA := hit3.below b1
      have hitB := hitA
      obtain ⟨_, _, _, hrb, _, _, _, hob, _⟩ := hitB
      have hit4 := hitA.grown hg6 (obj_ne (hL3.next b1).row hrb (fun _ e => by cases e)) (obj_ne (hL3.next b1).row hob (fun _ e => by cases e))
      have hsz4 : w.heap.size + 1 ≤ w6.heap.size := Nat.le_trans (Nat.le_trans hsz3 b1.size) hg6.size
      have HE := Lib.hid (And.intro hL4 hit4)
      clear hL3 hit3 hitA hrb hob hL4 hit4 hown6 hg6 hkv3 hoe b1 hc4 hc5
      go_roundg (left.eraseIdx i).length
      case measure =>
        have hlt : i < left.length := (List.getElem?_eq_some_iff.1 H4.out.1).1
        rw [List.length_eraseIdx_of_lt hlt]; omega
      case rel =>
        refine ⟨left.eraseIdx i, _, lT.eraseIdx i, HE.out.2, HE.out.1, hsz4, Nat.le_refl _, Lib.hid ⟨hI.out.1.erase i, ?_⟩⟩
        rw [List.map_append]
        exact perm_take_out hI.out.2 H4.out.2.1
end Go.Proofs.YtccdkchmeelkfaaGreatDoor
