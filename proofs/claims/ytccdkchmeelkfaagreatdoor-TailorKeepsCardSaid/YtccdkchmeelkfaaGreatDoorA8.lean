/- The trie's making. -/
import Derived.Test.YtccdkchmeelkfaaGreatDoorA7
import Derived.Test.YtccdkchmeelkfaaGreatDoorA2
import Derived.Shelf.SlIterI.Nil
import Derived.Shelf.SortM.Plain
import Derived.Shelf.SortM.SortNone
import Derived.Ground.GgzProg
import Derived.Ground.SlgmProg
import Derived.Test.YtccdkchmeelkfaaGreatDoorL0
import Derived.Shelf.Abstract
import Derived.Test.YtccdkchmeelkfaaGreatDoorA5

/- (W14) slices.Sorted(maps.Keys(m)) of a trie's blocks, by the shelf. -/
namespace Go.Proofs.YtccdkchmeelkfaaGreatDoor
open Go.RowKit Go.Maps Go.Sort Go.Shelf


theorem sortsB (m : Nat) : AnyZI.SortsIn Tryz.prog Tryz.sortedB_ren Fence.wide m :=
  ⟨fun blk off cap ss W hH hblk hsz => callsIn_wide.2 (AnyM.slices_Sort_int Tryz.sortB blk off cap ss W hH hblk hsz),
   fun p cap W => callsIn_wide.2 (AnyM.slices_Sort_int_none Tryz.sortB p cap W)⟩

/-- maps.Keys of a trie's blocks. -/
theorem keysB_any (w : World) (mb : Option Nat) : Calls Tryz.prog 138 #[.map mb] w fun e w' => e = .returned (.func (.func 171) #[] #[.pointer (some ⟨w.heap.size, 0, none⟩)]) ∧ w' = w.alloc (.cells #[.map mb] 199) :=
  (callsIn_wide (n := 5)).1 (AnyZI.keys_in Tryz.keysB Fence.wide 5 trivial rfl mb w)

/-- slices.Sorted of what maps.Keys of a trie's blocks hands back. -/
theorem sortedB_any (w : World) (b c : Nat) (m : List (Int × Value)) (h : MapAt (Value.int .i64) w b m) (hok : ∀ q ∈ m, i64ok q.1) (hnd : (m.map (·.1)).Nodup) (hl : m.length ≤ 1000000) (hc : w.cell? ⟨c, 0, none⟩ = some (.map (some b))) (hcl : c < w.heap.size) :
    Calls Tryz.prog 137 #[.func (.func 171) #[] #[.pointer (some ⟨c, 0, none⟩)]] w fun e w' => ∃ v, ∃ ss : List Int, e = .returned v ∧ ss.Perm (m.map (·.1)) ∧ w'.ownsRow w.heap.size 3 1 v ss.length (ss.map (Value.int .i64)) ∧ Below w.heap.size w w' := by
  obtain ⟨D, hown, hsz, hkeys⟩ := owns_of_map (k := 3) Tryz.underlying3 h hok hnd hl
  have hseq : SeqGives Fence.wide 2 Tryz.prog 171 #[.pointer (some ⟨c, 0, none⟩)] encZ (fun ss => ss.Perm (intKeys D)) (Maps.size D) w :=
    AnyZI.keys_gives (ρ := Tryz.keysB_ren) { Tryz.keysB with } Fence.wide _ trivial rfl (by omega) c b _ D w hcl hc hown
  have cS := AnyZI.sorted_in Tryz.sortedB Fence.wide 5 trivial trivial trivial trivial rfl (by omega) (sortsB _) (enters_of Tryz.func170 (by kernel_rfl) rfl) 171 #[.pointer (some ⟨c, 0, none⟩)] trivial (enters_of Tryz.func171 (by kernel_rfl) rfl) _ _ (by rw [hsz]; unfold maxLen; omega) (by rw [hsz]; omega) w hseq
  refine (callsIn_wide.1 cS).mono ?_
  rintro e w' ⟨v, ss, rfl, hS, hrow, _, hb⟩
  refine ⟨v, ss.mergeSort (fun x y => decide (x ≤ y)), rfl, (List.mergeSort_perm _ _).trans (hS.trans hkeys), ?_, hb⟩
  rw [List.length_mergeSort]
  exact hrow
end Go.Proofs.YtccdkchmeelkfaaGreatDoor

/- (W15) A trie's pairs in memory; none of them is invalid. -/
namespace Go.Proofs.YtccdkchmeelkfaaGreatDoor
open Go.RowKit Go.Shelf

/-- The cells of pairs. -/
def cellsP (L : List (Int × Nat)) : List Value := L.flatMap fun p => [.int .i64 p.1, .int .i64 (p.2 : Nat)]
theorem cellsP_cons (p : Int × Nat) (L : List (Int × Nat)) : cellsP (p :: L) = .int .i64 p.1 :: .int .i64 (p.2 : Nat) :: cellsP L := rfl
theorem cellsP_append (L M : List (Int × Nat)) : cellsP (L ++ M) = cellsP L ++ cellsP M := by simp [cellsP]
theorem cellsP_length (L : List (Int × Nat)) : (cellsP L).length = L.length * 2 := by
  induction L with
  | nil => rfl
  | cons p r ih => rw [cellsP_cons]; simp [ih]; omega
theorem cellsP_at {L : List (Int × Nat)} {k : Nat} {p : Int × Nat} (h : L[k]? = some p) : (cellsP L)[k * 2]? = some (.int .i64 p.1) ∧ (cellsP L)[k * 2 + 1]? = some (.int .i64 (p.2 : Nat)) := by
  induction L generalizing k with
  | nil => simp at h
  | cons q r ih =>
    rw [cellsP_cons]
    cases k with
    | zero => simp at h; subst h; exact ⟨rfl, rfl⟩
    | succ k =>
      simp at h
      have := ih h
      rw [show (k + 1) * 2 = k * 2 + 1 + 1 by omega]
      simpa using this
/-- A slice of pairs. -/
def SlP (w : World) (v : Value) (L : List (Int × Nat)) : Prop := Sl w 2 v L.length (cellsP L)
theorem SlP.below {w w' : World} {v : Value} {L : List (Int × Nat)} (h : SlP w v L) (hb : Below w.heap.size w w') : SlP w' v L := Sl.below h hb
theorem SlP.open {w : World} {v : Value} {L : List (Int × Nat)} (h : SlP w v L) : ∃ a c, v = .slice a L.length c ∧ L.length ≤ c ∧ (a = none → c = 0) ∧ (0 < L.length → ∃ b o, a = some ⟨b, o, none⟩ ∧ b < w.heap.size ∧ ∀ j x, L[j]? = some x → w.cell? ⟨b, o + j * 2, none⟩ = some (.int .i64 x.1) ∧ w.cell? ⟨b, o + j * 2 + 1, none⟩ = some (.int .i64 (x.2 : Nat))) := by
  obtain ⟨_, a, c, h1, h2, h3, h4⟩ := h
  refine ⟨a, c, h1, h2, h3, fun hl => ?_⟩
  obtain ⟨b, o, e, hb, hc⟩ := h4 hl
  refine ⟨b, o, e, hb, fun j x hj => ⟨hc _ _ (cellsP_at hj).1, ?_⟩⟩
  have := hc _ _ (cellsP_at hj).2
  rwa [← Nat.add_assoc] at this

/-- Pairs that Build takes. -/
def okPairs (L : List (Int × Nat)) : Prop := (∀ p ∈ L, 0 ≤ p.1 ∧ p.1 ≤ 1114367 ∧ p.2 ≤ 3) ∧ (L.map (·.1)).Nodup ∧ L.length ≤ 10000

set_option maxRecDepth 100000 in
set_option maxHeartbeats 1000000 in
theorem noBad_any (w : World) (v : Value) (L : List (Int × Nat)) (h : SlP w v L) (hok : okPairs L) :
    Calls Tryz.prog 134 #[v, .func (.func 135) #[] #[]] w fun e w' => e = .returned (.bool false) ∧ Below w.heap.size w w' := by
  have hp : ∀ (x : Int × Nat) w', x ∈ L → Calls Tryz.prog 135 #[.agg #[.int .i64 x.1, .int .i64 (x.2 : Nat)]] w' fun e w'' => e = .returned (.bool false) ∧ Below w'.heap.size w' w'' := by
    intro x w' hx
    have hx := hok.1 x hx
    have hv := fun w => valid_any w x.1 x.2 hx.1 hx.2.1 (by omega) (by omega)
    clear hx hok h
    go_enter Tryz.func135, Tryz.ntmps135
    go_wp2_with fail
    refine (hv _).mono ?_
    rintro e w1 ⟨rfl, hb⟩
    go_wp2_with fail
    go_ret
    exact ⟨rfl, Below.next ((Below.refl _ _).alloc (Nat.le_refl _) _) hb⟩
  have hidx : Calls Tryz.prog 168 #[v, .func (.func 135) #[] #[]] w fun e w' => e = .returned (.int .i64 (-1)) ∧ Below w.heap.size w w' := by
    have hl : L.length ≤ 10000 := hok.2.2
    obtain ⟨a, c, rfl, _, _, hop⟩ := h.open
    have HP := Lib.hid hp
    have HO := Lib.hid hop
    have eg : ∀ args w, (callFunc 135 args).run Tryz.prog w = .ok (.enter 135 args) w := enters_of Tryz.func135 (by kernel_rfl) rfl
    clear hp hop h hok
    go_enter Tryz.func168, Tryz.ntmps168
    go_wp2_with fail
    go_loopw [8] (fun i wr => ∃ k : Nat, k ≤ L.length ∧ i = .int .i64 k ∧ Below w.heap.size w wr) (fun i _ => L.length - (intOf i).toNat)
    case atStart => exact ⟨0, Nat.zero_le _, rfl, Below.refl _ _⟩
    case round =>
      obtain ⟨k, hk, rfl, hb⟩ := hrel
      by_cases hk1 : k < L.length
      · obtain ⟨b, o, rfl, hbb, hcell⟩ := HO.out (by omega)
        obtain ⟨x, hx⟩ : ∃ x, L[k]? = some x := ⟨L[k], List.getElem?_eq_getElem hk1⟩
        obtain ⟨hc1, hc2⟩ := hcell k x hx
        have hc1 := (hb.cell (p := ⟨b, o + k * 2, none⟩) hbb).trans hc1
        have hc2 := (hb.cell (p := ⟨b, o + k * 2 + 1, none⟩) hbb).trans hc2
        have hcall := HP.out x wr (List.mem_of_getElem? hx)
        clear hcell hx
        go_wp2_with (go_at_call 135; refine hcall.mono ?_; rintro e w' ⟨rfl, hb'⟩)
        go_roundw
        case rel => exact ⟨k + 1, by omega, by go_num, Below.next hb hb'⟩
        case measure => simp [intOf]; omega
      · obtain rfl : k = L.length := by omega
        go_wp2_with fail
        go_ret
        exact ⟨rfl, hb⟩
  clear hp h
  go_enter Tryz.func134, Tryz.ntmps134
  go_wp2_with fail
  refine hidx.mono ?_
  rintro e w1 ⟨rfl, hb⟩
  go_wp2_with fail
  go_ret
  exact ⟨rfl, hb⟩
end Go.Proofs.YtccdkchmeelkfaaGreatDoor

/- (W16) What trie.Build has laid between two rounds of its second loop. -/
namespace Go.Proofs.YtccdkchmeelkfaaGreatDoor
open Go.RowKit Go.Maps

theorem zeroBool (w : World) : (zeroValue 4).run Tryz.prog w = .ok (.bool false) w := by kernel_rfl
theorem zeroBlk (w : World) : (zeroValue 201).run Tryz.prog w = .ok (encB zeroB) w := by kernel_rfl
theorem infoBlk : (Tryz.prog.info? 201).map (fun i => (i.zero, i.size, i.bytes)) = some (some (encB zeroB), 64, 256) := by kernel_rfl
theorem infoBlks : (Tryz.prog.info? 202).map (fun i => (i.zero, i.size, i.bytes)) = some (some (.slice none 0 0), 1, 24) := by kernel_rfl
theorem infoBlkS : (Tryz.prog.info? 201).map (·.size) = some 64 := by kernel_rfl
theorem grown_cell {w w' : World} {row : Option Nat} (h : w.grownBy w' row) {b o : Nat} (hb : b < w.heap.size) (hne : some b ≠ row) : w'.cell? ⟨b, o, none⟩ = w.cell? ⟨b, o, none⟩ := by
  have := h.block b hb hne
  simp [World.cell?, this]
/-- A block just laid. -/
theorem SlBlk (w : World) (b : List Int) (hb : b.length = 64) (n : Nat) (hn : n = w.heap.size) : Sl (w.alloc (.cells (cellsB b).toArray 201)) 64 (.slice (some ⟨n, 0, none⟩) 1 1) 1 (cellsB b) := by
  subst hn
  refine ⟨by simp [cellsB, hb], _, 1, rfl, Nat.le_refl _, (fun h => by cases h), fun _ => ⟨w.heap.size, 0, rfl, by simp, fun j x hj => ?_⟩⟩
  exact new_cells w (cellsB b) _ _ rfl j x hj

theorem fold_set (l : List Value) : ∀ (k : Nat) (arr : Array Value), k + l.length = arr.size → (l.zipIdx k).foldl (fun (cs : Array Value) (x : Value × Nat) => cs.setIfInBounds x.2 x.1) arr = (arr.toList.take k ++ l).toArray := by
  induction l with
  | nil => intro k arr h; simp at h; subst h; rw [List.zipIdx_nil, List.foldl_nil, List.append_nil, show arr.size = arr.toList.length by simp, List.take_length]
  | cons v r ih =>
    intro k arr h
    rw [List.zipIdx_cons, List.foldl_cons, ih (k + 1) _ (by simp at h ⊢; omega)]
    simp only [Array.toList_setIfInBounds]
    congr 1
    have : k < arr.toList.length := by simp at h ⊢; omega
    rw [List.take_add_one, List.getElem?_set_self this, List.take_set_of_le (Nat.le_refl k)]
    simp
theorem fold_blk (b : List Int) (hb : b.length = 64) : List.foldl (fun (cs : Array Value) (x : Value × Nat) => cs.setIfInBounds x.2 x.1) #[Value.int .i32 0, Value.int .i32 0, Value.int .i32 0, Value.int .i32 0, Value.int .i32 0, Value.int .i32 0, Value.int .i32 0, Value.int .i32 0, Value.int .i32 0, Value.int .i32 0, Value.int .i32 0, Value.int .i32 0, Value.int .i32 0, Value.int .i32 0, Value.int .i32 0, Value.int .i32 0, Value.int .i32 0, Value.int .i32 0, Value.int .i32 0, Value.int .i32 0, Value.int .i32 0, Value.int .i32 0, Value.int .i32 0, Value.int .i32 0, Value.int .i32 0, Value.int .i32 0, Value.int .i32 0, Value.int .i32 0, Value.int .i32 0, Value.int .i32 0, Value.int .i32 0, Value.int .i32 0, Value.int .i32 0, Value.int .i32 0, Value.int .i32 0, Value.int .i32 0, Value.int .i32 0, Value.int .i32 0, Value.int .i32 0, Value.int .i32 0, Value.int .i32 0, Value.int .i32 0, Value.int .i32 0, Value.int .i32 0, Value.int .i32 0, Value.int .i32 0, Value.int .i32 0, Value.int .i32 0, Value.int .i32 0, Value.int .i32 0, Value.int .i32 0, Value.int .i32 0, Value.int .i32 0, Value.int .i32 0, Value.int .i32 0, Value.int .i32 0, Value.int .i32 0, Value.int .i32 0, Value.int .i32 0, Value.int .i32 0, Value.int .i32 0, Value.int .i32 0, Value.int .i32 0, Value.int .i32 0] (cellsB b).zipIdx = (cellsB b).toArray := by
  have := fold_set (cellsB b) 0 #[Value.int .i32 0, Value.int .i32 0, Value.int .i32 0, Value.int .i32 0, Value.int .i32 0, Value.int .i32 0, Value.int .i32 0, Value.int .i32 0, Value.int .i32 0, Value.int .i32 0, Value.int .i32 0, Value.int .i32 0, Value.int .i32 0, Value.int .i32 0, Value.int .i32 0, Value.int .i32 0, Value.int .i32 0, Value.int .i32 0, Value.int .i32 0, Value.int .i32 0, Value.int .i32 0, Value.int .i32 0, Value.int .i32 0, Value.int .i32 0, Value.int .i32 0, Value.int .i32 0, Value.int .i32 0, Value.int .i32 0, Value.int .i32 0, Value.int .i32 0, Value.int .i32 0, Value.int .i32 0, Value.int .i32 0, Value.int .i32 0, Value.int .i32 0, Value.int .i32 0, Value.int .i32 0, Value.int .i32 0, Value.int .i32 0, Value.int .i32 0, Value.int .i32 0, Value.int .i32 0, Value.int .i32 0, Value.int .i32 0, Value.int .i32 0, Value.int .i32 0, Value.int .i32 0, Value.int .i32 0, Value.int .i32 0, Value.int .i32 0, Value.int .i32 0, Value.int .i32 0, Value.int .i32 0, Value.int .i32 0, Value.int .i32 0, Value.int .i32 0, Value.int .i32 0, Value.int .i32 0, Value.int .i32 0, Value.int .i32 0, Value.int .i32 0, Value.int .i32 0, Value.int .i32 0, Value.int .i32 0] (by simp [cellsB, hb])
  rw [this]; rfl

structure BSt (w wr : World) (n o : Nat) (kv : Value) (ks : List Int) (own : List (Int × List Int)) (bv rv : Value) (bl : List (List Int)) (fl : List (List Int × Nat)) (il : List (Int × Nat)) : Prop where
  own : MapAt (Value.int .i64) wr o (own.map fun p => (p.1, encB p.2))
  ix : MapAt (Value.int .i64) wr n (il.map fun p => (p.1, Value.int .i64 (p.2 : Nat)))
  fd : MapAt encB wr (n + 2) (fl.map fun p => (p.1, Value.int .i64 (p.2 : Nat)))
  tb : wr.heap[n + 1]? = some (.cells #[bv, .map (some n)] 204 (0, 0))
  row : wr.ownsRow w.heap.size 201 64 rv bl.length (cellsBl bl)
  key : wr.ownsRow w.heap.size 3 1 kv ks.length (ks.map (Value.int .i64))
  below : Below w.heap.size w wr
  size : n + 3 ≤ wr.heap.size
  on : o < n
  wo : w.heap.size ≤ o

section
variable {w wr w' : World} {n o : Nat} {kv : Value} {ks : List Int} {own : List (Int × List Int)} {bv rv : Value} {bl : List (List Int)} {fl : List (List Int × Nat)} {il : List (Int × Nat)}
theorem BSt.next (h : BSt w wr n o kv ks own bv rv bl fl il) (hb : Below wr.heap.size wr w') : BSt w w' n o kv ks own bv rv bl fl il where
  own := h.own.below hb
  ix := h.ix.below hb
  fd := h.fd.below hb
  tb := (hb.block _ (Nat.lt_of_lt_of_le (by omega) h.size)).trans h.tb
  row := owns_below h.row hb
  key := owns_below h.key hb
  below := Below.next h.below hb
  size := Nat.le_trans h.size hb.size
  on := h.on
  wo := h.wo
theorem MapAt.obj {α : Type} {enc : α → Value} {w : World} {r : Nat} {m : List (α × Value)} (h : MapAt enc w r m) : ∃ es clock, w.heap[r]? = some (.map es clock) := by
  obtain ⟨es, clock, h1, _⟩ := h; exact ⟨es, clock, h1⟩
theorem row_ne {w : World} {b1 b2 : Nat} {e1 e2 : TypeId} {k1 k2 n1 n2 : Nat} {v1 v2 : Value} {x1 x2 : List Value} (h1 : w.ownsRow b1 e1 k1 v1 n1 x1) (h2 : w.ownsRow b2 e2 k2 v2 n2 x2) (he : e1 ≠ e2) : v1.ownBlock = none ∨ v1.ownBlock ≠ v2.ownBlock := by
  rcases h2.2 with ⟨rfl, _⟩ | ⟨g, cap, cur, rfl, _, hgb, _⟩
  · by_cases hv : v1.ownBlock = none
    · exact .inl hv
    · exact .inr hv
  · rcases ownsRow_ne_a h1 hgb (fun cur e => he (by cases e; rfl)) with h | h
    · exact .inl h
    · exact .inr h
theorem obj_ne {w : World} {b1 : Nat} {e1 : TypeId} {k1 n1 : Nat} {v1 : Value} {x1 : List Value} (h1 : w.ownsRow b1 e1 k1 v1 n1 x1) {j : Nat} {ob : Obj} (hj : w.heap[j]? = some ob) (hno : ∀ cur, ob ≠ .cells cur e1 (0, 0)) : some j ≠ v1.ownBlock := by
  rcases ownsRow_ne_a h1 hj hno with h | h
  · rw [h]; simp
  · exact fun e => h e.symm

theorem BSt.app (h : BSt w wr n o kv ks own bv rv bl fl il) {v' : Value} {b : List Int} {m : Nat} {xs : List Value} (hm : m = bl.length + 1) (hx : xs = cellsBl bl ++ cellsB b) (h1 : w'.ownsRow w.heap.size 201 64 v' m xs) (hg : wr.grownBy w' rv.ownBlock) : BSt w w' n o kv ks own bv v' (bl ++ [b]) fl il := by
  obtain ⟨e1, c1, m1⟩ := h.own.obj
  obtain ⟨e2, c2, m2⟩ := h.ix.obj
  obtain ⟨e3, c3, m3⟩ := h.fd.obj
  exact {
    own := h.own.grown hg (obj_ne h.row m1 (fun _ e => by cases e))
    ix := h.ix.grown hg (obj_ne h.row m2 (fun _ e => by cases e))
    fd := h.fd.grown hg (obj_ne h.row m3 (fun _ e => by cases e))
    tb := (hg.block _ (Nat.lt_of_lt_of_le (by omega) h.size) (obj_ne h.row h.tb (fun _ e => by cases e))).trans h.tb
    row := by
      have : cellsBl (bl ++ [b]) = xs := by rw [cellsBl_append, cellsBl_one, hx]
      rw [this, List.length_append, List.length_singleton, ← hm]; exact h1
    key := h.key.kept hg (row_ne h.key h.row (by decide))
    below := below_grown h.below h.row hg
    size := Nat.le_trans h.size hg.size
    on := h.on
    wo := h.wo }
theorem BSt.store (h : BSt w wr n o kv ks own bv rv bl fl il) {cur : Array Value} (hc : cur = #[rv, .map (some n)]) (h1 : w'.heap[n + 1]? = some (.cells cur 204 (0, 0))) (hg : wr.grownBy w' (some (n + 1))) : BSt w w' n o kv ks own rv rv bl fl il where
  own := h.own.grown hg (by have := h.on; simp; omega)
  ix := h.ix.grown hg (by simp)
  fd := h.fd.grown hg (by simp)
  tb := by rw [h1, hc]
  row := h.row.kept hg (ownsRow_ne_a h.row h.tb (fun _ e => by cases e))
  key := h.key.kept hg (ownsRow_ne_a h.key h.tb (fun _ e => by cases e))
  below := h.below.grown hg h.below.size (fun k hk => by have := h.on; have := h.wo; simp at hk; omega)
  size := Nat.le_trans h.size hg.size
  on := h.on
  wo := h.wo
theorem BSt.putF (h : BSt w wr n o kv ks own bv rv bl fl il) {b : List Int} {i : Nat} (h1 : MapAt encB w' (n + 2) (aput (fl.map fun p => (p.1, Value.int .i64 (p.2 : Nat))) b (.int .i64 (i : Nat)))) (hg : wr.grownBy w' (some (n + 2))) : BSt w w' n o kv ks own bv rv bl (aput fl b i) il := by
  obtain ⟨e3, c3, m3⟩ := h.fd.obj
  exact {
    own := h.own.grown hg (by have := h.on; simp; omega)
    ix := h.ix.grown hg (by simp)
    fd := by rwa [← aput_map (fun i : Nat => Value.int .i64 (i : Nat)) fl b i]
    tb := (hg.block _ (Nat.lt_of_lt_of_le (by omega) h.size) (by simp)).trans h.tb
    row := h.row.kept hg (ownsRow_ne_a h.row m3 (fun _ e => by cases e))
    key := h.key.kept hg (ownsRow_ne_a h.key m3 (fun _ e => by cases e))
    below := h.below.grown hg h.below.size (fun k hk => by have := h.on; have := h.wo; simp at hk; omega)
    size := Nat.le_trans h.size hg.size
    on := h.on
    wo := h.wo }
theorem BSt.putI (h : BSt w wr n o kv ks own bv rv bl fl il) {c : Int} {i : Nat} (h1 : MapAt (Value.int .i64) w' n (aput (il.map fun p => (p.1, Value.int .i64 (p.2 : Nat))) c (.int .i64 (i : Nat)))) (hg : wr.grownBy w' (some n)) : BSt w w' n o kv ks own bv rv bl fl (aput il c i) := by
  obtain ⟨e3, c3, m3⟩ := h.ix.obj
  exact {
    own := h.own.grown hg (by have := h.on; simp; omega)
    ix := by rwa [← aput_map (fun i : Nat => Value.int .i64 (i : Nat)) il c i]
    fd := h.fd.grown hg (by simp)
    tb := (hg.block _ (Nat.lt_of_lt_of_le (by omega) h.size) (by simp)).trans h.tb
    row := h.row.kept hg (ownsRow_ne_a h.row m3 (fun _ e => by cases e))
    key := h.key.kept hg (ownsRow_ne_a h.key m3 (fun _ e => by cases e))
    below := h.below.grown hg h.below.size (fun k hk => by have := h.on; have := h.wo; simp at hk; omega)
    size := Nat.le_trans h.size hg.size
    on := h.on
    wo := h.wo }
/-- As the second loop's things are made. -/
theorem BSt.made (ho : MapAt (Value.int .i64) wr o (own.map fun p => (p.1, encB p.2))) (hb : Below w.heap.size w wr) (hw : w.heap.size ≤ o) (hon : o < wr.heap.size) :
    BSt w (((wr.alloc (.map #[] 0)).alloc (.cells #[.slice none 0 0, .map (some wr.heap.size)] 204)).alloc (.map #[] 0)) wr.heap.size o (.slice none 0 0) [] own (.slice none 0 0) (.slice none 0 0) [] [] [] := by
  have b0 := fun (u : World) (x : Obj) => (Below.refl u.heap.size u).alloc (Nat.le_refl _) x
  exact {
    own := ((ho.below (b0 _ _)).below (b0 _ _)).below (b0 _ _)
    ix := ((MapAt.made wr _).below (b0 _ _)).below (b0 _ _)
    fd := by have := MapAt.made ((wr.alloc (.map #[] 0)).alloc (.cells #[.slice none 0 0, .map (some wr.heap.size)] 204)) encB; simpa using this
    tb := by
      have h1 := heap_alloc_last (wr.alloc (.map #[] 0)) (.cells #[.slice none 0 0, .map (some wr.heap.size)] 204)
      rw [World.size_alloc] at h1
      exact (Below.heap_alloc _ _ _ (by simp)).trans h1
    row := World.ownsRow_nil _ _ _ _
    key := World.ownsRow_nil _ _ _ _
    below := Below.next (Below.next (Below.next hb (b0 _ _)) (b0 _ _)) (b0 _ _)
    size := by simp
    on := hon
    wo := hw }
theorem trie_done {L : List (Int × Nat)} (h : BSt w wr n o kv ks own bv bv bl fl il) (ht : TrOk own ks ks.length bl fl il) (ho : OwnOk L own) (hL : okPairs L) (hp : ks.Perm (own.map (·.1))) (hl : ks.length ≤ 10000) : TrieAt wr (.pointer (some ⟨n + 1, 0, none⟩)) (fun c => (alook L c).getD 0) := by
  have hk : il.map (·.1) = ks := by rw [ht.ikeys, List.take_length]
  refine ⟨n + 1, bv, bl.length, cellsBl bl, n, il.map fun p => (p.1, Value.int .i64 (p.2 : Nat)), rfl, Nat.lt_of_lt_of_le (by omega) h.size, cell_of_block h.tb rfl, cell_of_block h.tb rfl, ?_, Sl.of_owns h.row, h.ix, ?_, ?_, ?_, ?_, ?_⟩
  · have := ht.blen; omega
  · rw [keys_map (fun i : Nat => Value.int .i64 (i : Nat)), hk]; exact hp.nodup_iff.2 ho.nd
  · intro p hp
    obtain ⟨y, hy, rfl⟩ := List.mem_map.1 hp
    obtain ⟨b', h1, _⟩ := ht.iok y hy
    have := ho.ok _ (alook_mem h1)
    unfold i64ok; simp only at this ⊢; omega
  · intro i v hv
    rw [alook_map (fun i : Nat => Value.int .i64 (i : Nat))] at hv
    cases hi : alook il i with
    | none => rw [hi] at hv; cases hv
    | some k =>
      rw [hi] at hv
      obtain ⟨b', h1, h2⟩ := ht.iok _ (alook_mem hi)
      simp only at h1 h2
      refine ⟨k, (List.getElem?_eq_some_iff.1 h2).1, (Option.some.inj hv).symm, fun j hj => ⟨(ho.ok _ (alook_mem h1)).1, ?_⟩⟩
      have h3 := ho.val i j hj
      rw [h1, Option.getD_some] at h3
      exact cellsBl_at ht.bok h2 hj h3
  · intro c hc
    have out : (c < 0 ∨ 1114367 < c) → (alook L c).getD 0 = 0 := by
      intro hc
      cases hk : alook L c with
      | none => rfl
      | some v => have := hL.1 _ (alook_mem hk); simp only at this; omega
    rcases hc with hc | hc | hc
    · exact out (.inl hc)
    · exact out (.inr hc)
    · have h1 : alook il (c / 64) = none := by
        rw [alook_map (fun i : Nat => Value.int .i64 (i : Nat))] at hc
        cases hi : alook il (c / 64) with
        | none => rfl
        | some k => rw [hi] at hc; cases hc
      have h2 : alook own (c / 64) = none := by
        refine alook_none fun p hp' e => ?_
        have h3 : p.1 ∈ ks := hp.mem_iff.2 (List.mem_map.2 ⟨p, hp', rfl⟩)
        rw [← hk] at h3
        obtain ⟨y, hy, e2⟩ := List.mem_map.1 h3
        exact alook_none_iff.1 h1 y hy (by rw [e2, e])
      have h3 := ho.val (c / 64) (c % 64).toNat (by omega)
      rw [h2, Option.getD_none, show c / 64 * 64 + (((c % 64).toNat : Nat) : Int) = c by omega] at h3
      have h4 : zeroB[(c % 64).toNat]? = some 0 := by
        show (List.replicate 64 (0 : Int))[_]? = _
        rw [List.getElem?_replicate, if_pos (by omega)]
      rw [h4] at h3
      have h5 := Option.some.inj h3
      show (alook L c).getD 0 = 0
      omega
  · intro c
    simp only
    cases hk : alook L c with
    | none => exact Nat.zero_le 3
    | some v => exact (hL.1 _ (alook_mem hk)).2.2
end
end Go.Proofs.YtccdkchmeelkfaaGreatDoor
