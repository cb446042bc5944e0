/- The first table. -/
import Derived.Test.YtccdkchmeelkfaaGreatDoorA18
import Derived.Test.YtccdkchmeelkfaaGreatDoorA16
import Derived.Laws.RangeAny
import Derived.Deep.RegionHeld3
import Derived.IntWalk

/- (W32) table.Root: its closure; what has been put. -/
namespace Go.Proofs.YtccdkchmeelkfaaGreatDoor
open Go.RowKit Go.Shelf Go.Maps

theorem aput_take {α β : Type} [DecidableEq α] {l : List (α × β)} (hn : (l.map (·.1)).Nodup) {n : Nat} {p : α × β} (hp : l[n]? = some p) : aput (l.take n) p.1 p.2 = l.take (n + 1) := by
  rw [aput_new, List.take_add_one, hp]
  · rfl
  · refine alook_none fun q hq e => ?_
    obtain ⟨i, hi⟩ := List.getElem?_of_mem hq
    rw [List.getElem?_take] at hi
    split at hi
    · rename_i hin
      have h1 : (l.map (·.1))[i]? = some p.1 := by rw [List.getElem?_map, hi]; exact congrArg some e
      have h2 : (l.map (·.1))[n]? = some p.1 := by rw [List.getElem?_map, hp]; rfl
      have := (List.getElem?_inj (List.getElem?_eq_some_iff.1 h1).1 hn).1 (h1.trans h2.symm)
      omega
    · cases hi

/-- A map that is written leaves slices alone. -/
theorem Sl.mapoff {w w' : World} {k n mb : Nat} {v : Value} {xs : List Value} {es : Array MapEntry} {ck : Nat} (h : Sl w k v n xs) (hg : w.grownBy w' (some mb)) (hm : w.heap[mb]? = some (.map es ck)) (hk : 0 < k) : Sl w' k v n xs := by
  obtain ⟨h1, a, c, h2, h3, h3', h4⟩ := h
  refine ⟨h1, a, c, h2, h3, h3', fun hn => ?_⟩
  obtain ⟨b, o, h5, h6, h7⟩ := h4 hn
  have hne : b ≠ mb := by
    rintro rfl
    have hp : 0 < xs.length := by rw [h1]; exact Nat.mul_pos hn hk
    have := h7 0 xs[0] (List.getElem?_eq_getElem hp)
    simp [World.cell?, hm] at this
  exact ⟨b, o, h5, Nat.lt_of_lt_of_le h6 hg.size, fun j x hj => (grown_cell' hg h6 hne).trans (h7 j x hj)⟩
theorem SlE.mapoff {w w' : World} {mb : Nat} {v : Value} {l : List Nat} {es : Array MapEntry} {ck : Nat} (h : SlE w v l) (hg : w.grownBy w' (some mb)) (hm : w.heap[mb]? = some (.map es ck)) : SlE w' v l := ⟨Sl.mapoff h.1 hg hm (by decide), h.2⟩

/-- The first n entries of the first table lie in the map. -/
structure RtAt (w : World) (xb mb n : Nat) : Prop where
  box : w.heap[xb]? = some (.cells #[.map (some mb)] 88 (0, 0))
  ents : EntsAt w mb (rootS.take n)
theorem RtAt.below {w w' : World} {xb mb n : Nat} (h : RtAt w xb mb n) (hb : Below w.heap.size w w') : RtAt w' xb mb n := ⟨blk_below h.box hb, h.ents.below hb⟩

set_option maxRecDepth 100000 in
set_option maxHeartbeats 2000000 in
theorem put1_any (w : World) (xb mb n : Nat) (h : RtAt w xb mb n) (c : Int) (l : List Nat) (hx : rootS[n]? = some ([c], l)) (v : Value) (hv : SlE w v l) :
    Calls Tryz.prog 50 #[.int .i64 c, v, .pointer (some ⟨xb, 0, none⟩)] w fun e w' => e = .returned (.tuple #[]) ∧ RtAt w' xb mb (n + 1) ∧ w.grownBy w' (some mb) := by
  obtain ⟨m, hm, h2, h3⟩ := h.ents
  have hko : ∀ e ∈ rootS.take n, okKey e.1 := fun e he => rootS_ok.1 e (List.mem_of_mem_take he)
  have hnd : ((rootS.take n).map (·.1)).Nodup := by rw [List.map_take]; exact rootS_keys.sublist (List.take_sublist _ _)
  have hkc : okKey [c] := rootS_ok.1 _ (List.mem_of_getElem? hx)
  have hci := isSign_bd (hkc.2.2 c (by simp))
  obtain ⟨hc0, hc9⟩ := hci
  have hok3 : ∀ q ∈ m, ok3 q.1 := by
    intro q hq
    have : q.1 ∈ (rootS.take n).map (fun e => k3 e.1) := by rw [← h2]; exact List.mem_map.2 ⟨q, hq, rfl⟩
    obtain ⟨e, he, e1⟩ := List.mem_map.1 this
    rw [← e1]; exact k3_ok (hko e he)
  have hnd3 : (m.map (·.1)).Nodup := by rw [h2]; exact k3_map_nodup hko hnd
  have hk3 : k3 [c] = (c + 1, 0, 0) := rfl
  have hkx3 : ok3 (c + 1, 0, 0) := by rw [← hk3]; exact k3_ok hkc
  have c0 := cell_of_block (i := 0) h.box rfl
  obtain ⟨va, vc, rfl, _, _⟩ := hv.open
  have H := Lib.hid (And.intro h (And.intro hm (And.intro h2 (And.intro h3 (And.intro hko (And.intro hkc (And.intro hv hx)))))))
  have HN := Lib.hid (And.intro hok3 (And.intro hnd3 hkx3))
  clear h hm h2 h3 hko hkc hv hok3 hnd3 hkx3 hx hnd hk3
  go_enter Tryz.func50, Tryz.ntmps50
  go_wp2_with (at_mapUpdate; refine wpList_put_at rfl _ _ _ rfl kl_seq Tryz.underlying88 rfl (k := (c + 1, 0, 0)) rfl rfl H.out.2.1 HN.out.1 HN.out.2.1 HN.out.2.2 ?_; intro w4 hM4 hg4 hz4)
  go_end0
  obtain ⟨h, hm, h2, h3, hko, hkc, hv, hx⟩ := H.out
  obtain ⟨es, ck, hob⟩ := hm.obj
  have hvw := hv.mapoff hg4 hob
  obtain ⟨e1, e2⟩ := ents_put h2 (fun i q e hq he => (h3 i q e hq he).mapoff hg4 hob) hko hkc hvw
  have ht := aput_take rootS_keys hx
  refine ⟨rfl, ⟨blk_grown h.box hg4 (fun e => by have := h.box; rw [e, hob] at this; cases this), ?_⟩, hg4⟩
  rw [← ht]
  exact ⟨_, hM4, e1, e2⟩
end Go.Proofs.YtccdkchmeelkfaaGreatDoor

/- (M12) A range over a text whose runes are one byte each, the iterator at its place. Of no program. -/
namespace Go.Proofs.YtccdkchmeelkfaaGreatDoor
open Go.RowKit

section
variable {P : Program} {w : World} {ib : Nat} {s : ByteArray} {pos : Nat}
theorem run_nextS (ty : TypeId) (h : w.heap[ib]? = some (.stringIter s pos)) (hp : pos < s.size) {r : Nat} (hd : Utf8.decode s pos = (r, 1)) :
    ∃ w', (Instr.next (.pointer (some ⟨ib, 0, none⟩)) true ty).run P w = .ok (.tuple #[.bool true, .int .i64 pos, .int .i32 r]) w' ∧ w'.heap[ib]? = some (.stringIter s (pos + 1)) ∧ w.grownBy w' (some ib) := by
  have hlt := (Array.getElem?_eq_some_iff.1 h).1
  refine ⟨{ w with heap := w.heap.setIfInBounds ib (.stringIter s (pos + 1)) }, ?_, ?_, ⟨rfl, rfl, rfl, by simp, fun k hk hne => ?_⟩⟩
  · simp only [Instr.next, getObj, setObj, Sem.run_bind, Sem.run, h, Result.andThen, hp, if_true, hd]
    simp [goInt]
  · simp [hlt]
  · simp only [Array.getElem?_setIfInBounds]
    rw [if_neg (fun e => hne (by rw [e]))]
theorem run_nextS_end (ty : TypeId) (h : w.heap[ib]? = some (.stringIter s pos)) (hp : ¬ pos < s.size) :
    (Instr.next (.pointer (some ⟨ib, 0, none⟩)) true ty).run P w = .ok (.tuple #[.bool false]) w := by
  simp [Instr.next, getObj, Sem.run, h, hp]

theorem wpList_nextS {ops : Array Oper} {rest : List Oper} {o : Oper} {a : Act} {Q : Exit → Act → World → Prop} (hg : o.guard = none) (x : Operand) (hop : o.op = Op.next x true) (hx : a.eval x = .pointer (some ⟨ib, 0, none⟩)) (h : w.heap[ib]? = some (.stringIter s pos)) (hp : pos < s.size) {r : Nat} (hd : Utf8.decode s pos = (r, 1))
    (hK : ∀ w', w'.heap[ib]? = some (.stringIter s (pos + 1)) → w.grownBy w' (some ib) → wpList P ops Q rest (a.put o.dst (.tuple #[.bool true, .int .i64 pos, .int .i32 r])) w') : wpList P ops Q (o :: rest) a w := by
  refine wpList_plain hg fun K' hK' => ?_
  obtain ⟨w', hrun, h1, h2⟩ := run_nextS (P := P) o.type h hp hd
  unfold Oper.wp
  simp [execOp, hop, hx, hrun, Result.andThen]
  exact hK' _ _ (hK w' h1 h2)
theorem wpList_nextS_end {ops : Array Oper} {rest : List Oper} {o : Oper} {a : Act} {Q : Exit → Act → World → Prop} (hg : o.guard = none) (x : Operand) (hop : o.op = Op.next x true) (hx : a.eval x = .pointer (some ⟨ib, 0, none⟩)) (h : w.heap[ib]? = some (.stringIter s pos)) (hp : ¬ pos < s.size)
    (hK : wpList P ops Q rest (a.put o.dst (.tuple #[.bool false])) w) : wpList P ops Q (o :: rest) a w := by
  refine wpList_plain hg fun K' hK' => ?_
  have hrun := run_nextS_end (P := P) o.type h hp
  unfold Oper.wp
  simp [execOp, hop, hx, hrun, Result.andThen]
  exact hK' _ _ hK
end
end Go.Proofs.YtccdkchmeelkfaaGreatDoor

/- (W33) table.Root. -/
namespace Go.Proofs.YtccdkchmeelkfaaGreatDoor
open Go.RowKit Go.Shelf Go.Maps

def sixB : ByteArray := ⟨#[32, 95, 45, 44, 46, 39]⟩
theorem root_0 : ∀ i : Fin 6, ∃ r : Nat, Utf8.decode sixB i.val = (r, 1) ∧ r < 128 ∧ rootS[i.val]? = some ([(r : Int)], [mkw (16 + 4 * i.val) 32 2 true]) := by
  intro i
  have h : i = 0 ∨ i = 1 ∨ i = 2 ∨ i = 3 ∨ i = 4 ∨ i = 5 := by omega
  rcases h with rfl | rfl | rfl | rfl | rfl | rfl
  · exact ⟨32, by kernel_rfl, by decide, by decide +kernel⟩
  · exact ⟨95, by kernel_rfl, by decide, by decide +kernel⟩
  · exact ⟨45, by kernel_rfl, by decide, by decide +kernel⟩
  · exact ⟨44, by kernel_rfl, by decide, by decide +kernel⟩
  · exact ⟨46, by kernel_rfl, by decide, by decide +kernel⟩
  · exact ⟨39, by kernel_rfl, by decide, by decide +kernel⟩
theorem root_A : ∀ i : Fin 10, rootS[6 + i.val]? = some ([48 + (i.val : Int)], [mkw (128 + 4 * i.val) 32 2 false]) := by decide +kernel
theorem root_B : ∀ i : Fin 26, rootS[16 + 2 * i.val]? = some ([97 + (i.val : Int)], [letterW (97 + (i.val : Int)) 2]) ∧ rootS[16 + 2 * i.val + 1]? = some ([97 + (i.val : Int) - 32], [letterW (97 + (i.val : Int)) 8]) := by decide +kernel
def offR (q : Nat) : Nat := [76, 88, 90, 98, 106, 108, 118, 126, 128].getD q 0
def frR (q : Nat) : Int := [192, 199, 200, 204, 209, 210, 217, 221].getD q 0
def chR (q : Nat) : Int := [97, 99, 101, 105, 110, 111, 117, 121].getD q 0
def mkR (q : Nat) : List Int := [[768, 769, 770, 771, 776, 778], [807], [768, 769, 770, 776], [768, 769, 770, 776], [771], [768, 769, 770, 771, 776], [768, 769, 770, 776], [769]].getD q []
theorem root_D : ∀ q : Fin 8, ∀ i : Fin 6, i.val < (mkR q.val).length → rootS[offR q.val + 2 * i.val]? = some ([frR q.val + (i.val : Int)], [letterW (chR q.val) 8, mkw 0 (markW ((mkR q.val).getD i.val 0)) 2 false]) ∧ rootS[offR q.val + 2 * i.val + 1]? = some ([frR q.val + (i.val : Int) + 32], [letterW (chR q.val) 2, mkw 0 (markW ((mkR q.val).getD i.val 0)) 2 false]) := by decide +kernel
theorem root_D2 : ∀ q : Fin 8, offR q.val + 2 * (mkR q.val).length = offR (q.val + 1) ∧ 97 ≤ chR q.val ∧ chR q.val ≤ 122 ∧ (mkR q.val).length ≤ 6 ∧ 0 ≤ frR q.val ∧ frR q.val ≤ 300 := by decide +kernel
theorem root_C : ∀ q : Fin 8, ∃ x : Int, (∀ w, (Instr.index 102 (.agg #[.int .i64 768, .int .i64 769, .int .i64 770, .int .i64 771, .int .i64 772, .int .i64 776, .int .i64 778, .int .i64 807]) (.int .i64 (q.val : Int))).run Tryz.prog w = .ok (.int .i64 x) w) ∧ rootS[68 + q.val]? = some ([x], [mkw 0 (markW x) 2 false]) := by
  intro i
  have h : i = 0 ∨ i = 1 ∨ i = 2 ∨ i = 3 ∨ i = 4 ∨ i = 5 ∨ i = 6 ∨ i = 7 := by omega
  rcases h with rfl | rfl | rfl | rfl | rfl | rfl | rfl | rfl
  · exact ⟨768, fun _ => by kernel_rfl, by decide +kernel⟩
  · exact ⟨769, fun _ => by kernel_rfl, by decide +kernel⟩
  · exact ⟨770, fun _ => by kernel_rfl, by decide +kernel⟩
  · exact ⟨771, fun _ => by kernel_rfl, by decide +kernel⟩
  · exact ⟨772, fun _ => by kernel_rfl, by decide +kernel⟩
  · exact ⟨776, fun _ => by kernel_rfl, by decide +kernel⟩
  · exact ⟨778, fun _ => by kernel_rfl, by decide +kernel⟩
  · exact ⟨807, fun _ => by kernel_rfl, by decide +kernel⟩
theorem markW_lt (c : Int) : markW c < 256 := by unfold markW; repeat' split
                                                 all_goals decide
/-- Blocks made one behind the other. -/
def allocs : World → List Obj → World
  | w, [] => w
  | w, o :: r => allocs (w.alloc o) r
theorem allocs_below : ∀ (os : List Obj) (w : World), Below w.heap.size w (allocs w os)
  | [], _w => Below.refl _ _
  | o :: r, w => Below.next ((Below.refl w.heap.size w).alloc (Nat.le_refl _) o) (allocs_below r (w.alloc o))
theorem allocs_heap : ∀ (os : List Obj) (w : World) (i : Nat), i < os.length → (allocs w os).heap[w.heap.size + i]? = os[i]?
  | [], _, i, h => absurd h (by simp)
  | o :: r, w, 0, _ => by
    have h := heap_alloc_last w o
    simpa [allocs] using blk_below h (allocs_below r (w.alloc o))
  | o :: r, w, i + 1, h => by
    have := allocs_heap r (w.alloc o) i (by simpa using h)
    rw [World.size_alloc] at this
    simpa [allocs, Nat.add_assoc, Nat.add_comm 1 i] using this
def eightO : List Obj := [(.cells #[.int .i64 768, .int .i64 769, .int .i64 770, .int .i64 771, .int .i64 776, .int .i64 778] 3), (.cells #[.int .i64 807] 3), (.cells #[.int .i64 768, .int .i64 769, .int .i64 770, .int .i64 776] 3), (.cells #[.int .i64 768, .int .i64 769, .int .i64 770, .int .i64 776] 3), (.cells #[.int .i64 771] 3), (.cells #[.int .i64 768, .int .i64 769, .int .i64 770, .int .i64 771, .int .i64 776] 3), (.cells #[.int .i64 768, .int .i64 769, .int .i64 770, .int .i64 776] 3), (.cells #[.int .i64 769] 3)]
theorem SlI.blk {w : World} {b : Nat} {l : List Int} (h : w.heap[b]? = some (.cells (cellsI l).toArray 3 (0, 0))) : SlI w (.slice (some ⟨b, 0, none⟩) l.length l.length) l := by
  refine ⟨by simp, _, _, rfl, Nat.le_refl _, (fun e => by cases e), fun _ => ⟨b, 0, rfl, (Array.getElem?_eq_some_iff.1 h).1, fun j x hj => ?_⟩⟩
  rw [Nat.zero_add]
  exact cell_of_block h (by simpa [cellsI] using hj)
theorem root_E (w : World) (N : Nat) (hN : N = w.heap.size) : ∀ q : Fin 8, ∃ b : Nat, (∀ w, (Instr.index 105 (.agg #[.int .i64 192, .int .i32 97, .slice (some ⟨N, 0, none⟩) 6 6, .int .i64 199, .int .i32 99, .slice (some ⟨N + 1, 0, none⟩) 1 1, .int .i64 200, .int .i32 101, .slice (some ⟨N + 1 + 1, 0, none⟩) 4 4, .int .i64 204, .int .i32 105, .slice (some ⟨N + 1 + 1 + 1, 0, none⟩) 4 4, .int .i64 209, .int .i32 110, .slice (some ⟨N + 1 + 1 + 1 + 1, 0, none⟩) 1 1, .int .i64 210, .int .i32 111, .slice (some ⟨N + 1 + 1 + 1 + 1 + 1, 0, none⟩) 5 5, .int .i64 217, .int .i32 117, .slice (some ⟨N + 1 + 1 + 1 + 1 + 1 + 1, 0, none⟩) 4 4, .int .i64 221, .int .i32 121, .slice (some ⟨N + 1 + 1 + 1 + 1 + 1 + 1 + 1, 0, none⟩) 1 1]) (.int .i64 (q.val : Int))).run Tryz.prog w = .ok (.agg #[.int .i64 (frR q.val), .int .i32 (chR q.val), .slice (some ⟨b, 0, none⟩) (mkR q.val).length (mkR q.val).length]) w) ∧ SlI (allocs w eightO) (.slice (some ⟨b, 0, none⟩) (mkR q.val).length (mkR q.val).length) (mkR q.val) := by
  intro i
  have h : i = 0 ∨ i = 1 ∨ i = 2 ∨ i = 3 ∨ i = 4 ∨ i = 5 ∨ i = 6 ∨ i = 7 := by omega
  subst hN
  rcases h with rfl | rfl | rfl | rfl | rfl | rfl | rfl | rfl
  · exact ⟨w.heap.size, fun _ => by kernel_rfl, SlI.blk (allocs_heap eightO w 0 (by decide))⟩
  · exact ⟨w.heap.size + 1, fun _ => by kernel_rfl, SlI.blk (allocs_heap eightO w 1 (by decide))⟩
  · exact ⟨w.heap.size + 1 + 1, fun _ => by kernel_rfl, SlI.blk (allocs_heap eightO w 2 (by decide))⟩
  · exact ⟨w.heap.size + 1 + 1 + 1, fun _ => by kernel_rfl, SlI.blk (allocs_heap eightO w 3 (by decide))⟩
  · exact ⟨w.heap.size + 1 + 1 + 1 + 1, fun _ => by kernel_rfl, SlI.blk (allocs_heap eightO w 4 (by decide))⟩
  · exact ⟨w.heap.size + 1 + 1 + 1 + 1 + 1, fun _ => by kernel_rfl, SlI.blk (allocs_heap eightO w 5 (by decide))⟩
  · exact ⟨w.heap.size + 1 + 1 + 1 + 1 + 1 + 1, fun _ => by kernel_rfl, SlI.blk (allocs_heap eightO w 6 (by decide))⟩
  · exact ⟨w.heap.size + 1 + 1 + 1 + 1 + 1 + 1 + 1, fun _ => by kernel_rfl, SlI.blk (allocs_heap eightO w 7 (by decide))⟩
theorem SlE1 (w : World) (e : Nat) (he : e < 4294967296) (T n : Nat) (hn : n = w.heap.size) : SlE (w.alloc (.cells #[.int .u32 (e : Nat)] T)) (.slice (some ⟨n, 0, none⟩) 1 1) [e] := ⟨SlNew1 w (.int .u32 (e : Nat)) T n hn, by simpa using he⟩
theorem Sl.objoff {w w' : World} {k n j : Nat} {v : Value} {xs : List Value} (h : Sl w k v n xs) (hg : w.grownBy w' (some j)) (hno : ∀ o, w.cell? ⟨j, o, none⟩ = none) (hk : 0 < k) : Sl w' k v n xs := by
  obtain ⟨h1, a, c, h2, h3, h3', h4⟩ := h
  refine ⟨h1, a, c, h2, h3, h3', fun hn => ?_⟩
  obtain ⟨b, o, h5, h6, h7⟩ := h4 hn
  have hne : b ≠ j := by
    rintro rfl
    have hp : 0 < xs.length := by rw [h1]; exact Nat.mul_pos hn hk
    have := h7 0 xs[0] (List.getElem?_eq_getElem hp)
    rw [hno] at this; cases this
  exact ⟨b, o, h5, Nat.lt_of_lt_of_le h6 hg.size, fun i x hj => (grown_cell' hg h6 hne).trans (h7 i x hj)⟩
theorem RtAt.it {w w' : World} {xb mb n ib pos : Nat} {s : ByteArray} (h : RtAt w xb mb n) (hg : w.grownBy w' (some ib)) (hi : w.heap[ib]? = some (.stringIter s pos)) (h1 : xb ≠ ib) (h2 : mb ≠ ib) : RtAt w' xb mb n := by
  refine ⟨blk_grown h.box hg h1, ?_⟩
  obtain ⟨m, hm, e1, e2⟩ := h.ents
  exact ⟨m, hm.grown hg (by simpa using h2), e1, fun i q e hq he => ⟨(e2 i q e hq he).1.objoff hg (fun o => by simp [World.cell?, hi]) (by decide), (e2 i q e hq he).2⟩⟩
theorem SlE2 (w : World) (a b : Nat) (ha : a < 4294967296) (hb : b < 4294967296) (T n : Nat) (hn : n = w.heap.size) : SlE (w.alloc (.cells #[.int .u32 (a : Nat), .int .u32 (b : Nat)] T)).drew (.slice (some ⟨n, 0, none⟩) 2 2) [a, b] := by
  subst hn
  have h := Sl.new w [.int .u32 (a : Nat), .int .u32 (b : Nat)] T 2 (by simp)
  have h2 : SlE (w.alloc (.cells #[.int .u32 (a : Nat), .int .u32 (b : Nat)] T)) (.slice (some ⟨w.heap.size, 0, none⟩) 2 2) [a, b] := ⟨h, by simp [ha, hb]⟩
  exact h2.below (Below.drewN (Below.refl _ _) 1)
theorem SlE2a (w : World) (a b : Nat) (ha : a < 4294967296) (hb : b < 4294967296) (T n : Nat) (hn : n = w.heap.size) : SlE (w.alloc (.cells #[.int .u32 (a : Nat), .int .u32 (b : Nat)] T)) (.slice (some ⟨n, 0, none⟩) 2 2) [a, b] := by
  subst hn
  exact ⟨Sl.new w [.int .u32 (a : Nat), .int .u32 (b : Nat)] T 2 (by simp), by simp [ha, hb]⟩
theorem root_F : rootS[128]? = some ([223], [letterW 115 4, letterW 115 4]) ∧ rootS[129]? = some ([198], [letterW 97 10, letterW 101 10]) ∧ rootS[130]? = some ([230], [letterW 97 4, letterW 101 4]) ∧ rootS[131]? = some ([173], []) ∧ rootS.take 132 = rootS := by decide +kernel
/-- What Root has made. -/
structure RtB (w wr : World) (n : Nat) : Prop where
  rt : RtAt wr (w.heap.size + 1) w.heap.size n
  below : Below w.heap.size w wr
theorem RtB.put {w wr W w2 : World} {n : Nat} (h : RtB w wr n) (hb : Below wr.heap.size wr W) (hr : RtAt w2 (w.heap.size + 1) w.heap.size (n + 1)) (hg : W.grownBy w2 (some w.heap.size)) : RtB w w2 (n + 1) :=
  ⟨hr, (Below.next h.below hb).grown hg (Below.next h.below hb).size (fun k hk => by simp at hk; omega)⟩

set_option maxRecDepth 100000 in
set_option maxHeartbeats 4000000 in
theorem root_any (w : World) :
    Calls Tryz.prog 22 #[] w fun e w' => ∃ p, e = .returned p ∧ TableAt w' p rootS ∧ Below w.heap.size w w' := by
  have hmm := @run_makeMap Tryz.prog
  have eg : ∀ args w, (callFunc 50 args).run Tryz.prog w = .ok (.enter 50 args) w := enters_of Tryz.func50 (by kernel_rfl) rfl
  have hput := fun (wr W : World) (n : Nat) (h : RtB w wr n) (hb : Below wr.heap.size wr W) (c : Int) (l : List Nat) (hx : rootS[n]? = some ([c], l)) (v : Value) (hv : SlE W v l) => put1_any W (w.heap.size + 1) w.heap.size n (h.rt.below hb) c l hx v hv
  have HPUT := Lib.hid hput
  clear hput
  go_enter Tryz.func22, Tryz.ntmps22
  go_wp2_with fail
  obtain ⟨W0, hW0⟩ : ∃ W0, ((w.alloc (.map #[] 0)).alloc (.cells #[.map (some w.heap.size)] 88)).iter sixB 0 = W0 := ⟨_, rfl⟩
  have hR0 : RtB w W0 0 := by
    have b1 := (Below.refl w.heap.size w).alloc (Nat.le_refl _) (.map #[] 0)
    have b2 := Below.next b1 ((Below.refl (w.alloc (.map #[] 0)).heap.size _).alloc (Nat.le_refl _) (.cells #[.map (some w.heap.size)] 88))
    have b3 := Below.next b2 ((Below.refl ((w.alloc (.map #[] 0)).alloc (.cells #[.map (some w.heap.size)] 88)).heap.size _).alloc (Nat.le_refl _) (.stringIter sixB 0))
    refine ⟨⟨?_, ?_⟩, by rw [← hW0]; exact b3⟩
    · rw [← hW0]
      have h1 := heap_alloc_last (w.alloc (.map #[] 0)) (.cells #[.map (some w.heap.size)] 88)
      rw [World.size_alloc] at h1
      exact (Below.heap_alloc _ _ _ (by simp)).trans h1
    · refine ⟨[], ?_, rfl, fun i q e hq => by simp at hq⟩
      rw [← hW0]
      have h1 := (MapAt.made w encK).below ((Below.refl (w.alloc (.map #[] 0)).heap.size _).alloc (Nat.le_refl _) (.cells #[.map (some w.heap.size)] 88))
      exact h1.below ((Below.refl _ _).alloc (Nat.le_refl _) _)
  have hit0 : W0.heap[w.heap.size + 2]? = some (.stringIter sixB 0) := by
    rw [← hW0]
    have := World.iter_heap ((w.alloc (.map #[] 0)).alloc (.cells #[.map (some w.heap.size)] 88)) sixB 0
    simpa using this
  rw [show ({ data := #[32, 95, 45, 44, 46, 39] } : ByteArray) = sixB from rfl, hW0]
  clear hW0
  go_loopg [3] 6 (fun gg _ wr => ∃ q : Nat, q ≤ 6 ∧ 6 ≤ q + gg ∧ wr.heap[w.heap.size + 2]? = some (.stringIter sixB q) ∧ RtB w wr q)
  case atStart => exact ⟨0, by omega, by omega, hit0, hR0⟩
  case round =>
    obtain ⟨q, hq, hgg, hit, hR⟩ := hrel
    clear hit0 hR0
    by_cases hq6 : q < 6
    · obtain ⟨r, hd, hr, hx⟩ := root_0 ⟨q, hq6⟩
      simp only at hd hx
      have hof := fun w => of_any w (16 + 4 * q) 32 2 true (by omega) (by omega) (by omega)
      have HX := Lib.hid hx
      have HD := Lib.hid hd
      have hsz : q < sixB.size := hq6
      have HS := Lib.hid (And.intro hsz (And.intro hit hR))
      rw [show ((16 + 4 * q : Nat) : Int) = 16 + 4 * (q : Int) by omega] at hof
      clear hx hd hsz
      go_wp2_with (first
        | (at_next; refine wpList_nextS rfl _ rfl rfl HS.out.2.1 HS.out.1 HD.out ?_; intro w1 hit1 hg1; clear hit)
        | (go_at_call 51; refine (hof _).mono ?_; rintro _ _ ⟨rfl, rfl⟩))
      have hRw : RtB w w1 q := ⟨hR.rt.it hg1 HS.out.2.1 (by omega) (by omega), hR.below.grown hg1 hR.below.size (fun k hk => by simp at hk; omega)⟩
      have hp := HPUT.out w1 _ q hRw ((Below.refl w1.heap.size w1).alloc (Nat.le_refl _) (.cells #[.int .u32 (mkw (16 + 4 * q) 32 2 true : Nat)] 47)) (r) [mkw (16 + 4 * q) 32 2 true] HX.out _ (SlE1 w1 _ (mkw_lt true (by omega) (by omega) (by omega)) 47 _ rfl)
      refine hp.mono ?_
      clear hp
      rintro e w2 ⟨rfl, hr2, hg2⟩
      have hR2 := hRw.put ((Below.refl w1.heap.size w1).alloc (Nat.le_refl _) (.cells #[.int .u32 (mkw (16 + 4 * q) 32 2 true : Nat)] 47)) hr2 hg2
      have hit2 : w2.heap[w.heap.size + 2]? = some (.stringIter sixB (q + 1)) := blk_grown (blk_below hit1 ((Below.refl w1.heap.size w1).alloc (Nat.le_refl _) (.cells #[.int .u32 (mkw (16 + 4 * q) 32 2 true : Nat)] 47))) hg2 (by omega)
      clear hr2 hg2 hit1 hg1 hRw hR HS
      go_wp2_with fail
      go_roundg (gk - 1)
      case measure => omega
      case rel => exact ⟨q + 1, by omega, by omega, hit2, hR2⟩
    · obtain rfl : q = 6 := by omega
      have hend : ¬ (6 < sixB.size) := by decide
      go_wp2_with (at_next; refine wpList_nextS_end rfl _ rfl rfl hit hend ?_)
      clear hit
      go_loopw [29] (fun i wr => ∃ q : Nat, q ≤ 10 ∧ i = .int .i64 q ∧ RtB w wr (6 + q)) (fun i _ => 10 - (RowKit.intOf i).toNat)
      case atStart => exact ⟨0, by omega, rfl, hR⟩
      case round =>
        clear hR
        obtain ⟨q, hq, rfl, hR⟩ := hrel
        by_cases hq1 : q < 10
        · have hx := root_A ⟨q, hq1⟩
          simp only at hx
          have hof := fun w => of_any w (128 + 4 * q) 32 2 false (by omega) (by omega) (by omega)
          have HX := Lib.hid hx
          rw [show ((128 + 4 * q : Nat) : Int) = 128 + 4 * (q : Int) by omega] at hof
          clear hx
          go_wp2_with (go_at_call 51; refine (hof _).mono ?_; rintro _ _ ⟨rfl, rfl⟩)
          have hp := HPUT.out wr _ (6 + q) hR ((Below.refl wr.heap.size wr).alloc (Nat.le_refl _) (.cells #[.int .u32 (mkw (128 + 4 * q) 32 2 false : Nat)] 47)) (48 + (q : Int)) [mkw (128 + 4 * q) 32 2 false] HX.out _ (SlE1 wr _ (mkw_lt false (by omega) (by omega) (by omega)) 47 _ rfl)
          refine hp.mono ?_
          clear hp
          rintro e w2 ⟨rfl, hr2, hg2⟩
          have hR2 := hR.put ((Below.refl wr.heap.size wr).alloc (Nat.le_refl _) (.cells #[.int .u32 (mkw (128 + 4 * q) 32 2 false : Nat)] 47)) hr2 hg2
          clear hr2 hg2
          clear hR
          go_wp2_with fail
          go_roundw
          case rel => exact ⟨q + 1, by omega, by go_num, hR2⟩
          case measure => simp [RowKit.intOf]; omega
        · obtain rfl : q = 10 := by omega
          rw [show ((10 : Nat) : Int) = 10 from rfl]
          go_wp2_with fail
          go_loopw [6] (fun i wr => ∃ (q : Nat) (k : Int), q ≤ 26 ∧ i = .int .i32 k ∧ 97 ≤ k ∧ k ≤ 123 ∧ Hid (k = 97 + (q : Int)) ∧ RtB w wr (16 + 2 * q)) (fun i _ => (123 - RowKit.intOf i).toNat)
          case atStart => exact ⟨0, 97, by omega, rfl, by omega, by omega, Lib.hid rfl, hR⟩
          case round =>
            clear hR
            obtain ⟨q, k, hq, rfl, hk1, hk2, hk, hR⟩ := hrel
            by_cases hq1 : q < 26
            · obtain ⟨hx1, hx2⟩ := root_B ⟨q, hq1⟩
              simp only at hx1 hx2
              rw [← hk.out] at hx1 hx2
              have hk9 : k ≤ 122 := by have := hk.out; omega
              have hl1 := fun w => letter_any w k 2 (by omega) (by omega) (by decide)
              have hl2 := fun w => letter_any w k 8 (by omega) (by omega) (by decide)
              have hb1 : letterW k 2 < 4294967296 := mkw_lt false (by omega) (by omega) (by omega)
              have hb2 : letterW k 8 < 4294967296 := mkw_lt false (by omega) (by omega) (by omega)
              have HX := Lib.hid (And.intro hx1 (And.intro hx2 (And.intro hb1 hb2)))
              clear hx1 hx2 hb1 hb2
              go_wp2_with (go_at_call 52; refine (hl1 _).mono ?_; rintro _ _ ⟨rfl, rfl⟩)
              have hp := HPUT.out wr _ (16 + 2 * q) hR ((Below.refl wr.heap.size wr).alloc (Nat.le_refl _) (.cells #[.int .u32 (letterW k 2 : Nat)] 47)) (k) [letterW k 2] HX.out.1 _ (SlE1 wr _ HX.out.2.2.1 47 _ rfl)
              refine hp.mono ?_
              clear hp
              rintro e w2 ⟨rfl, hr2, hg2⟩
              have hR2 := hR.put ((Below.refl wr.heap.size wr).alloc (Nat.le_refl _) (.cells #[.int .u32 (letterW k 2 : Nat)] 47)) hr2 hg2
              clear hr2 hg2
              obtain ⟨wn, rfl⟩ : ∃ wn, wn = w2 := ⟨_, rfl⟩
              have hRn := hR2
              clear hR hR2
              go_wp2_with (go_at_call 52; refine (hl2 _).mono ?_; rintro _ _ ⟨rfl, rfl⟩)
              have hp := HPUT.out wn _ (16 + 2 * q + 1) hRn ((Below.refl wn.heap.size wn).alloc (Nat.le_refl _) (.cells #[.int .u32 (letterW k 8 : Nat)] 47)) (k - 32) [letterW k 8] HX.out.2.1 _ (SlE1 wn _ HX.out.2.2.2 47 _ rfl)
              refine hp.mono ?_
              clear hp
              rintro e w2 ⟨rfl, hr2, hg2⟩
              have hR2 := hRn.put ((Below.refl wn.heap.size wn).alloc (Nat.le_refl _) (.cells #[.int .u32 (letterW k 8 : Nat)] 47)) hr2 hg2
              clear hr2 hg2
              clear hRn
              go_wp2_with fail
              go_roundw
              case rel => exact ⟨q + 1, k + 1, by omega, rfl, by omega, by omega, Lib.hid (by have := hk.out; omega), hR2⟩
              case measure => simp [RowKit.intOf]; omega
            · obtain rfl : q = 26 := by omega
              obtain rfl : k = 123 := by have := hk.out; omega
              go_wp2_with fail
              go_loopw [62] (fun i wr => ∃ q : Nat, q ≤ 8 ∧ i = .int .i64 q ∧ RtB w wr (68 + q)) (fun i _ => 8 - (RowKit.intOf i).toNat)
              case atStart => exact ⟨0, by omega, rfl, hR⟩
              case round =>
                clear hR
                obtain ⟨q, hq, rfl, hR⟩ := hrel
                by_cases hq1 : q < 8
                · obtain ⟨x, hix, hx⟩ := root_C ⟨q, hq1⟩
                  simp only at hx hix
                  have hma := fun w => mark_any w x
                  have hb1 : mkw 0 (markW x) 2 false < 4294967296 := mkw_lt false (by decide) (markW_lt x) (by decide)
                  have HX := Lib.hid (And.intro hx hb1)
                  clear hx hb1
                  go_wp2_with (go_at_call 53; refine (hma _).mono ?_; rintro _ _ ⟨rfl, rfl⟩)
                  have hp := HPUT.out wr _ (68 + q) hR ((Below.refl wr.heap.size wr).alloc (Nat.le_refl _) (.cells #[.int .u32 (mkw 0 (markW x) 2 false : Nat)] 47)) (x) [mkw 0 (markW x) 2 false] HX.out.1 _ (SlE1 wr _ HX.out.2 47 _ rfl)
                  refine hp.mono ?_
                  clear hp
                  rintro e w2 ⟨rfl, hr2, hg2⟩
                  have hR2 := hR.put ((Below.refl wr.heap.size wr).alloc (Nat.le_refl _) (.cells #[.int .u32 (mkw 0 (markW x) 2 false : Nat)] 47)) hr2 hg2
                  clear hr2 hg2
                  clear hR hix
                  go_wp2_with fail
                  go_roundw
                  case rel => exact ⟨q + 1, by omega, by go_num, hR2⟩
                  case measure => simp [RowKit.intOf]; omega
                · obtain rfl : q = 8 := by omega
                  rw [show ((8 : Nat) : Int) = 8 from rfl]
                  go_wp2_with fail
                  have hE := root_E wr wr.heap.size rfl
                  obtain ⟨W8, hW8⟩ : ∃ W8, allocs wr eightO = W8 := ⟨_, rfl⟩
                  have hR8 : RtB w W8 76 := by
                    have hb := allocs_below eightO wr
                    rw [hW8] at hb
                    exact ⟨hR.rt.below hb, Below.next hR.below hb⟩
                  rw [hW8] at hE
                  have HE := Lib.hid hE
                  rw [show ((((((((wr.alloc (.cells #[.int .i64 768, .int .i64 769, .int .i64 770, .int .i64 771, .int .i64 776, .int .i64 778] 3)).alloc (.cells #[.int .i64 807] 3)).alloc (.cells #[.int .i64 768, .int .i64 769, .int .i64 770, .int .i64 776] 3)).alloc (.cells #[.int .i64 768, .int .i64 769, .int .i64 770, .int .i64 776] 3)).alloc (.cells #[.int .i64 771] 3)).alloc (.cells #[.int .i64 768, .int .i64 769, .int .i64 770, .int .i64 771, .int .i64 776] 3)).alloc (.cells #[.int .i64 768, .int .i64 769, .int .i64 770, .int .i64 776] 3)).alloc (.cells #[.int .i64 769] 3)) = W8 from hW8]
                  clear hW8 hE hR
                  have hmapO := hR8.rt.ents
                  obtain ⟨m8, hm8, _, _⟩ := hmapO
                  obtain ⟨es8, ck8, hob8⟩ := hm8.obj
                  have HO8 := Lib.hid hob8
                  clear hm8 hob8
                  have hg80 := World.grownBy.refl W8 (some w.heap.size)
                  have hW8 := hR8.below.size
                  go_loopw [89] (fun i wr => ∃ q : Nat, q ≤ 8 ∧ i = .int .i64 q ∧ RtB w wr (offR q) ∧ W8.grownBy wr (some w.heap.size)) (fun i _ => 8 - (RowKit.intOf i).toNat)
                  case atStart => exact ⟨0, by omega, rfl, hR8, hg80⟩
                  case round =>
                    clear hR8 hg80
                    obtain ⟨q, hq, rfl, hR2, hg8⟩ := hrel
                    by_cases hq1 : q < 8
                    · obtain ⟨b, hix, hsl⟩ := HE.out ⟨q, hq1⟩
                      obtain ⟨hoff, hch1, hch2, hlen, hfr1, hfr2⟩ := root_D2 ⟨q, hq1⟩
                      have hD := root_D ⟨q, hq1⟩
                      simp only at hix hsl hoff hch1 hch2 hlen hfr1 hfr2 hD
                      obtain ⟨fr, hfr⟩ : ∃ fr, frR q = fr := ⟨_, rfl⟩
                      obtain ⟨ch, hch⟩ : ∃ ch, chR q = ch := ⟨_, rfl⟩
                      obtain ⟨n, hn⟩ : ∃ n, (mkR q).length = n := ⟨_, rfl⟩
                      obtain ⟨off, hof⟩ : ∃ off, offR q = off := ⟨_, rfl⟩
                      rw [hfr, hch, hn] at hix
                      rw [hn] at hsl
                      rw [hch] at hch1 hch2
                      rw [hfr] at hfr1 hfr2
                      rw [hof] at hR2
                      rw [hof, hn] at hoff
                      have HD := Lib.hid (And.intro hD (And.intro hfr (And.intro hch (And.intro hn (And.intro hof (And.intro hoff (And.intro hsl hlen)))))))
                      have hn6 : n ≤ 6 := by omega
                      clear hD hfr hch hn hof hoff hsl hlen
                      obtain ⟨wo, rfl⟩ : ∃ wo, wo = wr := ⟨_, rfl⟩
                      have b1 := (Below.refl wo.heap.size wo).alloc (Nat.le_refl _) (.cells #[.int .i64 fr, .int .i32 ch, .slice (some ⟨b, 0, none⟩) n n] 104)
                      have hbx0 := heap_alloc_last wo (.cells #[.int .i64 fr, .int .i32 ch, .slice (some ⟨b, 0, none⟩) n n] 104)
                      have hR0 : RtB w (wo.alloc (.cells #[.int .i64 fr, .int .i32 ch, .slice (some ⟨b, 0, none⟩) n n] 104)) off := ⟨hR2.rt.below b1, Below.next hR2.below b1⟩
                      have hg0 := hg8.trans ((grown_below b1).but _)
                      have htbw : w.heap.size < wo.heap.size := by have := hR2.rt.ents; obtain ⟨_, hm, _, _⟩ := this; exact hm.lt
                      obtain ⟨tb, htbe⟩ : ∃ tb, wo.heap.size = tb := ⟨_, rfl⟩
                      rw [htbe] at hbx0
                      have HTB := Lib.hid (And.intro htbe hix)
                      clear hR2 hg8 b1 htbe
                      go_wp2_with fail
                      rw [HTB.out.1, show decide ((q : Int) < 8) = true by simp; omega]
                      go_loopw [95] (fun i wr => ∃ j : Nat, j ≤ n ∧ i = .int .i64 j ∧ RtB w wr (off + 2 * j) ∧ W8.grownBy wr (some w.heap.size) ∧ wr.heap[tb]? = some (.cells #[.int .i64 fr, .int .i32 ch, .slice (some ⟨b, 0, none⟩) n n] 104 (0, 0))) (fun i _ => n - (RowKit.intOf i).toNat)
                      case atStart => exact ⟨0, Nat.zero_le _, rfl, hR0, hg0, hbx0⟩
                      case round =>
                        clear hR0 hg0 hbx0
                        obtain ⟨j, hj, rfl, hR2, hg8, hbx⟩ := hrel
                        by_cases hj1 : j < n
                        · have hjl : j < (mkR q).length := by rw [HD.out.2.2.2.1]; exact hj1
                          have hm : (mkR q)[j]? = some ((mkR q).getD j 0) := by rw [List.getD_eq_getElem?_getD, List.getElem?_eq_getElem hjl]; rfl
                          obtain ⟨m, hme⟩ : ∃ m, (mkR q).getD j 0 = m := ⟨_, rfl⟩
                          rw [hme] at hm
                          obtain ⟨hx1, hx2⟩ := HD.out.1 ⟨j, by omega⟩ hjl
                          simp only at hx1 hx2
                          rw [HD.out.2.1, HD.out.2.2.1, HD.out.2.2.2.2.1, hme] at hx1 hx2
                          have hslw := Sl.mapoff HD.out.2.2.2.2.2.2.1 hg8 HO8.out (by decide)
                          obtain ⟨_, _, _, hve, _, _, hvo⟩ := hslw
                          cases hve
                          rw [HD.out.2.2.2.1] at hvo
                          obtain ⟨_, _, hbe, _, hcell⟩ := hvo (by omega)
                          cases hbe
                          have hcm := hcell j (.int .i64 m) (by rw [List.getElem?_map, hm]; rfl)
                          rw [Nat.zero_add] at hcm
                          have hma := fun w => mark_any w m
                          have hmb : mkw 0 (markW m) 2 false < 4294967296 := mkw_lt false (by decide) (markW_lt m) (by decide)
                          have HX := Lib.hid (And.intro hx1 hx2)
                          have HB := Lib.hid hbx
                          clear hx1 hx2 hm hme hcell hvo hjl
                          have hla := fun w => letter_any w ch 8 hch1 hch2 (by decide)
                          have hlb : letterW ch 8 < 4294967296 := mkw_lt false (by omega) (by decide) (by decide)
                          have hp := HPUT.out wr ((wr.alloc (.cells #[.int .u32 (letterW ch 8 : Nat), .int .u32 (mkw 0 (markW m) 2 false : Nat)] 47)).drew) (off + 2 * j) hR2 (Below.drewN ((Below.refl wr.heap.size wr).alloc (Nat.le_refl _) _) 1) (fr + (j : Int)) [letterW ch 8, mkw 0 (markW m) 2 false] HX.out.1 (.slice (some ⟨wr.heap.size, 0, none⟩) 2 2) (SlE2 wr _ _ hlb hmb 47 _ rfl)
                          have y0 : wr.cell? ⟨tb, 0, none⟩ = some (.int .i64 fr) := cell_of_block hbx rfl
                          have y1 : wr.cell? ⟨tb, 1, none⟩ = some (.int .i32 ch) := cell_of_block hbx rfl
                          have htb := (Array.getElem?_eq_some_iff.1 hbx).1
                          have HP := Lib.hid (And.intro hbx (And.intro hR2 hg8))
                          have htne : tb ≠ w.heap.size := by have := HTB.out.1; omega
                          have hwr1 : IntKind.i64.wrap (fr + (j : Int)) = fr + (j : Int) := IntWalk.i64_in _ (by omega)
                          have hwr2 : IntKind.i64.wrap (fr + (j : Int) + 32) = fr + (j : Int) + 32 := IntWalk.i64_in _ (by omega)
                          clear hbx hR2 hg8
                          go_wp2_with fail
                          go_region_held3 (fun w' => w'.cell? ⟨tb, 0, none⟩ = some (.int .i64 fr) ∧ w'.cell? ⟨tb, 1, none⟩ = some (.int .i32 ch)) (go_keep)
                            (first
                              | (go_at_call 52; refine (hla _).mono ?_; rintro _ _ ⟨rfl, rfl⟩)
                              | (go_at_call 53; refine (hma _).mono ?_; rintro _ _ ⟨rfl, rfl⟩)
                              | (go_at_call 50; refine hp.mono ?_; rintro e w2 ⟨rfl, hr2, hg2⟩; have hb3 := blk_grown (blk_below HP.out.1 (Below.drewN ((Below.refl wr.heap.size wr).alloc (Nat.le_refl _) (.cells #[.int .u32 (letterW ch 8 : Nat), .int .u32 (mkw 0 (markW m) 2 false : Nat)] 47)) 1)) hg2 htne; have z0 := cell_of_block (i := 0) hb3 rfl; have z1 := cell_of_block (i := 1) hb3 rfl; have HQ := Lib.hid (And.intro hb3 (And.intro hr2 hg2)); clear hb3 hr2 hg2))
                          have hbx := HQ.out.1
                          have hR3 := HP.out.2.1.put (Below.drewN ((Below.refl wr.heap.size wr).alloc (Nat.le_refl _) _) 1) HQ.out.2.1 HQ.out.2.2
                          have hg8 := (HP.out.2.2.trans ((grown_below (Below.drewN ((Below.refl wr.heap.size wr).alloc (Nat.le_refl _) _) 1)).but _)).trans HQ.out.2.2
                          clear HP HQ hla hlb y0 y1 z0 z1 htb hwr1 hwr2
                          obtain ⟨wn, rfl⟩ : ∃ wn, wn = w2 := ⟨_, rfl⟩
                          have hR2 := hR3
                          clear hR3
                          have hla := fun w => letter_any w ch 2 hch1 hch2 (by decide)
                          have hlb : letterW ch 2 < 4294967296 := mkw_lt false (by omega) (by decide) (by decide)
                          have hp := HPUT.out wn ((wn.alloc (.cells #[.int .u32 (letterW ch 2 : Nat), .int .u32 (mkw 0 (markW m) 2 false : Nat)] 47)).drew) (off + 2 * j + 1) hR2 (Below.drewN ((Below.refl wn.heap.size wn).alloc (Nat.le_refl _) _) 1) (fr + (j : Int) + 32) [letterW ch 2, mkw 0 (markW m) 2 false] HX.out.2 (.slice (some ⟨wn.heap.size, 0, none⟩) 2 2) (SlE2 wn _ _ hlb hmb 47 _ rfl)
                          have y0 : wn.cell? ⟨tb, 0, none⟩ = some (.int .i64 fr) := cell_of_block hbx rfl
                          have y1 : wn.cell? ⟨tb, 1, none⟩ = some (.int .i32 ch) := cell_of_block hbx rfl
                          have htb := (Array.getElem?_eq_some_iff.1 hbx).1
                          have HP := Lib.hid (And.intro hbx (And.intro hR2 hg8))
                          have htne : tb ≠ w.heap.size := by have := HTB.out.1; omega
                          have hwr1 : IntKind.i64.wrap (fr + (j : Int)) = fr + (j : Int) := IntWalk.i64_in _ (by omega)
                          have hwr2 : IntKind.i64.wrap (fr + (j : Int) + 32) = fr + (j : Int) + 32 := IntWalk.i64_in _ (by omega)
                          clear hbx hR2 hg8
                          go_wp2_with fail
                          go_region_held3 (fun w' => w'.cell? ⟨tb, 0, none⟩ = some (.int .i64 fr) ∧ w'.cell? ⟨tb, 1, none⟩ = some (.int .i32 ch)) (go_keep)
                            (first
                              | (go_at_call 52; refine (hla _).mono ?_; rintro _ _ ⟨rfl, rfl⟩)
                              | (go_at_call 53; refine (hma _).mono ?_; rintro _ _ ⟨rfl, rfl⟩)
                              | (go_at_call 50; refine hp.mono ?_; rintro e w2 ⟨rfl, hr2, hg2⟩; have hb3 := blk_grown (blk_below HP.out.1 (Below.drewN ((Below.refl wn.heap.size wn).alloc (Nat.le_refl _) (.cells #[.int .u32 (letterW ch 2 : Nat), .int .u32 (mkw 0 (markW m) 2 false : Nat)] 47)) 1)) hg2 htne; have z0 := cell_of_block (i := 0) hb3 rfl; have z1 := cell_of_block (i := 1) hb3 rfl; have HQ := Lib.hid (And.intro hb3 (And.intro hr2 hg2)); clear hb3 hr2 hg2))
                          have hbx := HQ.out.1
                          have hR3 := HP.out.2.1.put (Below.drewN ((Below.refl wn.heap.size wn).alloc (Nat.le_refl _) _) 1) HQ.out.2.1 HQ.out.2.2
                          have hg8 := (HP.out.2.2.trans ((grown_below (Below.drewN ((Below.refl wn.heap.size wn).alloc (Nat.le_refl _) _) 1)).but _)).trans HQ.out.2.2
                          clear HP HQ hla hlb y0 y1 z0 z1 htb hwr1 hwr2
                          go_wp2_with fail
                          go_roundw
                          case rel => exact ⟨j + 1, by omega, by go_num, hR3, hg8, hbx⟩
                          case measure => simp [RowKit.intOf]; omega
                        · obtain rfl : j = n := by omega
                          have hR3 : RtB w wr (offR (q + 1)) := by rw [← HD.out.2.2.2.2.2.1]; exact hR2
                          clear hbx hix
                          go_wp2_with fail
                          go_roundw
                          case rel => exact ⟨q + 1, by omega, by go_num, hR3, hg8⟩
                          case measure => simp [RowKit.intOf]; omega
                    · obtain rfl : q = 8 := by omega
                      have hR128 : RtB w wr 128 := hR2
                      clear hR2 hg8
                      have hp := HPUT.out wr _ 128 hR128 ((Below.refl wr.heap.size wr).alloc (Nat.le_refl _) (.cells #[.int .u32 (letterW 115 4 : Nat), .int .u32 (letterW 115 4 : Nat)] 47)) 223 [letterW 115 4, letterW 115 4] root_F.1 _ (SlE2a wr _ _ (by decide +kernel) (by decide +kernel) 47 _ rfl)
                      go_wp2_with (go_at_call 52; refine (letter_any _ _ _ (by decide) (by decide) (by decide)).mono ?_; rintro _ _ ⟨rfl, rfl⟩)
                      refine hp.mono ?_
                      clear hp
                      rintro e v128 ⟨rfl, hr2, hg2⟩
                      have hQ128 := hR128.put ((Below.refl wr.heap.size wr).alloc (Nat.le_refl _) (.cells #[.int .u32 (letterW 115 4 : Nat), .int .u32 (letterW 115 4 : Nat)] 47)) hr2 hg2
                      clear hr2 hg2
                      have hp := HPUT.out v128 _ 129 hQ128 ((Below.refl v128.heap.size v128).alloc (Nat.le_refl _) (.cells #[.int .u32 (letterW 97 10 : Nat), .int .u32 (letterW 101 10 : Nat)] 47)) 198 [letterW 97 10, letterW 101 10] root_F.2.1 _ (SlE2a v128 _ _ (by decide +kernel) (by decide +kernel) 47 _ rfl)
                      go_wp2_with (go_at_call 52; refine (letter_any _ _ _ (by decide) (by decide) (by decide)).mono ?_; rintro _ _ ⟨rfl, rfl⟩)
                      refine hp.mono ?_
                      clear hp
                      rintro e v129 ⟨rfl, hr2, hg2⟩
                      have hQ129 := hQ128.put ((Below.refl v128.heap.size v128).alloc (Nat.le_refl _) (.cells #[.int .u32 (letterW 97 10 : Nat), .int .u32 (letterW 101 10 : Nat)] 47)) hr2 hg2
                      clear hr2 hg2
                      have hp := HPUT.out v129 _ 130 hQ129 ((Below.refl v129.heap.size v129).alloc (Nat.le_refl _) (.cells #[.int .u32 (letterW 97 4 : Nat), .int .u32 (letterW 101 4 : Nat)] 47)) 230 [letterW 97 4, letterW 101 4] root_F.2.2.1 _ (SlE2a v129 _ _ (by decide +kernel) (by decide +kernel) 47 _ rfl)
                      go_wp2_with (go_at_call 52; refine (letter_any _ _ _ (by decide) (by decide) (by decide)).mono ?_; rintro _ _ ⟨rfl, rfl⟩)
                      refine hp.mono ?_
                      clear hp
                      rintro e v130 ⟨rfl, hr2, hg2⟩
                      have hQ130 := hQ129.put ((Below.refl v129.heap.size v129).alloc (Nat.le_refl _) (.cells #[.int .u32 (letterW 97 4 : Nat), .int .u32 (letterW 101 4 : Nat)] 47)) hr2 hg2
                      clear hr2 hg2
                      have hp := HPUT.out v130 v130 131 hQ130 (Below.refl _ _) 173 [] root_F.2.2.2.1 (.slice none 0 0) ⟨Sl.nil _ 1 0 none fun _ => rfl, by simp⟩
                      go_wp2_with fail
                      refine hp.mono ?_
                      clear hp
                      rintro e v131 ⟨rfl, hr2, hg2⟩
                      have hR131 := hQ130.put (Below.refl v130.heap.size v130) hr2 hg2
                      have hen := hR131.rt.ents
                      rw [root_F.2.2.2.2] at hen
                      have hbu := tbuild_any v131 w.heap.size rootS rootS hen (List.Perm.refl _) rootS_ok
                      have hxb := cell_of_block (i := 0) hR131.rt.box rfl
                      have HB := Lib.hid hR131.below
                      clear hr2 hg2 hen hR128 hQ128 hQ129 hQ130 hR131
                      go_wp2_with fail
                      refine hbu.mono ?_
                      clear hbu
                      rintro e v132 ⟨p, rfl, hta, hb⟩
                      obtain ⟨tb, rfl⟩ := hta.ptr
                      have HT := Lib.hid (And.intro hta hb)
                      clear hta hb
                      go_wp2_with fail
                      go_ret
                      exact ⟨_, rfl, HT.out.1, Below.next HB.out HT.out.2⟩
end Go.Proofs.YtccdkchmeelkfaaGreatDoor
