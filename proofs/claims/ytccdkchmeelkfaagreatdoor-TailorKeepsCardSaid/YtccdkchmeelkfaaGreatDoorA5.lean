/- Whole arrays, rows of structs, numbers in a block of their own. -/
import Derived.Test.YtccdkchmeelkfaaGreatDoorA2
import Derived.Deep.WholeRow
import Derived.Deep.MidRow
import Derived.Maps.OwnSet
import Derived.Lib.ReflectliteSwap
import Derived.Deep.RegionLaw
import Derived.Shelf.GgSortFunc.RowK
import Derived.Lib.SlKeysI
import Derived.Test.YtccdkchmeelkfaaGreatDoorA4

/- (M7) Whole arrays into and out of the block that was made last. Of no program. -/
namespace Go.Proofs.YtccdkchmeelkfaaGreatDoor
open Go.RowKit

section
variable {P : Program} {w : World} {ops : Array Oper} {rest : List Oper} {o : Oper} {a : Act} {Q : Exit → Act → World → Prop}
theorem wpList_storeN (hg : o.guard = none) (t : TypeId) (x y : Operand) (hop : o.op = .store t x y) (n : Nat) (c c' : Array Value) (hx : a.eval x = .pointer (some ⟨n, 0, none⟩)) (hn : n = w.heap.size) (hy : a.eval y = .agg c')
    (hi : (P.info? t).map (·.size) = some c'.size) (ho : c.size = c'.size) (h1 : c'.all (·.oneCell') = true)
    (h : wpList P ops Q rest (a.put o.dst undef) (w.alloc (.cells c' t))) : wpList P ops Q (o :: rest) a (w.alloc (.cells c t)) := by
  subst hn
  refine wpList_plain hg fun K' hK' => ?_
  have hrun := run_storeAt_new (P := P) w t c c' hi ho h1
  unfold Oper.wp
  simp [execOp, hop, hx, hy, hrun, Result.andThen]
  exact hK' _ _ h
theorem wpList_loadN (hg : o.guard = none) (t : TypeId) (x : Operand) (hop : o.op = .load t x) (n : Nat) (c : Array Value) (hx : a.eval x = .pointer (some ⟨n, 0, none⟩)) (hn : n = w.heap.size)
    (k : Nat) (e : TypeId) (hu : P.underlying t = some (.array k e)) (hi : (P.info? t).map (·.size) = some c.size)
    (h : wpList P ops Q rest (a.put o.dst (.agg c)) (w.alloc (.cells c t))) : wpList P ops Q (o :: rest) a (w.alloc (.cells c t)) := by
  subst hn
  refine wpList_plain hg fun K' hK' => ?_
  have hrun := run_loadAt_new (P := P) w t c k e hu hi
  unfold Oper.wp
  simp [execOp, hop, hx, hrun, Result.andThen]
  exact hK' _ _ h
theorem wpList_len_at {α : Type} {enc : α → Value} {r : Nat} {m : List (α × Value)} {kt et t : TypeId} (hg : o.guard = none) (x : Operand) (hop : o.op = Op.call { callee := Callee.builtin Builtin.len, args := #[x], argTypes := #[t] }) (ht : P.underlying t = some (.map kt et)) (hx : a.eval x = .map (some r)) (h : MapAt enc w r m)
    (hK : wpList P ops Q rest (a.put o.dst (.int .i64 m.length)) w) : wpList P ops Q (o :: rest) a w := by
  obtain ⟨es, clock, h1, h2, _⟩ := h
  have hl : es.size = m.length := by simpa using congrArg List.length h2
  have hrun : (Builtin.len_ #[t] o.type #[.map (some r)]).run P w = .ok (.int .i64 m.length) w := by
    simp [Builtin.len_, run_underlying ht, MapKept.run_getObj_map h1, goInt, Result.andThen, hl]
  refine wpList_plain hg fun K' hK' => ?_
  unfold Oper.wp
  simp [execOp, hop, resolve, invoke, builtin, hx, hrun, Result.andThen]
  exact hK' _ _ hK
theorem heap_setCell {w : World} {b i : Nat} {cur : Array Value} {t : TypeId} {fr : Nat × Nat} (v : Value) (h : w.heap[b]? = some (.cells cur t fr)) : (w.setCell ⟨b, i, none⟩ v).heap[b]? = some (.cells (cur.setIfInBounds i v) t fr) := by
  obtain ⟨hlt, hk⟩ := Array.getElem?_eq_some_iff.1 h
  show (w.heap.modify b _)[b]? = _
  rw [Array.getElem?_eq_getElem (by rw [Array.size_modify]; exact hlt), Array.getElem_modify_self, hk]
  rfl
theorem grownBy_setCell (w : World) (b i : Nat) (v : Value) : w.grownBy (w.setCell ⟨b, i, none⟩ v) (some b) :=
  ⟨rfl, rfl, rfl, by simp [World.setCell], fun k _ hk => Below.heap_setCell _ _ _ k (fun e => hk (by rw [e]))⟩
theorem cell_of_block {w : World} {b i : Nat} {cur : Array Value} {t : TypeId} {fr : Nat × Nat} (h : w.heap[b]? = some (.cells cur t fr)) {v : Value} (hv : cur[i]? = some v) : w.cell? ⟨b, i, none⟩ = some v := by
  simp [World.cell?, h, hv]
theorem frozen_of_block {w : World} {b i : Nat} {cur : Array Value} {t : TypeId} (h : w.heap[b]? = some (.cells cur t (0, 0))) : w.frozen? ⟨b, i, none⟩ = false := by
  simp [World.frozen?, h]
/-- One cell of a block is written. -/
theorem wpList_storeC (hg : o.guard = none) (t : TypeId) (x y : Operand) (hop : o.op = .store t x y) {b i : Nat} {cur : Array Value} {et : TypeId} (hx : a.eval x = .pointer (some ⟨b, i, none⟩)) (hb : w.heap[b]? = some (.cells cur et (0, 0))) (hi : i < cur.size) {v : Value} (hy : a.eval y = v) (h1 : v.oneCell' = true) {ie : TypeInfo} (hie : P.info? t = some ie) (hs : ie.size = 1)
    (h : ∀ w', w'.heap[b]? = some (.cells (cur.setIfInBounds i v) et (0, 0)) → w.grownBy w' (some b) → w'.heap.size = w.heap.size → wpList P ops Q rest (a.put o.dst undef) w') : wpList P ops Q (o :: rest) a w := by
  have hrun := Go.Lib.rl_storeVar_one (P := P) t ie hie hs ⟨b, i, none⟩ v cur[i] h1 w (cell_of_block hb (Array.getElem?_eq_getElem hi)) (frozen_of_block hb)
  refine wpList_plain hg fun K' hK' => ?_
  unfold Oper.wp
  simp [execOp, hop, hx, hy, Instr.storeAt, Instr.sureAddr, hrun, Result.andThen]
  exact hK' _ _ (h _ (heap_setCell v hb) (grownBy_setCell _ _ _ _) (by simp [World.setCell]))
/-- append as one step of a region that draws. -/
theorem step_append_sl {K : Act → World → Prop} {E : Prop} (hgd : o.guard = none) (s x : Operand) (t : TypeId)
    (ho : o.op = .call { callee := .builtin .append, args := #[s, x], argTypes := #[t, t] })
    (base : Nat) (e : TypeId) (i : TypeInfo) (z : Value) (k bytes : Nat) (ht : P.underlying t = some (.slice e)) (hi : P.info? e = some i) (hz : i.zero = some z)
    (hsize : i.size = k) (hby : i.bytes = bytes) (hzs : z.cells.size = k) (hsz : 0 < k)
    (v : Value) (n : Nat) (xs : List Value) (hs : a.eval s = v) (hown : w.ownsRow base e k v n xs)
    (sv : Value) (m : Nat) (news : List Value) (hx : a.eval x = sv) (hsl : Sl w k sv m news) (hm : 0 < m) (h1 : ∀ u ∈ news, u.oneCell' = true)
    (h63 : n + m ≤ maxLen) (hbytes : (n + m) * bytes ≤ 140737488355328) (hbase : base ≤ w.heap.size)
    (h : ∀ v' w', w'.ownsRow base e k v' (n + m) (xs ++ news) → w.grownBy w' v.ownBlock → K (a.put o.dst v') w') :
    if Region.wanted o (yielded ops a.tmps) = true then Oper.wp P o a w K Q else E := by
  have hw : Region.wanted o (yielded ops a.tmps) = true := by simp [Region.wanted, hgd]
  rw [if_pos hw]
  obtain ⟨g1, ad, c, rfl, g2, g3, g4⟩ := hsl
  obtain ⟨b, of, rfl, _, e2⟩ := g4 hm
  exact wp_append_own w s x t ho base e i z k bytes ht hi hz hsize hby hzs hsz v n xs hs hown ⟨b, of, none⟩ m c news hx g1 (fun j u hj => by rw [Addr.add_lit]; exact e2 j u hj) h1 h63 hbytes hbase fun v' w' h2 h3 _ => h v' w' h2 h3
theorem setCell_alloc_new (w : World) (c : Array Value) (t : TypeId) (i : Nat) (v : Value) : (w.alloc (.cells c t)).setCell ⟨w.heap.size, i, none⟩ v = w.alloc (.cells (c.setIfInBounds i v) t) := by
  simp only [World.setCell, World.alloc]
  congr 1
  apply Array.ext_getElem?
  intro j
  rw [Array.getElem?_modify]
  by_cases h : w.heap.size = j
  · subst h; simp
  · have h' : ¬ j = w.heap.size := fun e => h e.symm
    simp [h, h', Array.getElem?_push]
end
end Go.Proofs.YtccdkchmeelkfaaGreatDoor

/- (M8) A row of structs behind a sort: the same row, its elements permuted. Of no program. -/
namespace Go.Proofs.YtccdkchmeelkfaaGreatDoor
open Go.RowKit Go.Sort

theorem flatMap_at {α : Type} {enc : α → List Value} {k : Nat} (hk : ∀ x, (enc x).length = k) {l : List α} {j r : Nat} {x : α} (hx : l[j]? = some x) (hr : r < k) : (l.flatMap enc)[j * k + r]? = (enc x)[r]? := by
  induction l generalizing j with
  | nil => simp at hx
  | cons a t ih =>
    rw [List.flatMap_cons]
    cases j with
    | zero =>
      simp at hx; subst hx
      rw [List.getElem?_append_left (by rw [hk]; omega)]; simp
    | succ j =>
      simp at hx
      rw [List.getElem?_append_right (by rw [hk, Nat.add_mul]; omega), hk, show (j + 1) * k + r - k = j * k + r by rw [Nat.add_mul]; omega]
      exact ih hx
theorem flatMap_len {α : Type} {enc : α → List Value} {k : Nat} (hk : ∀ x, (enc x).length = k) (l : List α) : (l.flatMap enc).length = l.length * k := by
  induction l with
  | nil => simp
  | cons a t ih => rw [List.flatMap_cons, List.length_append, ih, hk, List.length_cons, Nat.add_mul]; omega
theorem flatK_list {α : Type} [Inhabited α] {enc : α → List Value} {k : Nat} (hk : ∀ x, (enc x).length = k) (d : Array α) : (flatK enc k d).toList = d.toList.flatMap enc := by
  apply List.ext_getElem?
  intro t
  by_cases ht : t < d.size * k
  · have k0 : 0 < k := by rcases Nat.eq_zero_or_pos k with h | h; · subst h; simp at ht
                          · exact h
    have hj : t / k < d.size := Nat.div_lt_of_lt_mul (by rwa [Nat.mul_comm] at ht)
    have hx : d.toList[t / k]? = some d[t / k] := by simp [hj]
    have h1 := flatMap_at hk hx (Nat.mod_lt t k0)
    rw [Nat.mul_comm (t / k) k, Nat.div_add_mod] at h1
    rw [h1]
    have h2 := get_flatK enc k d t ht
    rw [getElem!_pos d _ hj] at h2
    rw [Array.getElem?_toList, Array.getElem?_eq_getElem (by simpa using ht)]
    rw [getElem!_pos _ t (by simpa using ht)] at h2
    rw [h2, getElem!_pos _ _ (by rw [hk]; exact Nat.mod_lt t k0), List.getElem?_eq_getElem]
  · rw [List.getElem?_eq_none (by simp; omega), List.getElem?_eq_none (by rw [flatMap_len hk]; simp; omega)]

theorem heap_sortK {w : World} {g n : Nat} {os : Array Obj} {cur : Array Value} {e : TypeId} {fr : Nat × Nat} (F : Array Value) (hb : w.heap[g]? = some (.cells cur e fr)) :
    (grow (putRow id (Sort.ahead w n) g 0 F) os).heap[g]? = some (.cells (putCells id 0 F cur) e fr) := by
  have hg : g < w.heap.size := (Array.getElem?_eq_some_iff.1 hb).1
  rw [heap_grow_old _ _ (by simpa using hg)]
  simp [putRow, mapBlock, Sort.ahead, Array.getElem?_modify, hb, onCells]
theorem grownBy_sortK {w : World} {g n : Nat} {os : Array Obj} (F : Array Value) : w.grownBy (grow (putRow id (Sort.ahead w n) g 0 F) os) (some g) := by
  refine ⟨rfl, rfl, rfl, by simp, fun k hk hne => ?_⟩
  rw [heap_grow_old _ _ (by simpa using hk)]
  have : g ≠ k := fun e => hne (by rw [e])
  simp [putRow, mapBlock, Sort.ahead, Array.getElem?_modify, this]
theorem take_putCells_id (cur F : Array Value) (h : F.size ≤ cur.size) : (putCells id 0 F cur).toList.take F.size = F.toList := by
  apply List.ext_getElem?
  intro j
  by_cases hj : j < F.size
  · rw [List.getElem?_take_of_lt hj, Array.getElem?_toList]
    simp [putCells, hj, show j < cur.size by omega]
  · rw [List.getElem?_take_eq_none (by omega), List.getElem?_eq_none (by simp; omega)]
theorem holds_block_id {w : World} {g : Nat} {cur F : Array Value} {e : TypeId} (hb : w.heap[g]? = some (.cells cur e (0, 0))) (ht : cur.toList.take F.size = F.toList) : Holds id w g 0 F := by
  intro j hj
  refine ⟨?_, by simp [World.frozen?, hb]⟩
  have h1 : (cur.toList.take F.size)[j]? = F.toList[j]? := by rw [ht]
  rw [List.getElem?_take_of_lt hj] at h1
  simp only [World.cell?, hb, Nat.zero_add]
  simp only [Option.isSome_none, Bool.false_eq_true, if_false]
  rw [← Array.getElem?_toList, h1]
  simp [hj]
/-- The row owns what the sort has left in it. -/
theorem owns_sortK {α : Type} [Inhabited α] {enc : α → List Value} {k : Nat} (hk : ∀ x, (enc x).length = k) {w : World} {base g cap n : Nat} {e : TypeId} {os : Array Obj} {cur : Array Value} {d' : Array α} {m : Nat} (hm : d'.size = m) (hbase : base ≤ g) (hb : w.heap[g]? = some (.cells cur e (0, 0)))
    (h1 : m ≤ cap) (h2 : cap ≤ maxLen) (h3 : cur.size = cap * k) :
    (grow (putRow id (Sort.ahead w n) g 0 (flatK enc k d')) os).ownsRow base e k (.slice (some ⟨g, 0, none⟩) m cap) m (d'.toList.flatMap enc) := by
  have hF : (flatK enc k d').size = m * k := by rw [size_flatK, hm]
  refine ⟨by rw [flatMap_len hk]; simp [hm], .inr ⟨g, cap, _, rfl, hbase, heap_sortK _ hb, h1, h2, by simp [putCells, h3], ?_⟩⟩
  have := take_putCells_id cur (flatK enc k d') (by rw [hF, h3]; exact Nat.mul_le_mul_right k h1)
  rw [hF] at this
  rw [this, flatK_list hk]
end Go.Proofs.YtccdkchmeelkfaaGreatDoor

/- (M10) Numbers in a block of their own; rows of one element just laid. -/
namespace Go.Proofs.YtccdkchmeelkfaaGreatDoor
open Go.RowKit

theorem SlNew1 (w : World) (a : Value) (T n : Nat) (hn : n = w.heap.size) : Sl (w.alloc (.cells #[a] T)) 1 (.slice (some ⟨n, 0, none⟩) 1 1) 1 [a] := by
  subst hn
  refine ⟨rfl, _, 1, rfl, Nat.le_refl _, (fun h => by cases h), fun _ => ⟨w.heap.size, 0, rfl, by simp, fun j x hj => ?_⟩⟩
  exact new_cells w [a] _ _ rfl j x hj
theorem SlNew3 (w : World) (a b c : Value) (T n : Nat) (hn : n = w.heap.size) : Sl (w.alloc (.cells #[a, b, c] T)) 3 (.slice (some ⟨n, 0, none⟩) 1 1) 1 [a, b, c] := by
  subst hn
  refine ⟨rfl, _, 1, rfl, Nat.le_refl _, (fun h => by cases h), fun _ => ⟨w.heap.size, 0, rfl, by simp, fun j x hj => ?_⟩⟩
  exact new_cells w [a, b, c] _ _ rfl j x hj

def cellsI (l : List Int) : List Value := l.map (Value.int .i64)
theorem cellsN_one (l : List Int) : ∀ u ∈ cellsI l, u.oneCell' = true := by
  intro u hu
  obtain ⟨x, _, rfl⟩ := List.mem_map.1 hu
  rfl

theorem cellsI_append (a b : List Int) : cellsI (a ++ b) = cellsI a ++ cellsI b := by simp [cellsI]

/-- A slice of numbers in a block of its own that was laid since base; how far the block reaches behind them is left open. -/
def BlkI (w : World) (base : Nat) (v : Value) (l : List Int) : Prop :=
  (v = .slice none 0 0 ∧ l = []) ∨ ∃ g c cur, v = .slice (some ⟨g, 0, none⟩) l.length c ∧ base ≤ g ∧ w.heap[g]? = some (.cells cur 3 (0, 0)) ∧ l.length ≤ c ∧ cur.toList.take l.length = cellsI l

theorem BlkI.sl {w : World} {base : Nat} {v : Value} {l : List Int} (h : BlkI w base v l) : SlI w v l := by
  obtain ⟨rfl, rfl⟩ | ⟨g, c, cur, rfl, _, hb, hc, ht⟩ := h
  · exact SlI.nil w
  · refine ⟨by simp, _, c, rfl, hc, (fun h => by cases h), fun _ => ⟨g, 0, rfl, (Array.getElem?_eq_some_iff.1 hb).1, fun j x hj => ?_⟩⟩
    have hjl : j < l.length := by have := (List.getElem?_eq_some_iff.1 hj).1; simpa using this
    have h1 : (cur.toList.take l.length)[j]? = some x := by rw [ht]; exact hj
    rw [List.getElem?_take_of_lt hjl, Array.getElem?_toList] at h1
    rw [Nat.zero_add]
    exact cell_of_block hb h1
theorem BlkI.grown {w w' : World} {base : Nat} {v : Value} {l : List Int} {row : Option Nat} (h : BlkI w base v l) (hg : w.grownBy w' row) (hne : v.ownBlock = none ∨ v.ownBlock ≠ row) : BlkI w' base v l := by
  obtain ⟨rfl, rfl⟩ | ⟨g, c, cur, rfl, hbase, hb, hc, ht⟩ := h
  · exact .inl ⟨rfl, rfl⟩
  · refine .inr ⟨g, c, cur, rfl, hbase, (hg.block g (Array.getElem?_eq_some_iff.1 hb).1 ?_).trans hb, hc, ht⟩
    rcases hne with h | h
    · simp [Value.ownBlock] at h
    · simpa [Value.ownBlock] using h
theorem BlkI.obj {w : World} {base : Nat} {v : Value} {l : List Int} (h : BlkI w base v l) {j : Nat} {o : Obj} (hj : w.heap[j]? = some o) (hno : ∀ cur, o ≠ .cells cur 3 (0, 0)) : v.ownBlock = none ∨ v.ownBlock ≠ some j := by
  obtain ⟨rfl, rfl⟩ | ⟨g, c, cur, rfl, _, hb, _⟩ := h
  · exact .inl rfl
  · refine .inr fun e => ?_
    have : g = j := by simpa [Value.ownBlock] using e
    subst this; rw [hb] at hj; cases hj; exact hno cur rfl
theorem BlkI.lt {w : World} {base : Nat} {v : Value} {l : List Int} (h : BlkI w base v l) : ∀ b, v.ownBlock = some b → b < w.heap.size := by
  obtain ⟨rfl, rfl⟩ | ⟨g, c, cur, rfl, _, hb, _⟩ := h
  · intro b hb; simp [Value.ownBlock] at hb
  · intro b hb'
    have : g = b := by simpa [Value.ownBlock] using hb'
    subst this; exact (Array.getElem?_eq_some_iff.1 hb).1
/-- A write to a block of another kind leaves it alone. -/
theorem BlkI.write {w w' : World} {base : Nat} {v : Value} {l : List Int} {j : Nat} {o : Obj} (h : BlkI w base v l) (hg : w.grownBy w' (some j)) (hj : w.heap[j]? = some o) (hno : ∀ cur, o ≠ .cells cur 3 (0, 0)) : BlkI w' base v l := h.grown hg (h.obj hj hno)
theorem BlkI.below {w w' : World} {base : Nat} {v : Value} {l : List Int} (h : BlkI w base v l) (hb : Below w.heap.size w w') : BlkI w' base v l := by
  obtain ⟨rfl, rfl⟩ | ⟨g, c, cur, rfl, hbase, hb', hc, ht⟩ := h
  · exact .inl ⟨rfl, rfl⟩
  · exact .inr ⟨g, c, cur, rfl, hbase, (hb.block g (Array.getElem?_eq_some_iff.1 hb').1).trans hb', hc, ht⟩
theorem BlkI.base {w : World} {b b' : Nat} {v : Value} {l : List Int} (h : BlkI w b v l) (hb : b' ≤ b) : BlkI w b' v l := by
  obtain h | ⟨g, c, cur, hv, h1, h2⟩ := h
  · exact .inl h
  · exact .inr ⟨g, c, cur, hv, Nat.le_trans hb h1, h2⟩
theorem BlkI.shape {w : World} {base : Nat} {v : Value} {l : List Int} (h : BlkI w base v l) : ∃ a c, v = .slice a l.length c ∧ l.length ≤ c := by
  obtain ⟨rfl, rfl⟩ | ⟨g, c, cur, rfl, _, _, hc, _⟩ := h
  · exact ⟨none, 0, rfl, Nat.le_refl _⟩
  · exact ⟨_, c, rfl, hc⟩
theorem BlkI.own {w : World} {base : Nat} {v : Value} {l : List Int} {n : Nat} (hn : n = l.length) (h : w.ownsRow base 3 1 v n (cellsI l)) : BlkI w base v l := by
  subst hn
  obtain ⟨_, h⟩ := h
  rcases h with ⟨rfl, hz⟩ | ⟨g, cap, cur, rfl, hbase, hb, r1, r2, r3, r4⟩
  · exact .inl ⟨rfl, List.eq_nil_of_length_eq_zero hz⟩
  · exact .inr ⟨g, cap, cur, rfl, hbase, hb, r1, by simpa using r4⟩
/-- A row of the call's own, clipped. -/
theorem BlkI.clip {w : World} {base : Nat} {a : Option Addr} {c : Nat} {l : List Int} (h : BlkI w base (.slice a l.length c) l) : BlkI w base (.slice a l.length l.length) l := by
  obtain ⟨h, rfl⟩ | ⟨g, c', cur, hv, hbase, hb, hc, ht⟩ := h
  · simp only [Value.slice.injEq] at h
    obtain ⟨rfl, _, _⟩ := h
    exact .inl ⟨rfl, rfl⟩
  · cases hv
    exact .inr ⟨g, _, cur, rfl, hbase, hb, Nat.le_refl _, ht⟩

theorem clipI_any (w : World) (a : Option Addr) (n c : Nat) (hn : n ≤ c) (_h1 : n ≤ 1000000000) : Calls Tryz.prog 125 #[.slice a n c] w fun e w' => e = .returned (.slice a n n) ∧ w = w' := by
  go_enter Tryz.func125, Tryz.ntmps125
  go_wp2
  go_ret
  exact ⟨rfl, rfl⟩
end Go.Proofs.YtccdkchmeelkfaaGreatDoor
