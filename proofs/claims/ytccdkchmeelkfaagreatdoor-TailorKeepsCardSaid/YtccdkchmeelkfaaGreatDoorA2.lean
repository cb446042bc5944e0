/- Tables, rules and texts as plain lists. -/
import Derived.Test.YtccdkchmeelkfaaGreatDoorA1
import Derived.Shelf.SlIterI.Collect
import Derived.Lib.MapLaws
import Derived.Lib.QuoteLoop
import Derived.Lib.RuneCount

/- (M5) A map read as a list owns its entries as the shelf's laws on maps.Keys ask. -/
namespace Go.Proofs.YtccdkchmeelkfaaGreatDoor
open Go.RowKit Go.Maps Go.Sort
open Go.WideElems (Fit rd rg)

/-- No element is looked at. -/
def noElem : Value → Option (DataW Unit × List MemPlace) := fun _ => some (.nil, [])

theorem insert_perm (x : Lit × DataW Unit) : ∀ l, (DataW.insert x l).Perm (x :: l)
  | [] => .refl _
  | y :: r => by
    unfold DataW.insert
    split
    · exact .refl _
    · exact ((insert_perm x r).cons y).trans (.swap ..)
theorem foldr_insert_perm : ∀ l : List (Lit × DataW Unit), (l.foldr DataW.insert []).Perm l
  | [] => .refl _
  | x :: l => (insert_perm x _).trans ((foldr_insert_perm l).cons x)

theorem owns_of_map {P : Program} {k : TypeId} {w : World} {b : Nat} {m : List (Int × Value)} (hk : P.underlying k = some (.int .i64)) (h : MapAt (Value.int .i64) w b m) (hok : ∀ q ∈ m, i64ok q.1) (hnd : (m.map (·.1)).Nodup) (hl : m.length ≤ 1000000) :
    ∃ D : DataW Unit, w.ownsMap P k noElem b m.length D ∧ Maps.size D = m.length ∧ (intKeys D).Perm (m.map (·.1)) := by
  obtain ⟨es, clock, h1, h2, h3, h4⟩ := h
  have hlen : es.toList.length = m.length := by simpa using congrArg List.length h2
  have hk1 : es.toList.map (·.key) = m.map (fun p => Value.int .i64 p.1) := by
    have := congrArg (List.map Prod.fst) h2
    simpa [Function.comp_def] using this
  have hread : ∀ x ∈ es.toList, ∃ c, i64ok c ∧ x.key = .int .i64 c ∧ rd P k noElem x = some (.int .i64 c, .nil) := by
    intro x hx
    have : x.key ∈ m.map (fun p => Value.int .i64 p.1) := by rw [← hk1]; exact List.mem_map.2 ⟨x, hx, rfl⟩
    obtain ⟨p, hp, e⟩ := List.mem_map.1 this
    refine ⟨p.1, hok p hp, e.symm, ?_⟩
    unfold rd
    rw [← e, keyOf_int_mk hk (hok p hp).wf]; rfl
  refine ⟨.map ((es.toList.map (rg P k noElem)).foldr DataW.insert []), ⟨es, clock, h1, ⟨?_, ⟨h4, ?_, ?_⟩, fun x hx => ?_⟩, ?_, rfl⟩, ?_, ?_⟩
  · have : es.size = m.length := by simpa using hlen
    rw [this]; unfold maxLen; omega
  · rw [List.nodup_iff_pairwise_ne, List.pairwise_map]
    exact h3.imp fun h => by omega
  · rw [hk1]
    have : m.map (fun p => Value.int .i64 p.1) = (m.map (·.1)).map (Value.int .i64) := by simp
    rw [this, List.nodup_iff_pairwise_ne, List.pairwise_map]
    exact (List.nodup_iff_pairwise_ne.1 hnd).imp fun h e => h (by cases e; rfl)
  · obtain ⟨c, _, _, hr⟩ := hread x hx; exact ⟨_, hr⟩
  · have : es.size = m.length := by simpa using hlen
    omega
  · show List.length _ = _
    rw [(foldr_insert_perm _).length_eq, List.length_map, hlen]
  · show (List.map _ _).Perm _
    refine ((foldr_insert_perm _).map _).trans (List.Perm.of_eq ?_)
    rw [List.map_map]
    have h5 : es.toList.map (·.key) = (m.map (·.1)).map (Value.int .i64) := by rw [hk1]; simp
    have h6 : es.toList.map ((fun p : Lit × DataW Unit => intOf p.1) ∘ rg P k noElem) = es.toList.map (fun x => match x.key with | .int _ c => c | _ => 0) := by
      refine List.map_congr_left fun x hx => ?_
      obtain ⟨c, _, e, hr⟩ := hread x hx
      simp [rg, hr, e, intOf]
    rw [h6]
    have h7 := congrArg (List.map (fun v : Value => match v with | .int _ c => c | _ => 0)) h5
    simpa [Function.comp_def] using h7
end Go.Proofs.YtccdkchmeelkfaaGreatDoor

/- (M6) Map operations for the walk; laws on lists read as maps. -/
namespace Go.Proofs.YtccdkchmeelkfaaGreatDoor
open Go.RowKit Go.Maps

section
variable {P : Program} {kt et t : TypeId} {α : Type} {enc : α → Value} {ok : α → Prop} {w : World} {r : Nat} {m : List (α × Value)} [DecidableEq α]

theorem wpList_put_at {ops : Array Oper} {rest : List Oper} {o : Oper} {a : Act} {Q : Exit → Act → World → Prop} (hg : o.guard = none) (mo ko vo : Operand) (hop : o.op = Op.mapUpdate t mo ko vo) (K : KL P kt enc ok) (ht : P.underlying t = some (.map kt et))
    (hm : a.eval mo = .map (some r)) {k : α} (hkv : a.eval ko = enc k) {v : Value} (hv : a.eval vo = v) (h : MapAt enc w r m) (hok : ∀ p ∈ m, ok p.1) (hnd : (m.map (·.1)).Nodup) (hk : ok k)
    (hK : ∀ w', MapAt enc w' r (aput m k v) → w.grownBy w' (some r) → w'.heap.size = w.heap.size → wpList P ops Q rest (a.put o.dst undef) w') : wpList P ops Q (o :: rest) a w := by
  refine wpList_plain hg fun K' hK' => ?_
  obtain ⟨w', hrun, h1, h2, h3, _⟩ := h.run_put K ht hok hnd hk v
  unfold Oper.wp
  simp [execOp, hop, hm, hkv, hv, hrun, Result.andThen]
  exact hK' _ _ (hK w' h1 h2 h3)

theorem wpList_look_at {ops : Array Oper} {rest : List Oper} {o : Oper} {a : Act} {Q : Exit → Act → World → Prop} (hg : o.guard = none) (mo ko : Operand) (c : Bool) (hop : o.op = Op.lookup t mo ko c) (K : KL P kt enc ok) (ht : P.underlying t = some (.map kt et))
    (hm : a.eval mo = .map (some r)) {k : α} (hkv : a.eval ko = enc k) (h : MapAt enc w r m) (hok : ∀ p ∈ m, ok p.1) (hnd : (m.map (·.1)).Nodup) (hk : ok k) {z : Value} (hz : ∀ w, (zeroValue et).run P w = .ok z w) {v : Value} (hv : (if c then .tuple #[(alook m k).getD z, .bool (alook m k).isSome] else (alook m k).getD z) = v)
    (hK : wpList P ops Q rest (a.put o.dst v) w) : wpList P ops Q (o :: rest) a w := by
  refine wpList_plain hg fun K' hK' => ?_
  have hrun := h.run_look K ht hok hnd hk hz c
  rw [hv] at hrun
  unfold Oper.wp
  simp [execOp, hop, hm, hkv, hrun, Result.andThen]
  exact hK' _ _ hK
end

section
variable {α β : Type} [DecidableEq α]
theorem alook_aput (m : List (α × β)) (k j : α) (v : β) : alook (aput m k v) j = if k = j then some v else alook m j := by
  induction m with
  | nil => by_cases h : k = j <;> simp [aput, alook, h]
  | cons p r ih =>
    rw [aput]
    by_cases h : p.1 = k
    · rw [if_pos h]
      by_cases hj : k = j
      · rw [alook, if_pos hj]; simp [hj]
      · have hp : ¬ p.1 = j := by rw [h]; exact hj
        simp [alook, hj, hp]
    · rw [if_neg h, alook, ih]
      by_cases hj : p.1 = j
      · rw [if_pos hj, alook, if_pos hj, if_neg (fun e => h (by rw [hj, e]))]
      · rw [if_neg hj, alook, if_neg hj]
theorem aput_keys_mem {m : List (α × β)} {k : α} {v : β} {p : α × β} (h : p ∈ aput m k v) : p = (k, v) ∨ p ∈ m := by
  induction m with
  | nil => simp [aput] at h; exact .inl h
  | cons q r ih =>
    rw [aput] at h
    split at h
    · rcases List.mem_cons.1 h with h | h
      · exact .inl h
      · exact .inr (List.mem_cons_of_mem _ h)
    · rcases List.mem_cons.1 h with h | h
      · exact .inr (by simp [h])
      · rcases ih h with h | h
        · exact .inl h
        · exact .inr (List.mem_cons_of_mem _ h)
theorem aput_new {m : List (α × β)} {k : α} {v : β} (h : alook m k = none) : aput m k v = m ++ [(k, v)] := by
  have h := alook_none_iff.1 h
  induction m with
  | nil => rfl
  | cons p r ih => rw [aput, if_neg (h p (by simp)), ih (alook_none fun q hq => h q (by simp [hq])) (fun q hq => h q (by simp [hq]))]; rfl
theorem aput_nodup {m : List (α × β)} {k : α} {v : β} (h : (m.map (·.1)).Nodup) : ((aput m k v).map (·.1)).Nodup := by
  induction m with
  | nil => simp [aput]
  | cons p r ih =>
    rw [List.map_cons, List.nodup_cons] at h
    rw [aput]
    split
    · rename_i e; rw [List.map_cons, List.nodup_cons]; exact ⟨by rw [← e]; exact h.1, h.2⟩
    · rename_i e
      rw [List.map_cons, List.nodup_cons]
      refine ⟨fun hm => ?_, ih h.2⟩
      obtain ⟨q, hq, e2⟩ := List.mem_map.1 hm
      rcases aput_keys_mem hq with h2 | h2
      · rw [h2] at e2; exact e e2.symm
      · exact h.1 (List.mem_map.2 ⟨q, h2, e2⟩)
theorem aput_len (m : List (α × β)) (k : α) (v : β) : (aput m k v).length ≤ m.length + 1 := by
  induction m with
  | nil => simp [aput]
  | cons p r ih => rw [aput]; split <;> simp; omega
theorem alook_map {γ : Type} (f : β → γ) (m : List (α × β)) (k : α) : alook (m.map fun p => (p.1, f p.2)) k = (alook m k).map f := by
  induction m with
  | nil => rfl
  | cons p r ih => rw [List.map_cons, alook, alook]; by_cases h : p.1 = k <;> simp [h, ih]
theorem aput_map {γ : Type} (f : β → γ) (m : List (α × β)) (k : α) (v : β) : aput (m.map fun p => (p.1, f p.2)) k (f v) = (aput m k v).map fun p => (p.1, f p.2) := by
  induction m with
  | nil => rfl
  | cons p r ih => rw [List.map_cons, aput, aput]; by_cases h : p.1 = k <;> simp [h, ih]
omit [DecidableEq α] in
theorem keys_map {γ : Type} (f : β → γ) (m : List (α × β)) : (m.map fun p => (p.1, f p.2)).map (·.1) = m.map (·.1) := by simp
end
end Go.Proofs.YtccdkchmeelkfaaGreatDoor

/- (S2) A trie's blocks as lists: what Build lays, in plain words. No memory. -/
namespace Go.Proofs.YtccdkchmeelkfaaGreatDoor
open Go.RowKit

def zeroB : List Int := List.replicate 64 0
theorem okB_zero : okB zeroB := ⟨rfl, fun x hx => by have := List.eq_of_mem_replicate hx; subst this; unfold i32ok; omega⟩

theorem alook_snoc {α β : Type} [DecidableEq α] (L : List (α × β)) (c k : α) (v : β) (h : alook L c = none) : alook (L ++ [(c, v)]) k = if c = k then some v else alook L k := by
  rw [← aput_new h, alook_aput]

def ownAdd (own : List (Int × List Int)) (c : Int) (v : Nat) : List (Int × List Int) := aput own (c / 64) (((alook own (c / 64)).getD zeroB).set (c % 64).toNat (v : Nat))

structure OwnOk (L : List (Int × Nat)) (own : List (Int × List Int)) : Prop where
  nd : (own.map (·.1)).Nodup
  ok : ∀ p ∈ own, 0 ≤ p.1 ∧ p.1 ≤ 17411 ∧ p.2.length = 64 ∧ ∀ x ∈ p.2, 0 ≤ x ∧ x ≤ 3
  len : own.length ≤ L.length
  val : ∀ (h : Int) (j : Nat), j < 64 → ((alook own h).getD zeroB)[j]? = some (((alook L (h * 64 + j)).getD 0 : Nat) : Int)

theorem OwnOk.nil : OwnOk [] [] := ⟨by simp, by simp, by simp, fun h j hj => by
  rw [alook, Option.getD_none]
  show (List.replicate 64 (0 : Int))[j]? = _
  rw [List.getElem?_replicate, if_pos hj]; rfl⟩

theorem OwnOk.blk {L : List (Int × Nat)} {own : List (Int × List Int)} (h : OwnOk L own) (k : Int) : ((alook own k).getD zeroB).length = 64 ∧ ∀ x ∈ (alook own k).getD zeroB, 0 ≤ x ∧ x ≤ 3 := by
  cases hk : alook own k with
  | none => exact ⟨rfl, fun x hx => by have := List.eq_of_mem_replicate hx; subst this; decide⟩
  | some b => exact (h.ok _ (alook_mem hk)).2.2

theorem OwnOk.add {L : List (Int × Nat)} {own : List (Int × List Int)} (h : OwnOk L own) {c : Int} {v : Nat} (h0 : 0 ≤ c) (h1 : c ≤ 1114367) (hv : v ≤ 3) (hn : alook L c = none) : OwnOk (L ++ [(c, v)]) (ownAdd own c v) where
  nd := aput_nodup h.nd
  ok p hp := by
    rcases aput_keys_mem hp with e | hp
    · subst e
      have hb := h.blk (c / 64)
      refine ⟨by simp only; omega, by simp only; omega, by simp only [List.length_set]; exact hb.1, fun x hx => ?_⟩
      rcases List.mem_or_eq_of_mem_set hx with hx | hx
      · exact hb.2 x hx
      · subst hx; omega
    · exact h.ok p hp
  len := by have := aput_len own (c / 64) (((alook own (c / 64)).getD zeroB).set (c % 64).toNat (v : Nat)); have := h.len; simp [ownAdd]; omega
  val k j hj := by
    rw [alook_snoc _ _ _ _ hn]
    unfold ownAdd
    rw [alook_aput]
    by_cases hk : c / 64 = k
    · rw [if_pos hk, Option.getD_some, List.getElem?_set]
      by_cases hjc : (c % 64).toNat = j
      · rw [if_pos hjc, if_pos (by rw [(h.blk _).1]; omega), if_pos (by omega)]; rfl
      · rw [if_neg hjc, if_neg (by omega), hk, h.val k j hj]
    · rw [if_neg hk, if_neg (by omega), h.val k j hj]

theorem OwnOk.okB {L : List (Int × Nat)} {own : List (Int × List Int)} (h : OwnOk L own) (k : Int) : okB ((alook own k).getD zeroB) :=
  ⟨(h.blk k).1, fun x hx => by have := (h.blk k).2 x hx; unfold i32ok; omega⟩

/-- Blocks laid so far, those found, and where each key's lies. -/
structure TrOk (own : List (Int × List Int)) (ss : List Int) (q : Nat) (bl : List (List Int)) (fl : List (List Int × Nat)) (il : List (Int × Nat)) : Prop where
  bok : ∀ b ∈ bl, okB b
  blen : bl.length ≤ q + 1
  fnd : (fl.map (·.1)).Nodup
  fok : ∀ p ∈ fl, okB p.1 ∧ bl[p.2]? = some p.1
  ikeys : il.map (·.1) = ss.take q
  iok : ∀ p ∈ il, ∃ b, alook own p.1 = some b ∧ bl[p.2]? = some b

theorem TrOk.start (own : List (Int × List Int)) (ss : List Int) : TrOk own ss 0 [zeroB] [(zeroB, 0)] [] :=
  ⟨fun b hb => by simp at hb; subst hb; exact okB_zero, by simp, by simp, fun p hp => by simp at hp; subst hp; exact ⟨okB_zero, rfl⟩, by simp, by simp⟩

theorem TrOk.iknew {own : List (Int × List Int)} {ss : List Int} {q : Nat} {bl : List (List Int)} {fl : List (List Int × Nat)} {il : List (Int × Nat)} (h : TrOk own ss q bl fl il) (hss : ss.Nodup) {k : Int} (hk : ss[q]? = some k) : alook il k = none := by
  refine alook_none fun p hp e => ?_
  have : p.1 ∈ ss.take q := by rw [← h.ikeys]; exact List.mem_map.2 ⟨p, hp, rfl⟩
  rw [e] at this
  obtain ⟨i, hi⟩ := List.getElem?_of_mem this
  rw [List.getElem?_take] at hi
  split at hi
  · have := (List.getElem?_inj (List.getElem?_eq_some_iff.1 hi).1 hss).1 (hi.trans hk.symm); omega
  · cases hi

theorem TrOk.old {own : List (Int × List Int)} {ss : List Int} {q : Nat} {bl : List (List Int)} {fl : List (List Int × Nat)} {il : List (Int × Nat)} (h : TrOk own ss q bl fl il) (hss : ss.Nodup) {k : Int} (hk : ss[q]? = some k) {b : List Int} (hb : alook own k = some b) {i : Nat} (hi : alook fl b = some i) : TrOk own ss (q + 1) bl fl (aput il k i) where
  bok := h.bok
  blen := by have := h.blen; omega
  fnd := h.fnd
  fok := h.fok
  ikeys := by rw [aput_new (h.iknew hss hk), List.map_append, h.ikeys, List.take_add_one, hk]; rfl
  iok p hp := by
    rcases aput_keys_mem hp with e | hp
    · subst e; exact ⟨b, hb, (h.fok _ (alook_mem hi)).2⟩
    · exact h.iok p hp

theorem TrOk.new {own : List (Int × List Int)} {ss : List Int} {q : Nat} {bl : List (List Int)} {fl : List (List Int × Nat)} {il : List (Int × Nat)} (h : TrOk own ss q bl fl il) (hss : ss.Nodup) {k : Int} (hk : ss[q]? = some k) {b : List Int} (hb : alook own k = some b) (hbok : okB b) : TrOk own ss (q + 1) (bl ++ [b]) (aput fl b bl.length) (aput il k bl.length) where
  bok x hx := by
    rcases List.mem_append.1 hx with hx | hx
    · exact h.bok x hx
    · simp at hx; subst hx; exact hbok
  blen := by have := h.blen; simp; omega
  fnd := aput_nodup h.fnd
  fok p hp := by
    rcases aput_keys_mem hp with e | hp
    · subst e; exact ⟨hbok, by simp⟩
    · exact ⟨(h.fok p hp).1, List.getElem?_append_left (List.getElem?_eq_some_iff.1 (h.fok p hp).2).1 ▸ (h.fok p hp).2⟩
  ikeys := by rw [aput_new (h.iknew hss hk), List.map_append, h.ikeys, List.take_add_one, hk]; rfl
  iok p hp := by
    rcases aput_keys_mem hp with e | hp
    · subst e; exact ⟨b, hb, by simp⟩
    · obtain ⟨b', h1, h2⟩ := h.iok p hp
      exact ⟨b', h1, List.getElem?_append_left (List.getElem?_eq_some_iff.1 h2).1 ▸ h2⟩

def cellsB (b : List Int) : List Value := b.map (Value.int .i32)
def cellsBl (bl : List (List Int)) : List Value := bl.flatMap cellsB
theorem cellsBl_append (a b : List (List Int)) : cellsBl (a ++ b) = cellsBl a ++ cellsBl b := by simp [cellsBl]
theorem cellsBl_one (b : List Int) : cellsBl [b] = cellsB b := by simp [cellsBl]
theorem cellsBl_length {bl : List (List Int)} (h : ∀ b ∈ bl, okB b) : (cellsBl bl).length = bl.length * 64 := by
  induction bl with
  | nil => rfl
  | cons b r ih =>
    have := ih fun x hx => h x (by simp [hx])
    have h1 := (h b (by simp)).1
    simp [cellsBl, cellsB] at this ⊢; omega
theorem cellsBl_at {bl : List (List Int)} (h : ∀ b ∈ bl, okB b) {k j : Nat} {b : List Int} {x : Int} (hk : bl[k]? = some b) (hj : j < 64) (hx : b[j]? = some x) : (cellsBl bl)[k * 64 + j]? = some (.int .i32 x) := by
  induction bl generalizing k with
  | nil => simp at hk
  | cons a r ih =>
    have h1 := (h a (by simp)).1
    have hc : cellsBl (a :: r) = cellsB a ++ cellsBl r := rfl
    have hla : (cellsB a).length = 64 := by simp [cellsB, h1]
    rw [hc]
    cases k with
    | zero =>
      simp at hk; subst hk
      rw [List.getElem?_append_left (by omega)]
      simp [cellsB, hx]
    | succ k =>
      simp at hk
      rw [List.getElem?_append_right (by omega), hla, show (k + 1) * 64 + j - 64 = k * 64 + j by omega]
      exact ih (fun b hb => h b (by simp [hb])) hk
theorem cellsB_one (b : List Int) : ∀ u ∈ cellsB b, u.oneCell' = true := by
  intro u hu; obtain ⟨n, _, rfl⟩ := List.mem_map.1 hu; rfl
end Go.Proofs.YtccdkchmeelkfaaGreatDoor

/- (S3) Keys' greatest lengths, gathered in whatever order. No memory. -/
namespace Go.Proofs.YtccdkchmeelkfaaGreatDoor

def longK (D : List (List Int)) (c : Int) : Nat := (D.filter fun k => k.head? == some c).foldl (fun n k => max n k.length) 0

theorem foldl_max_iff {α : Type} (f : α → Nat) (l : List α) : ∀ a n, l.foldl (fun n x => max n (f x)) a ≤ n ↔ a ≤ n ∧ ∀ x ∈ l, f x ≤ n := by
  induction l with
  | nil => simp
  | cons x r ih => intro a n; rw [List.foldl_cons, ih]; simp only [List.mem_cons, forall_eq_or_imp, Nat.max_le, and_assoc]
theorem longK_le (D : List (List Int)) (c : Int) (n : Nat) : longK D c ≤ n ↔ ∀ k ∈ D, k.head? = some c → k.length ≤ n := by
  unfold longK
  rw [foldl_max_iff]
  simp
theorem longS_le_iff {ε : Type} (T : Tab ε) (c : Int) (n : Nat) : longS T c ≤ n ↔ ∀ e ∈ T, e.1.head? = some c → e.1.length ≤ n := by
  unfold longS
  rw [foldl_max_iff]
  simp
theorem longK_add (D : List (List Int)) (k : List Int) (c : Int) : longK (D ++ [k]) c = if k.head? = some c then max (longK D c) k.length else longK D c := by
  unfold longK
  rw [List.filter_append, List.foldl_append]
  by_cases h : k.head? = some c <;> simp [h]
theorem longK_eq {ε : Type} {T : Tab ε} {D : List (List Int)} (h : ∀ k, k ∈ D ↔ ∃ e ∈ T, e.1 = k) (c : Int) : longK D c = longS T c := by
  apply Nat.le_antisymm
  · rw [longK_le]
    intro k hk hc
    obtain ⟨e, he, rfl⟩ := (h k).1 hk
    exact (longS_le_iff T c _).1 (Nat.le_refl _) e he hc
  · rw [longS_le_iff]
    intro e he hc
    exact (longK_le D c _).1 (Nat.le_refl _) e.1 ((h _).2 ⟨e, he, rfl⟩) hc
theorem perm_erase {α : Type} {l : List α} {i : Nat} {x : α} (h : l[i]? = some x) : (x :: l.eraseIdx i).Perm l := by
  induction l generalizing i with
  | nil => simp at h
  | cons a r ih =>
    cases i with
    | zero => simp at h; subst h; exact .refl _
    | succ i =>
      simp at h
      rw [List.eraseIdx_cons_succ]
      exact (List.Perm.swap ..).trans ((ih h).cons a)
theorem perm_take_out {α : Type} {P left m : List α} {i : Nat} {x : α} (h : (P ++ left).Perm m) (hi : left[i]? = some x) : ((P ++ [x]) ++ left.eraseIdx i).Perm m := by
  refine List.Perm.trans ?_ h
  rw [List.append_assoc]
  exact (List.Perm.refl P).append (perm_erase hi)

/-- What build has gathered of the keys D. -/
structure FirstOk (D : List (List Int)) (f : List (Int × Nat)) : Prop where
  nd : (f.map (·.1)).Nodup
  ok : ∀ p ∈ f, 0 ≤ p.1 ∧ p.1 ≤ 1114367 ∧ p.2 ≤ 3
  len : f.length ≤ D.length
  val : ∀ c, (alook f c).getD 0 = longK D c
theorem FirstOk.nil : FirstOk [] [] := ⟨by simp, by simp, by simp, fun _ => rfl⟩
theorem FirstOk.add {D : List (List Int)} {f : List (Int × Nat)} (h : FirstOk D f) {k : List Int} (hk : okKey k) {c : Int} (hc : k.head? = some c) : FirstOk (D ++ [k]) (aput f c (max ((alook f c).getD 0) k.length)) where
  nd := aput_nodup h.nd
  ok p hp := by
    have hcm : c ∈ k := List.mem_of_mem_head? (by rw [hc]; rfl)
    have hs := isSign_bd (hk.2.2 c hcm)
    rcases aput_keys_mem hp with e | hp
    · subst e
      refine ⟨hs.1, hs.2, ?_⟩
      have h3 := hk.2.1
      have : (alook f c).getD 0 ≤ 3 := by
        cases ha : alook f c with
        | none => simp
        | some v => have := (h.ok _ (alook_mem ha)).2.2; simpa using this
      simp only; omega
    · exact h.ok p hp
  len := by have := aput_len f c (max ((alook f c).getD 0) k.length); have := h.len; simp; omega
  val d := by
    rw [alook_aput, longK_add, hc]
    by_cases hd : c = d
    · subst hd; simp [h.val]
    · rw [if_neg hd, if_neg (fun e => hd (Option.some.inj e)), h.val]
end Go.Proofs.YtccdkchmeelkfaaGreatDoor

/- (S4) A table with one more entry. No memory. -/
namespace Go.Proofs.YtccdkchmeelkfaaGreatDoor

theorem mem_iff_alook {α β : Type} [DecidableEq α] {m : List (α × β)} (hn : (m.map (·.1)).Nodup) (p : α × β) : p ∈ m ↔ alook m p.1 = some p.2 := by
  refine ⟨fun hp => ?_, fun h => alook_mem h⟩
  induction m with
  | nil => cases hp
  | cons q r ih =>
    rw [List.map_cons, List.nodup_cons] at hn
    rcases List.mem_cons.1 hp with h | h
    · rw [alook, h, if_pos rfl]
    · have : q.1 ≠ p.1 := fun e => hn.1 (by rw [e]; exact List.mem_map.2 ⟨p, h, rfl⟩)
      rw [alook, if_neg this]; exact ih hn.2 h
theorem perm_of_alook {α β : Type} [DecidableEq α] {m m' : List (α × β)} (hn : (m.map (·.1)).Nodup) (hn' : (m'.map (·.1)).Nodup) (h : ∀ k, alook m k = alook m' k) : m.Perm m' := by
  have nd : ∀ {m : List (α × β)}, (m.map (·.1)).Nodup → m.Nodup := fun h => by
    rw [List.nodup_iff_pairwise_ne, List.pairwise_map] at h
    exact h.imp fun h e => h (by rw [e])
  rw [List.perm_ext_iff_of_nodup (nd hn) (nd hn')]
  intro p
  rw [mem_iff_alook hn, mem_iff_alook hn', h]
theorem aput_perm {α β : Type} [DecidableEq α] {m m' : List (α × β)} (hp : m.Perm m') (hn : (m.map (·.1)).Nodup) (k : α) (v : β) : (aput m k v).Perm (aput m' k v) :=
  perm_of_alook (aput_nodup hn) (aput_nodup ((hp.map _).nodup_iff.1 hn)) fun j => by rw [alook_aput, alook_aput, alook_perm hp hn]

/-- Maps of keys that read as lists: put on both sides. -/
theorem ents_put {T : Tab Nat} {m : List (K3 × Value)} {w : World} (h2 : m.map (·.1) = T.map (fun e => k3 e.1)) (h3 : ∀ (i : Nat) (q : K3 × Value) (e : List Int × List Nat), m[i]? = some q → T[i]? = some e → SlE w q.2 e.2) (hk : ∀ e ∈ T, okKey e.1) {k : List Int} (hok : okKey k) {v : Value} {l : List Nat} (hv : SlE w v l) :
    (aput m (k3 k) v).map (·.1) = (aput T k l).map (fun e => k3 e.1) ∧ ∀ (i : Nat) (q : K3 × Value) (e : List Int × List Nat), (aput m (k3 k) v)[i]? = some q → (aput T k l)[i]? = some e → SlE w q.2 e.2 := by
  induction m generalizing T with
  | nil =>
    cases T with
    | nil =>
      refine ⟨rfl, fun i q e hq he => ?_⟩
      cases i with
      | zero => simp [aput] at hq he; subst hq he; exact hv
      | succ i => simp [aput] at hq
    | cons e r => simp at h2
  | cons q r ih =>
    cases T with
    | nil => simp at h2
    | cons e s =>
      simp only [List.map_cons, List.cons.injEq] at h2
      by_cases he : e.1 = k
      · have hq : q.1 = k3 k := by rw [h2.1, he]
        rw [aput, aput, if_pos he, if_pos hq]
        refine ⟨by simp [h2.2], fun i q' e' hq' he' => ?_⟩
        cases i with
        | zero => simp at hq' he'; subst hq' he'; exact hv
        | succ i => exact h3 (i + 1) q' e' hq' he'
      · have hq : q.1 ≠ k3 k := fun h => he (k3_inj (hk e (by simp)) hok (by rw [← h2.1, h]))
        rw [aput, aput, if_neg he, if_neg hq]
        have := ih h2.2 (fun i q' e' hq' he' => h3 (i + 1) q' e' hq' he') (fun x hx => hk x (by simp [hx]))
        refine ⟨by simp [this.1, h2.1], fun i q' e' hq' he' => ?_⟩
        cases i with
        | zero => simp at hq' he'; subst hq' he'; exact h3 0 q e rfl rfl
        | succ i => exact this.2 i q' e' hq' he'

/-- Table.With: the table, or why not. -/
def withS {ε : Type} (T : Tab ε) (k : List Int) (l : List ε) : Except Int (Tab ε) :=
  if ¬ okKey k ∨ 8 < l.length then .error 1 else if 500 < (aput T k l).length then .error 65 else .ok (aput T k l)

theorem okTab_put {ε : Type} {T : Tab ε} (h : okTab T) {k : List Int} (hk : okKey k) {l : List ε} (hl : l.length ≤ 8) (hn : (aput T k l).length ≤ 500) : okTab (aput T k l) :=
  ⟨fun e he => by rcases aput_keys_mem he with h1 | h1; subst h1; exact hk; exact h.1 e h1, aput_nodup h.2.1, hn, fun e he => by rcases aput_keys_mem he with h1 | h1; subst h1; exact hl; exact h.2.2.2 e h1⟩
end Go.Proofs.YtccdkchmeelkfaaGreatDoor

/- (S6) A table with each element mapped. No memory. -/
namespace Go.Proofs.YtccdkchmeelkfaaGreatDoor

def mapT {ε δ : Type} (f : ε → δ) (T : Tab ε) : Tab δ := T.map fun e => (e.1, e.2.map f)
theorem mapT_keys {ε δ : Type} (f : ε → δ) (T : Tab ε) : (mapT f T).map (·.1) = T.map (·.1) := by simp [mapT]
theorem longS_mapT {ε δ : Type} (f : ε → δ) (T : Tab ε) (c : Int) : longS (mapT f T) c = longS T c := by
  apply Nat.le_antisymm
  · rw [longS_le_iff]
    intro e he hc
    obtain ⟨e0, h0, rfl⟩ := List.mem_map.1 he
    exact (longS_le_iff T c _).1 (Nat.le_refl _) e0 h0 hc
  · rw [longS_le_iff]
    intro e he hc
    exact (longS_le_iff (mapT f T) c _).1 (Nat.le_refl _) (e.1, e.2.map f) (List.mem_map.2 ⟨e, he, rfl⟩) hc
theorem okTab_mapT {ε δ : Type} (f : ε → δ) {T : Tab ε} (h : okTab T) : okTab (mapT f T) :=
  ⟨fun e he => by obtain ⟨e0, h0, rfl⟩ := List.mem_map.1 he; exact h.1 e0 h0, by rw [mapT_keys]; exact h.2.1, by rw [mapT, List.length_map]; exact h.2.2.1,
   fun e he => by obtain ⟨e0, h0, rfl⟩ := List.mem_map.1 he; simpa using h.2.2.2 e0 h0⟩
theorem mapT_perm {ε δ : Type} (f : ε → δ) {T T' : Tab ε} (h : T.Perm T') : (mapT f T).Perm (mapT f T') := h.map _
theorem alook_mapT {ε δ : Type} (f : ε → δ) (T : Tab ε) (k : List Int) : alook (mapT f T) k = (alook T k).map (List.map f) := alook_map (List.map f) T k
end Go.Proofs.YtccdkchmeelkfaaGreatDoor

/- (S7) Tailoring as plain lists: what has, move, rule and Apply answer. No memory. -/
namespace Go.Proofs.YtccdkchmeelkfaaGreatDoor

/-- The anchor's last element, one further at a level. -/
def newW (l : Int) (x : Nat) : Nat := if l = 1 then mkw (wt 1 x + 1) 32 2 false else if l = 2 then setw 3 (setw 2 x (wt 2 x + 1)) 2 else setw l x (wt l x + 1)
theorem upW_lt (l : Int) (p : Nat) {e : Nat} (h : e < 4294967296) : upW l p e < 4294967296 := by unfold upW; split; exact setw_lt _ _ h; exact h
theorem newW_lt (l : Int) {x : Nat} (h : x < 4294967296) (hp : l = 1 → wt 1 x ≤ 64255) : newW l x < 4294967296 := by
  unfold newW; split
  · rename_i hl; exact mkw_lt _ (by have := hp hl; omega) (by decide) (by decide)
  · split
    · exact setw_lt _ _ (setw_lt _ _ h)
    · exact setw_lt _ _ h

/-- The anchor up to its last element that has a weight of a level, backwards. -/
def cutS (l : Int) (A : List Nat) : List Nat := A.reverse.dropWhile fun e => wt l e == 0
/-- tailor's move: the table and the anchor behind it, or why not. -/
def moveS (T : Tab Nat) (A : List Nat) (l : Int) : Except Int (Tab Nat × List Nat) :=
  match cutS l A with
  | [] => .error 1
  | x :: r => if l = 1 ∧ 64255 < wt 1 x then .error 1 else if hasS T l (mostW l) then .error 60 else .ok (mapT (upW l (wt l x)) T, r.reverse.map (upW l (wt l x)) ++ [newW l x])

/-- A rule. -/
structure RuleP where
  rel : Int
  seq : List Int
  exp : List Int

def ruleS (T : Tab Nat) (A : List Nat) (x : RuleP) : Except Int (Tab Nat × List Nat) :=
  if x.rel = 1 then (if 8 < (ofS implW T x.seq).length then .error 1 else .ok (T, ofS implW T x.seq))
  else match (if x.rel = 5 then .ok (T, A) else moveS T A (x.rel - 1)) with
    | .error e => .error e
    | .ok (T1, A1) => match withS T1 x.seq (A1 ++ ofS implW T1 x.exp) with
      | .error e => .error e
      | .ok T2 => .ok (T2, A1)

/-- The rules, one behind the other. -/
def goS (T : Tab Nat) (A : List Nat) (reset : Bool) : List RuleP → Except Int (Tab Nat)
  | [] => .ok T
  | x :: r => if (reset || x.rel == 1) = false ∨ x.rel < 1 ∨ 5 < x.rel then .error 1 else match ruleS T A x with
    | .error e => .error e
    | .ok (T1, A1) => goS T1 A1 (reset || x.rel == 1) r
/-- tailor's Apply. -/
def applyS (T : Tab Nat) (L : List RuleP) : Except Int (Tab Nat) :=
  match goS T [] false L with
  | .error e => .error e
  | .ok T1 => if checkS T1 = 0 then .ok T1 else .error (checkS T1)

/-- The first table. -/
def rootS : Tab Nat :=
  ([32, 95, 45, 44, 46, 39].zipIdx.map fun c : Int × Nat => ([c.1], [mkw (16 + 4 * c.2) 32 2 true])) ++
  ((List.range 10).map fun i : Nat => ([48 + (i : Int)], [mkw (128 + 4 * i) 32 2 false])) ++
  ((List.range 26).flatMap fun i : Nat => [([97 + (i : Int)], [letterW (97 + i) 2]), ([65 + (i : Int)], [letterW (97 + i) 8])]) ++
  ([768, 769, 770, 771, 772, 776, 778, 807].map fun c : Int => ([c], [mkw 0 (markW c) 2 false])) ++
  ([((192 : Int), (97 : Int), [768, 769, 770, 771, 776, 778]), (199, 99, [807]), (200, 101, [768, 769, 770, 776]), (204, 105, [768, 769, 770, 776]), (209, 110, [771]), (210, 111, [768, 769, 770, 771, 776]), (217, 117, [768, 769, 770, 776]), (221, 121, [(769 : Int)])].flatMap fun x => x.2.2.zipIdx.flatMap fun m : Int × Nat =>
    [([x.1 + m.2], [letterW x.2.1 8, mkw 0 (markW m.1) 2 false]), ([x.1 + m.2 + 32], [letterW x.2.1 2, mkw 0 (markW m.1) 2 false])]) ++
  [([223], [letterW 115 4, letterW 115 4]), ([198], [letterW 97 10, letterW 101 10]), ([230], [letterW 97 4, letterW 101 4]), ([173], [])]
end Go.Proofs.YtccdkchmeelkfaaGreatDoor

/- (S8) Laws of weights when elements are raised; the first table reckoned. No memory. -/
namespace Go.Proofs.YtccdkchmeelkfaaGreatDoor

/-- One above the greatest weight of a level. -/
def bndW (l : Int) : Nat := if l = 1 then 65536 else if l = 2 then 256 else 128
def lvl (l : Int) : Prop := l = 1 ∨ l = 2 ∨ l = 3
theorem wt_bnd {l : Int} (hl : lvl l) {e : Nat} (h : e < 4294967296) : wt l e < bndW l := by
  rcases hl with rfl | rfl | rfl <;> simp [wt, bndW] <;> omega
theorem wt_setw {l j : Int} (hl : lvl l) (hj : lvl j) {e x : Nat} (_h : e < 4294967296) (hx : x < bndW l) : wt j (setw l e x) = if j = l then x else wt j e := by
  rcases hl with rfl | rfl | rfl <;> rcases hj with rfl | rfl | rfl <;> simp [wt, bndW, setw] at * <;> omega
theorem isVar_setw {l : Int} (hl : lvl l) (e x : Nat) : isVar (setw l e x) = isVar e := by
  unfold isVar
  rcases hl with rfl | rfl | rfl <;> simp [setw] <;> congr 1 <;> omega
theorem wt_mkw {p s t : Nat} (v : Bool) (_hp : p < 65536) (hs : s < 256) (ht : t < 128) : wt 1 (mkw p s t v) = p ∧ wt 2 (mkw p s t v) = s ∧ wt 3 (mkw p s t v) = t := by
  cases v <;> simp [mkw, wt] <;> omega
theorem upW_wt {l j : Int} (hl : lvl l) (hj : lvl j) (p : Nat) {e : Nat} (h : e < 4294967296) (hb : wt l e + 1 < bndW l ∨ l = 1) : wt j (upW l p e) = if j = l ∧ p < wt l e ∧ (1 < l ∨ wt l e ≤ 64255) then wt l e + 1 else wt j e := by
  unfold upW
  by_cases hc : p < wt l e ∧ (1 < l ∨ wt l e ≤ 64255)
  · rw [if_pos hc, wt_setw hl hj h]
    · by_cases hjl : j = l <;> simp [hjl, hc]
    · rcases hb with hb | hb
      · exact hb
      · subst hb; have := hc.2; simp [bndW]; omega
  · rw [if_neg hc, if_neg (fun h => hc h.2)]
theorem upW_ok {l : Int} (hl : lvl l) (p : Nat) {e : Nat} (h : e < 4294967296) (hb : wt l e + 1 < bndW l ∨ l = 1) (hp : 0 < p) (hok : okw e = true) : okw (upW l p e) = true := by
  have hv : isVar (upW l p e) = isVar e := by unfold upW; split; exact isVar_setw hl _ _; rfl
  have h1 := upW_wt hl (.inl rfl) p h hb
  have h2 := upW_wt hl (.inr (.inl rfl)) p h hb
  have h3 := upW_wt hl (.inr (.inr rfl)) p h hb
  have z1 : decide (0 < wt 1 (upW l p e)) = decide (0 < wt 1 e) := by
    rw [h1]; split
    · rename_i hc; obtain ⟨hc1, hc2, _⟩ := hc; subst hc1; simp; omega
    · rfl
  have z2 : decide (0 < wt 2 (upW l p e)) = decide (0 < wt 2 e) := by
    rw [h2]; split
    · rename_i hc; obtain ⟨hc1, hc2, _⟩ := hc; subst hc1; simp; omega
    · rfl
  have z3 : decide (0 < wt 3 (upW l p e)) = decide (0 < wt 3 e) := by
    rw [h3]; split
    · rename_i hc; obtain ⟨hc1, hc2, _⟩ := hc; subst hc1; simp; omega
    · rfl
  unfold okw at *
  rw [z1, z2, z3, hv]; exact hok

theorem rootS_keys : (rootS.map (·.1)).Nodup := by decide +kernel
theorem rootS_ok : okTab rootS := by
  refine ⟨?_, rootS_keys, by decide +kernel, by decide +kernel⟩
  decide +kernel
theorem rootS_check : checkS rootS = 0 := by decide +kernel
end Go.Proofs.YtccdkchmeelkfaaGreatDoor

/- (S9) The reader of rules as plain lists of signs. No memory. -/
namespace Go.Proofs.YtccdkchmeelkfaaGreatDoor

/-- The next sign; below 0: none. -/
def sgnL : List Int → Int
  | [] => -1
  | c :: _ => c
/-- Behind blanks and line feeds. -/
def blankL : List Int → List Int
  | [] => []
  | c :: r => if c = 32 ∨ c = 10 then blankL r else c :: r
/-- How many signs '<', at most n, and what is behind. -/
def ltL : Nat → List Int → Nat × List Int
  | 0, l => (0, l)
  | _ + 1, [] => (0, [])
  | n + 1, c :: r => if c = 60 then ((ltL n r).1 + 1, (ltL n r).2) else (0, c :: r)
/-- A relation, and what is behind; 0: none. -/
def relL (l : List Int) : Int × List Int :=
  if sgnL l = 38 then (1, l.tail) else if sgnL l = 61 then (5, l.tail) else
    if (ltL 3 l).1 = 0 then (0, l) else (1 + ((ltL 3 l).1 : Int), (ltL 3 l).2)
/-- A sequence's signs behind those that were read; none: it is none. -/
def seqGo (out : List Int) : List Int → Option (List Int) × List Int
  | [] => (some out, [])
  | c :: r => if specialS c = true ∧ c ≠ 92 then (some out, c :: r) else if out.length = 3 then (none, c :: r) else
    if c = 92 then (match r with
      | [] => (none, [])
      | d :: r' => seqGo (out ++ [d]) r')
    else seqGo (out ++ [c]) r
/-- A sequence, where it is one, and what is behind. -/
def seqL (l : List Int) : Option (List Int) × List Int :=
  match seqGo [] (blankL l) with
  | (none, r) => (none, r)
  | (some out, r) => (if out = [] then none else some out, r)
/-- A rule, where it is one, and what is behind (or where it does not go on). -/
def ruleL (first : Bool) (l : List Int) : Option RuleP × List Int :=
  if (relL l).1 = 0 ∨ first = true ∧ (relL l).1 ≠ 1 then (none, l) else
    match seqL (relL l).2 with
    | (none, r1) => (none, r1)
    | (some sq, r1) => if (relL l).1 = 1 ∨ sgnL (blankL r1) ≠ 47 then (some ⟨(relL l).1, sq, []⟩, r1) else
      match seqL (blankL r1).tail with
      | (none, r3) => (none, r3)
      | (some ex, r3) => (some ⟨(relL l).1, sq, ex⟩, r3)
/-- Rules, behind those that were read; else where it does not go on. -/
def parseL : Nat → List RuleP → List Int → Except (List Int) (List RuleP)
  | 0, _, l => .error l
  | n + 1, out, l => if blankL l = [] then .ok out else
    match ruleL (out.length == 0) (blankL l) with
    | (none, r) => .error r
    | (some x, r) => parseL n (out ++ [x]) r
/-- How many bytes a sign has. -/
def putLen (c : Int) : Nat := if 1114112 ≤ c then 1 else if c < 128 then 1 else if c < 2048 then 2 else if c < 65536 then 3 else 4
def putLens (l : List Int) : Nat := (l.map putLen).sum
/-- rules.Parse: the rules; else the place and what is wrong. -/
def parseS (s : List Int) : Except (Nat × Int) (List RuleP) :=
  match parseL (s.length + 1) [] s with
  | .error r => .error (putLens (s.take (s.length - r.length)), 10)
  | .ok L => if 40 < L.length then .error (0, 65) else .ok L

theorem blankL_le (l : List Int) : (blankL l).length ≤ l.length := by
  induction l with
  | nil => simp [blankL]
  | cons c r ih => rw [blankL]; split <;> simp; omega
theorem blankL_suf (l : List Int) : blankL l <:+ l := by
  induction l with
  | nil => exact List.suffix_refl _
  | cons c r ih => rw [blankL]; split; exact ih.trans (List.suffix_cons _ _); exact List.suffix_refl _
theorem ltL_suf (n : Nat) (l : List Int) : (ltL n l).2 <:+ l := by
  induction n generalizing l with
  | zero => exact List.suffix_refl _
  | succ n ih =>
    cases l with
    | nil => exact List.suffix_refl _
    | cons c r => rw [ltL]; split; exact (ih r).trans (List.suffix_cons _ _); exact List.suffix_refl _
theorem tail_suf (l : List Int) : l.tail <:+ l := by cases l with | nil => exact List.suffix_refl _ | cons c r => exact List.suffix_cons _ _
theorem relL_suf (l : List Int) : (relL l).2 <:+ l := by
  unfold relL
  split
  · exact tail_suf l
  · split
    · exact tail_suf l
    · split
      · exact List.suffix_refl _
      · exact ltL_suf 3 l
theorem seqGo_suf (n : Nat) : ∀ (out l : List Int), l.length ≤ n → (seqGo out l).2 <:+ l := by
  induction n with
  | zero =>
    intro out l h
    have : l = [] := List.eq_nil_of_length_eq_zero (by omega)
    subst this; simp [seqGo]
  | succ n ih =>
    intro out l h
    match l with
    | [] => simp [seqGo]
    | [c] => rw [seqGo]; split; exact List.suffix_refl _; split; exact List.suffix_refl _; split; exact List.nil_suffix; simp [seqGo]
    | c :: d :: r =>
      rw [seqGo]
      simp only [List.length_cons] at h
      split
      · exact List.suffix_refl _
      · split
        · exact List.suffix_refl _
        · split
          · exact (ih _ _ (by omega)).trans ((List.suffix_cons _ _).trans (List.suffix_cons _ _))
          · exact (ih _ _ (by simp; omega)).trans (List.suffix_cons _ _)
/-- Behind a backslash. -/
def escL (out : List Int) : List Int → Option (List Int) × List Int
  | [] => (none, [])
  | d :: r' => seqGo (out ++ [d]) r'
theorem seqGo_cons (out : List Int) (c : Int) (r : List Int) : seqGo out (c :: r) = if specialS c = true ∧ c ≠ 92 then (some out, c :: r) else if out.length = 3 then (none, c :: r) else
    if c = 92 then escL out r else seqGo (out ++ [c]) r := by
  cases r with
  | nil => simp [seqGo, escL]
  | cons d r => rw [seqGo]; rfl
theorem seqL_suf (l : List Int) : (seqL l).2 <:+ l := by
  have h := (seqGo_suf _ [] (blankL l) (Nat.le_refl _)).trans (blankL_suf l)
  unfold seqL
  split
  · rename_i r hr; rw [hr] at h; exact h
  · rename_i o r hr; rw [hr] at h; exact h
theorem ruleL_suf (f : Bool) (l : List Int) : (ruleL f l).2 <:+ l := by
  unfold ruleL
  split
  · exact List.suffix_refl _
  · have h1 := (seqL_suf (relL l).2).trans (relL_suf l)
    split
    · rename_i r hr; rw [hr] at h1; exact h1
    · rename_i o r hr
      rw [hr] at h1
      split
      · exact h1
      · have h2 := (seqL_suf (blankL r).tail).trans ((tail_suf _).trans ((blankL_suf r).trans h1))
        split
        · rename_i r3 hr3; rw [hr3] at h2; exact h2
        · rename_i o3 r3 hr3; rw [hr3] at h2; exact h2
/-- A rule that was read takes a sign at least. -/
theorem relL_lt {l : List Int} (h : (relL l).1 ≠ 0) : (relL l).2.length < l.length := by
  unfold relL at *
  have key : ∀ {c : Int}, sgnL l = c → c ≠ -1 → l.tail.length < l.length := by
    intro c hc h0
    cases l with
    | nil => exact absurd hc.symm h0
    | cons x r => simp
  split
  · rename_i h1; exact key h1 (by decide)
  · split
    · rename_i h1; exact key h1 (by decide)
    · split
      · rename_i h1 h2 h3; simp [h1, h2, h3] at h
      · rename_i h3
        cases l with
        | nil => simp [ltL] at h3
        | cons c r =>
          rw [ltL] at h3 ⊢
          by_cases hc : c = 60
          · rw [if_pos hc]; have := (ltL_suf 2 r).length_le; simp; omega
          · rw [if_neg hc] at h3; simp at h3
theorem ruleL_lt {f : Bool} {l r : List Int} {x : RuleP} (h : ruleL f l = (some x, r)) : r.length < l.length := by
  unfold ruleL at h
  split at h
  · cases h
  · rename_i h0
    have h0 : (relL l).1 ≠ 0 := fun e => h0 (.inl e)
    have hl := relL_lt h0
    have h1 := (seqL_suf (relL l).2).length_le
    split at h
    · cases h
    · rename_i o r1 hr
      rw [hr] at h1
      split at h
      · cases h; simp only at h1; omega
      · have h2 := (seqL_suf (blankL r1).tail).length_le
        have h3 := blankL_le r1
        split at h
        · cases h
        · rename_i o3 r3 hr3; rw [hr3] at h2; cases h; simp only [List.length_tail] at h1 h2; omega
end Go.Proofs.YtccdkchmeelkfaaGreatDoor

/- (S10) Texts as lists of bytes: their signs. No memory. -/
namespace Go.Proofs.YtccdkchmeelkfaaGreatDoor
open Go.Lib

/-- A text's first sign, and how many bytes it has. -/
def signL (l : List UInt8) : Int × Nat := if (decodeL l).1 = 65533 ∧ (decodeL l).2 = 1 then (1114112 + ((l.getD 0 0).toNat : Int), 1) else (((decodeL l).1 : Int), (decodeL l).2)
def signsN : Nat → List UInt8 → List Int
  | 0, _ => []
  | n + 1, l => if l = [] then [] else (signL l).1 :: signsN n (l.drop (signL l).2)
/-- A text's signs. -/
def signsT (l : List UInt8) : List Int := signsN l.length l

theorem decodeL_at (l : List UInt8) : decodeL l = decodeN l.length (l.getD 0 0).toNat (l.getD 1 0).toNat (l.getD 2 0).toNat (l.getD 3 0).toNat := by
  unfold decodeL
  rw [decode_at]
  have g : ∀ i, (ByteArray.get! ⟨l.toArray⟩ i) = l.getD i 0 := fun i => by
    show (l.toArray)[i]! = _
    rw [List.getElem!_toArray, List.getElem!_eq_getElem?_getD, List.getD_eq_getElem?_getD]; rfl
  rw [g, g, g, g]
  rfl
theorem decodeL_pos {l : List UInt8} (h : l ≠ []) : 1 ≤ (decodeL l).2 ∧ (decodeL l).2 ≤ l.length := by
  refine ⟨?_, decodeL_le l h⟩
  exact decode_width_pos _ 0 (by show 0 < l.toArray.size; cases l with | nil => exact absurd rfl h | cons => simp)
theorem decodeL_rune (l : List UInt8) : (decodeL l).1 < 55296 ∨ (57343 < (decodeL l).1 ∧ (decodeL l).1 ≤ 1114111) := by
  rw [decodeL_at]; exact decodeN_valid _ _ _ _ _ (UInt8.toNat_lt _)
theorem signL_pos {l : List UInt8} (h : l ≠ []) : 1 ≤ (signL l).2 ∧ (signL l).2 ≤ l.length := by
  have := decodeL_pos h
  unfold signL; split
  · exact ⟨Nat.le_refl _, by cases l with | nil => exact absurd rfl h | cons => simp⟩
  · exact this
theorem signL_bd (l : List UInt8) : 0 ≤ (signL l).1 ∧ (signL l).1 ≤ 1114367 := by
  have h1 := decodeL_rune l
  have h2 := UInt8.toNat_lt (l.getD 0 0)
  unfold signL; split <;> simp only <;> omega
/-- What a text's bytes give is a sign. -/
theorem signL_sign (l : List UInt8) : isSign (signL l).1 = true := by
  have h1 := decodeL_rune l
  have h2 := UInt8.toNat_lt (l.getD 0 0)
  unfold signL; split
  · rename_i h
    have hb : 128 ≤ (l.getD 0 0).toNat := by
      by_cases hb : (l.getD 0 0).toNat < 128
      · rw [decodeL_at] at h
        have : decodeN l.length (l.getD 0 0).toNat (l.getD 1 0).toNat (l.getD 2 0).toNat (l.getD 3 0).toNat = ((l.getD 0 0).toNat, 1) := by unfold decodeN; rw [if_pos hb]
        rw [this] at h
        have := h.1
        simp only at this; omega
      · omega
    generalize (l.getD 0 0).toNat = b at *
    unfold isSign; simp; omega
  · unfold isSign; simp; omega
theorem signsN_of_le : ∀ (n m : Nat) (l : List UInt8), l.length ≤ n → l.length ≤ m → signsN n l = signsN m l
  | 0, m, l, hn, _ => by
    have : l = [] := List.eq_nil_of_length_eq_zero (by omega)
    subst this; cases m <;> simp [signsN]
  | n + 1, 0, l, _, hm => by
    have : l = [] := List.eq_nil_of_length_eq_zero (by omega)
    subst this; simp [signsN]
  | n + 1, m + 1, l, hn, hm => by
    unfold signsN
    split
    · rfl
    · rename_i h
      have := signL_pos h
      rw [signsN_of_le n m _ (by rw [List.length_drop]; omega) (by rw [List.length_drop]; omega)]
theorem signsT_nil : signsT [] = [] := rfl
theorem signsT_cons {l : List UInt8} (h : l ≠ []) : signsT l = (signL l).1 :: signsT (l.drop (signL l).2) := by
  have := signL_pos h
  obtain ⟨n, hn⟩ : ∃ n, l.length = n + 1 := ⟨l.length - 1, by cases l with | nil => exact absurd rfl h | cons => simp⟩
  unfold signsT
  rw [hn, signsN, if_neg h, signsN_of_le n _ _ (by rw [List.length_drop]; omega) (Nat.le_refl _)]
theorem signsN_len : ∀ (n : Nat) (l : List UInt8), l.length ≤ n → (signsN n l).length ≤ l.length
  | 0, l, _ => by simp [signsN]
  | n + 1, l, h => by
    unfold signsN
    split
    · simp
    · rename_i h0
      have := signL_pos h0
      have h2 := signsN_len n (l.drop (signL l).2) (by rw [List.length_drop]; omega)
      rw [List.length_drop] at h2
      rw [List.length_cons]; omega
theorem signsT_len (l : List UInt8) : (signsT l).length ≤ l.length := signsN_len _ _ (Nat.le_refl _)
theorem signsN_bd : ∀ (n : Nat) (l : List UInt8), ∀ c ∈ signsN n l, isSign c = true
  | 0, l => by simp [signsN]
  | n + 1, l => by
    unfold signsN
    split
    · simp
    · intro c hc
      rcases List.mem_cons.1 hc with rfl | hc
      · exact signL_sign l
      · exact signsN_bd n _ c hc
theorem signsT_sign (l : List UInt8) : ∀ c ∈ signsT l, isSign c = true := signsN_bd _ _
/-- A text of bytes below 128. -/
theorem signL_ascii {x : UInt8} (r : List UInt8) (h : x.toNat < 128) : signL (x :: r) = ((x.toNat : Int), 1) := by
  have : decodeL (x :: r) = (x.toNat, 1) := by rw [decodeL_at]; simp only [List.getD_cons_zero]; unfold decodeN; rw [if_pos h]
  unfold signL; rw [this]; simp only; rw [if_neg (by omega)]
theorem signsT_ascii : ∀ {l : List UInt8}, (∀ x ∈ l, x.toNat < 128) → signsT l = l.map fun x => (x.toNat : Int)
  | [], _ => rfl
  | x :: r, h => by
    rw [signsT_cons (by simp), signL_ascii r (h x (by simp))]
    simp only [List.drop_succ_cons, List.drop_zero, List.map_cons]
    rw [signsT_ascii (fun y hy => h y (by simp [hy]))]
end Go.Proofs.YtccdkchmeelkfaaGreatDoor

/- (S11) What the rules' reader gives fits the rules' work; a text's table as lists. -/
namespace Go.Proofs.YtccdkchmeelkfaaGreatDoor

theorem seqGo_fit (P : Int → Prop) (n : Nat) : ∀ (out l : List Int), l.length ≤ n → out.length ≤ 3 → (∀ c ∈ out, P c) → (∀ c ∈ l, P c) → ∀ o, (seqGo out l).1 = some o → o.length ≤ 3 ∧ ∀ c ∈ o, P c := by
  induction n with
  | zero =>
    intro out l h h3 ho hl o e
    have : l = [] := List.eq_nil_of_length_eq_zero (by omega)
    subst this
    simp [seqGo] at e; subst e; exact ⟨h3, ho⟩
  | succ n ih =>
    intro out l h h3 ho hl o e
    cases l with
    | nil => simp [seqGo] at e; subst e; exact ⟨h3, ho⟩
    | cons c r =>
      simp only [List.length_cons] at h
      rw [seqGo_cons] at e
      split at e
      · simp at e; subst e; exact ⟨h3, ho⟩
      · split at e
        · simp at e
        · split at e
          · cases r with
            | nil => simp [escL] at e
            | cons d r' =>
              simp only [List.length_cons] at h
              refine ih (out ++ [d]) r' (by omega) (by simp; omega) ?_ (fun x hx => hl x (by simp [hx])) o e
              intro x hx
              rcases List.mem_append.1 hx with hx | hx
              · exact ho x hx
              · simp at hx; subst hx; exact hl _ (by simp)
          · refine ih (out ++ [c]) r (by omega) (by simp; omega) ?_ (fun x hx => hl x (by simp [hx])) o e
            intro x hx
            rcases List.mem_append.1 hx with hx | hx
            · exact ho x hx
            · simp at hx; subst hx; exact hl _ (by simp)
theorem seqL_fit (P : Int → Prop) {l o : List Int} (hl : ∀ c ∈ l, P c) (h : (seqL l).1 = some o) : o.length ≤ 3 ∧ ∀ c ∈ o, P c := by
  unfold seqL at h
  split at h
  · simp at h
  · rename_i out r hr
    split at h
    · simp at h
    · simp at h; subst h
      exact seqGo_fit P _ [] (blankL l) (Nat.le_refl _) (by simp) (by simp) (fun c hc => hl c ((blankL_suf l).subset hc)) _ (by rw [hr])
/-- Signs that fit. -/
def FitR (P : Int → Prop) (x : RuleP) : Prop := (1 ≤ x.rel ∧ x.rel ≤ 5) ∧ (x.seq.length ≤ 3 ∧ ∀ c ∈ x.seq, P c) ∧ (x.exp.length ≤ 3 ∧ ∀ c ∈ x.exp, P c)
theorem ltL_le (n : Nat) (l : List Int) : (ltL n l).1 ≤ n := by
  induction n generalizing l with
  | zero => simp [ltL]
  | succ n ih =>
    cases l with
    | nil => simp [ltL]
    | cons c r => rw [ltL]; split; exact Nat.succ_le_succ (ih r); simp
theorem relL_bd (l : List Int) : 0 ≤ (relL l).1 ∧ (relL l).1 ≤ 5 := by
  have := ltL_le 3 l
  unfold relL
  split
  · exact ⟨by simp, by simp⟩
  · split
    · exact ⟨by simp, by simp⟩
    · split
      · exact ⟨by simp, by simp⟩
      · exact ⟨by simp; omega, by simp; omega⟩
theorem ruleL_fit (P : Int → Prop) {f : Bool} {l : List Int} {x : RuleP} (hl : ∀ c ∈ l, P c) (h : (ruleL f l).1 = some x) : FitR P x := by
  have hb := relL_bd l
  unfold ruleL at h
  split at h
  · simp at h
  · rename_i h0
    have hr1 : (relL l).1 ≠ 0 := fun e => h0 (.inl e)
    split at h
    · simp at h
    · rename_i sq r1 hs
      have hsuf : ∀ c ∈ (relL l).2, P c := fun c hc => hl c ((relL_suf l).subset hc)
      have h1 := seqL_fit P hsuf (o := sq) (by rw [hs])
      have hr : ∀ c ∈ r1, P c := fun c hc => by
        have := (seqL_suf (relL l).2).subset (a := c) (by rw [hs]; exact hc)
        exact hsuf c this
      split at h
      · simp at h; subst h; exact ⟨⟨by simp; omega, hb.2⟩, h1, by simp, by simp⟩
      · split at h
        · simp at h
        · rename_i ex r3 he
          simp at h; subst h
          exact ⟨⟨by simp; omega, hb.2⟩, h1, seqL_fit P (l := (blankL r1).tail) (fun c hc => hr c ((blankL_suf r1).subset ((tail_suf _).subset hc))) (by rw [he])⟩
theorem parseL_fit (P : Int → Prop) (n : Nat) : ∀ (out : List RuleP) (l : List Int), (∀ c ∈ l, P c) → (∀ x ∈ out, FitR P x) → ∀ L, parseL n out l = .ok L → ∀ x ∈ L, FitR P x := by
  induction n with
  | zero => intro out l _ _ L h; simp [parseL] at h
  | succ n ih =>
    intro out l hl ho L h
    rw [parseL] at h
    split at h
    · simp at h; subst h; exact ho
    · have hbl : ∀ c ∈ blankL l, P c := fun c hc => hl c ((blankL_suf l).subset hc)
      split at h
      · simp at h
      · rename_i x r hr
        refine ih (out ++ [x]) r (fun c hc => hbl c ((ruleL_suf (out.length == 0) (blankL l)).subset (by rw [hr]; exact hc))) ?_ L h
        intro y hy
        rcases List.mem_append.1 hy with hy | hy
        · exact ho y hy
        · simp at hy; subst hy; exact ruleL_fit P hbl (by rw [hr])
theorem parseS_fit (P : Int → Prop) {s : List Int} (hl : ∀ c ∈ s, P c) {L : List RuleP} (h : parseS s = .ok L) : L.length ≤ 40 ∧ ∀ x ∈ L, FitR P x := by
  unfold parseS at h
  split at h
  · simp at h
  · rename_i L1 h1
    split at h
    · simp at h
    · simp at h; subst h; exact ⟨by omega, parseL_fit P _ [] s hl (by simp) _ h1⟩

/-- tailor.Read: the table of a text's rules; else the place and what is wrong. -/
def readS (s : List Int) : Except (Nat × Int) (Tab Nat) :=
  match parseS s with
  | .error x => .error x
  | .ok L => match applyS rootS L with
    | .error c => .error (0, c)
    | .ok T => .ok T
theorem readS_bad {s : List Int} {x : Nat × Int} (h : parseS s = .error x) : readS s = .error x := by unfold readS; rw [h]
theorem readS_no {s : List Int} {L : List RuleP} {c : Int} (h : parseS s = .ok L) (ha : applyS rootS L = .error c) : readS s = .error (0, c) := by unfold readS; rw [h]; simp only; rw [ha]
theorem readS_ok {s : List Int} {L : List RuleP} {T : Tab Nat} (h : parseS s = .ok L) (ha : applyS rootS L = .ok T) : readS s = .ok T := by unfold readS; rw [h]; simp only; rw [ha]
end Go.Proofs.YtccdkchmeelkfaaGreatDoor
