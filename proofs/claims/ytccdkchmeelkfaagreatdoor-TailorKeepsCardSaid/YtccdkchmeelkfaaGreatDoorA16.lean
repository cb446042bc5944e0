/- A table mapped. -/
import Derived.Test.YtccdkchmeelkfaaGreatDoorA15
import Derived.Test.YtccdkchmeelkfaaGreatDoorA2
import Derived.Test.YtccdkchmeelkfaaGreatDoorA12
import Derived.StillTailTactics

/- (W25) tailor's has. -/
namespace Go.Proofs.YtccdkchmeelkfaaGreatDoor
open Go.RowKit Go.Shelf

theorem encE_at {E : List EntM} {k : Nat} {x : EntM} (h : E[k]? = some x) : (E.flatMap encE)[k * 2]? = some x.kv ∧ (E.flatMap encE)[k * 2 + 1]? = some x.ev :=
  ⟨by have := flatMap_at (enc := encE) (fun _ => rfl) h (show 0 < 2 by decide); simpa [encE] using this, by have := flatMap_at (enc := encE) (fun _ => rfl) h (show 1 < 2 by decide); simpa [encE] using this⟩
theorem EntriesAt.open {w : World} {base : Nat} {v : Value} {E : List EntM} (h : EntriesAt w base v E) : ∃ a c, v = .slice a E.length c ∧ E.length ≤ c ∧ (0 < E.length → ∃ b o, a = some ⟨b, o, none⟩ ∧ b < w.heap.size ∧ ∀ j x, E[j]? = some x → w.cell? ⟨b, o + j * 2, none⟩ = some x.kv ∧ w.cell? ⟨b, o + j * 2 + 1, none⟩ = some x.ev) := by
  obtain ⟨_, a, c, h1, h2, _, h4⟩ := h.row
  refine ⟨a, c, h1, h2, fun hl => ?_⟩
  obtain ⟨b, o, e, hb, hc⟩ := h4 hl
  refine ⟨b, o, e, hb, fun j x hj => ⟨hc _ _ (encE_at hj).1, ?_⟩⟩
  have := hc _ _ (encE_at hj).2
  rwa [← Nat.add_assoc] at this

set_option maxRecDepth 100000 in
set_option maxHeartbeats 2000000 in
theorem has_any (w : World) (wb : Nat) (p : Value) (T : Tab Nat) (hw : wb < w.heap.size) (hc : w.cell? ⟨wb, 0, none⟩ = some p) (hT : TableAt w p T) (l m : Int) :
    Calls Tryz.prog 140 #[.pointer (some ⟨wb, 0, none⟩), .int .i64 l, .int .i64 m] w fun e w' => e = .returned (.bool (hasS T l m)) ∧ Below w.heap.size w w' := by
  have hTl : T.length ≤ 500 := by obtain ⟨_, _, _, _, _, _, _, _, _, _, _, h⟩ := hT; exact h.2.2.1
  have hT8 : ∀ e ∈ T, e.2.length ≤ 8 := by obtain ⟨_, _, _, _, _, _, _, _, _, _, _, h⟩ := hT; exact h.2.2.2
  have b2 : Below w.heap.size w ((w.alloc (.cells #[.int .i64 l] 3)).alloc (.cells #[.int .i64 m] 3)) := below2 w _ _
  have hen := entries_any _ p T (hT.below b2)
  have H8 := Lib.hid hT8
  have eg : ∀ args w, (callFunc 172 args).run Tryz.prog w = .ok (.enter 172 args) w := enters_of Tryz.func172 (by kernel_rfl) rfl
  have EG := Lib.hid eg
  clear hT hT8 eg
  go_enter Tryz.func140, Tryz.ntmps140
  go_wp2_with fail
  refine hen.mono ?_
  rintro e w2 ⟨v, E, rfl, hE, hperm, hb2⟩
  obtain ⟨a, c, rfl, hEc, hop⟩ := hE.open
  have hb := Below.next b2 hb2
  have k1 : w2.cell? ⟨w.heap.size, 0, none⟩ = some (.int .i64 l) := (hb2.cell (p := ⟨w.heap.size, 0, none⟩) (by simp; omega)).trans (by simp)
  have k2 : w2.cell? ⟨w.heap.size + 1, 0, none⟩ = some (.int .i64 m) := (hb2.cell (p := ⟨w.heap.size + 1, 0, none⟩) (by show w.heap.size + 1 < _; simp)).trans (by have h := heap_alloc_last (w.alloc (.cells #[.int .i64 l] 3)) (.cells #[.int .i64 m] 3); rw [World.size_alloc] at h; exact cell_of_block h rfl)
  have hs2 : w.heap.size + 2 ≤ w2.heap.size := by have := hb2.size; simpa using this
  have hEl : E.length ≤ 500 := by have := hperm.length_eq; simp at this; omega
  have HE := Lib.hid (And.intro hE (And.intro hperm hop))
  have HK := Lib.hid (And.intro k1 k2)
  clear hen hE hperm hop b2 hb2 k1 k2
  go_wp2_with fail
  go_loopw [15] (fun i wr => ∃ q : Nat, q ≤ E.length ∧ i = .int .i64 q ∧ Below w2.heap.size w2 wr ∧ Hid (∀ x ∈ E.take q, (x.l.any fun y => (wt l y : Int) == m) = false)) (fun i _ => E.length - (intOf i).toNat)
  case atStart => exact ⟨0, Nat.zero_le _, rfl, Below.refl _ _, Lib.hid (by simp)⟩
  case round =>
    obtain ⟨q, hq, rfl, hr, hno⟩ := hrel
    by_cases hq1 : q < E.length
    · obtain ⟨b, o, rfl, hbb, hcell⟩ := HE.out.2.2 (by omega)
      obtain ⟨x, hx⟩ : ∃ x, E[q]? = some x := ⟨E[q], List.getElem?_eq_getElem hq1⟩
      obtain ⟨c1, c2⟩ := hcell q x hx
      have c1 := (hr.cell (p := ⟨b, o + q * 2, none⟩) hbb).trans c1
      have c2 := (hr.cell (p := ⟨b, o + q * 2 + 1, none⟩) hbb).trans c2
      have hxm := List.mem_of_getElem? hx
      have hr1 := hr.alloc hr.size (.cells #[x.kv, x.ev] 45)
      have hsl : SlE (wr.alloc (.cells #[x.kv, x.ev] 45)) x.ev x.l := (HE.out.1.own x hxm).sl.below hr1
      have hx8 : x.l.length ≤ 8 := H8.out (x.k, x.l) (HE.out.2.1.mem_iff.1 (List.mem_map.2 ⟨x, hxm, rfl⟩))
      have hcf := containsE_any _ x.ev x.l hsl (by omega) 172 #[.pointer (some ⟨w.heap.size, 0, none⟩), .pointer (some ⟨w.heap.size + 1, 0, none⟩)] EG.out _ (pred_has _ w.heap.size (w.heap.size + 1) l m (by have := hr1.size; omega) (by have := hr1.size; omega) ((hr1.cell (p := ⟨w.heap.size, 0, none⟩) (by show w.heap.size < _; omega)).trans HK.out.1) ((hr1.cell (p := ⟨w.heap.size + 1, 0, none⟩) (by show w.heap.size + 1 < _; omega)).trans HK.out.2))
      obtain ⟨ea, ec, hev, _⟩ := hsl.open
      obtain ⟨ka, kc, hkv, _⟩ := (HE.out.1.key x hxm).1.open
      have HX := Lib.hid hx
      rw [hev] at hcf
      rw [hkv] at c1
      rw [hev] at c2
      cases hany : x.l.any (fun y => (wt l y : Int) == m) with
      | true =>
        rw [hany] at hcf
        have hres : hasS T l m = true := by
          unfold hasS
          exact List.any_eq_true.2 ⟨(x.k, x.l), HE.out.2.1.mem_iff.1 (List.mem_map.2 ⟨x, hxm, rfl⟩), hany⟩
        have HR := Lib.hid hres
        rw [hkv] at hcf
        clear hres hany hsl hcell hx hxm hev hkv hr1
        go_wp2_with fail
        refine hcf.mono ?_
        rintro e w3 ⟨rfl, n, rfl⟩
        go_wp2_with fail
        go_ret
        exact ⟨by rw [HR.out]; rfl, Below.drewN ((Below.next hb hr).alloc (Below.next hb hr).size _) _⟩
      | false =>
        rw [hany] at hcf
        have HN := Lib.hid hany
        rw [hkv] at hcf
        clear hany hsl hcell hx hxm hev hkv hr1
        go_wp2_with fail
        refine hcf.mono ?_
        rintro e w3 ⟨rfl, n, rfl⟩
        go_wp2_with fail
        go_roundw
        case rel =>
          refine ⟨q + 1, by omega, by go_num, Below.drewN (hr.alloc hr.size _) _, Lib.hid (fun y hy => ?_)⟩
          rw [List.take_add_one, HX.out] at hy
          rcases List.mem_append.1 hy with hy | hy
          · exact hno.out y hy
          · simp at hy; subst hy; exact HN.out
        case measure => simp [intOf]; omega
    · obtain rfl : q = E.length := by omega
      have hres : hasS T l m = false := by
        unfold hasS
        rw [List.any_eq_false]
        intro e he
        have h1 := HE.out.2.1.mem_iff.2 he
        obtain ⟨x, hx, rfl⟩ := List.mem_map.1 h1
        have := hno.out x (by rw [List.take_length]; exact hx)
        simpa using this
      have HR := Lib.hid hres
      clear hres
      go_wp2_with fail
      go_ret
      exact ⟨by rw [HR.out]; rfl, Below.next hb hr⟩
end Go.Proofs.YtccdkchmeelkfaaGreatDoor

/- (W26) Table.Map: under way, does not build whole yet. -/
namespace Go.Proofs.YtccdkchmeelkfaaGreatDoor
open Go.RowKit Go.Shelf

/-- A function value that answers f of each element's word, whatever has been laid since w; it leaves the world alone. -/
def FunE (g : FuncId) (cb : Array Value) (f : Nat → Nat) (w : World) : Prop :=
  ∀ x w', x < 4294967296 → Below w.heap.size w w' → Calls Tryz.prog g (#[.int .u32 (x : Nat)] ++ cb) w' fun e w'' => e = .returned (.int .u32 (f x : Nat)) ∧ w' = w''

/-- One entry's elements mapped as far as i. -/
def mapTo (f : Nat → Nat) (i : Nat) (l : List Nat) : List Nat := (l.take i).map f ++ l.drop i
theorem mapTo_len (f : Nat → Nat) (i : Nat) (l : List Nat) : (mapTo f i l).length = l.length := by simp [mapTo]; omega
theorem mapTo_step (f : Nat → Nat) {i : Nat} {l : List Nat} {x : Nat} (hx : l[i]? = some x) : (mapTo f i l).set i (f x) = mapTo f (i + 1) l := by
  obtain ⟨h, rfl⟩ := List.getElem?_eq_some_iff.1 hx
  unfold mapTo
  rw [List.set_append_right _ _ (by simp; omega)]
  have h1 : i - ((l.take i).map f).length = 0 := by simp; omega
  rw [h1, List.drop_eq_getElem_cons h, List.set_cons_zero, List.take_add_one, List.getElem?_eq_getElem h, List.map_append, List.append_assoc]
  rfl
theorem mapTo_at (f : Nat → Nat) {i : Nat} {l : List Nat} {x : Nat} (hx : l[i]? = some x) : (mapTo f i l)[i]? = some x := by
  obtain ⟨h, rfl⟩ := List.getElem?_eq_some_iff.1 hx
  unfold mapTo
  rw [List.getElem?_append_right (by simp; omega)]
  have h1 : i - ((l.take i).map f).length = 0 := by simp; omega
  rw [h1, List.drop_eq_getElem_cons h]; rfl
theorem mapTo_all (f : Nat → Nat) (l : List Nat) : mapTo f l.length l = l.map f := by simp [mapTo]
theorem mapTo_none (f : Nat → Nat) (l : List Nat) : mapTo f 0 l = l := by simp [mapTo]
end Go.Proofs.YtccdkchmeelkfaaGreatDoor

/- (W27) Table.Map, walked: under way. -/
namespace Go.Proofs.YtccdkchmeelkfaaGreatDoor
open Go.RowKit Go.Shelf

theorem Sl.open2 {w : World} {k n : Nat} {v : Value} {xs : List Value} (h : Sl w k v n xs) : ∃ a c, v = .slice a n c ∧ n ≤ c := by
  obtain ⟨_, a, c, h1, h2, _⟩ := h; exact ⟨a, c, h1, h2⟩

theorem ent_nodup {w : World} {base : Nat} {v : Value} {E : List EntM} {T : Tab Nat} (h : EntriesAt w base v E) (hp : (E.map fun x => (x.k, x.l)).Perm T) (hn : (T.map (·.1)).Nodup) : (E.map fun x => k3 x.k).Nodup := by
  have h1 : (E.map fun x => x.k).Nodup := by
    have := (hp.map (·.1)).nodup_iff.2 hn
    rw [List.map_map] at this; exact this
  have := k3_map_nodup (T := E.map fun x => (x.k, x.l)) (fun e he => by obtain ⟨y, hy, rfl⟩ := List.mem_map.1 he; exact (h.key y hy).2) (by rw [List.map_map]; exact h1)
  rw [List.map_map] at this; exact this
theorem take_aput {E : List EntM} {q : Nat} {x : EntM} (hx : E[q]? = some x) (hnd : (E.map fun x => k3 x.k).Nodup) : aput ((E.take q).map fun x => (k3 x.k, x.ev)) (k3 x.k) x.ev = (E.take (q + 1)).map fun x => (k3 x.k, x.ev) := by
  rw [aput_new, List.take_add_one, hx]
  · simp
  · refine alook_none fun p hp e => ?_
    obtain ⟨y, hy, rfl⟩ := List.mem_map.1 hp
    obtain ⟨i, hi⟩ := List.getElem?_of_mem hy
    rw [List.getElem?_take] at hi
    split at hi
    · rename_i hiq
      have h1 : (E.map fun x => k3 x.k)[i]? = some (k3 y.k) := by rw [List.getElem?_map, hi]; rfl
      have h2 : (E.map fun x => k3 x.k)[q]? = some (k3 y.k) := by rw [List.getElem?_map, hx]; exact congrArg some e.symm
      have := (List.getElem?_inj (List.getElem?_eq_some_iff.1 h1).1 hnd).1 (h1.trans h2.symm)
      omega
    · cases hi
theorem ent_apart {E : List EntM} (h : E.Pairwise fun x y => x.ev.ownBlock = none ∨ x.ev.ownBlock ≠ y.ev.ownBlock) {i j : Nat} {x y : EntM} (hi : E[i]? = some x) (hj : E[j]? = some y) (hne : i ≠ j) : x.ev.ownBlock = none ∨ x.ev.ownBlock ≠ y.ev.ownBlock := by
  rw [List.pairwise_iff_getElem] at h
  obtain ⟨hi1, rfl⟩ := List.getElem?_eq_some_iff.1 hi
  obtain ⟨hj1, rfl⟩ := List.getElem?_eq_some_iff.1 hj
  rcases Nat.lt_or_gt_of_ne hne with h1 | h1
  · exact h i j hi1 hj1 h1
  · rcases h j i hj1 hi1 h1 with h2 | h2
    · cases hb : E[i].ev.ownBlock with
      | none => exact .inl rfl
      | some b => exact .inr (by rw [h2]; simp)
    · exact .inr fun e => h2 e.symm

set_option maxRecDepth 100000 in
set_option maxHeartbeats 4000000 in
theorem map_any (w : World) (p : Value) (T : Tab Nat) (hT : TableAt w p T) (g : FuncId) (cb : Array Value) (eg : ∀ args w, (callFunc g args).run Tryz.prog w = .ok (.enter g args) w) (f : Nat → Nat) (hf : FunE g cb f w) (hf32 : ∀ x, x < 4294967296 → f x < 4294967296) :
    Calls Tryz.prog 142 #[p, .func (.func g) #[] cb] w fun e w' => ∃ p', e = .returned p' ∧ TableAt w' p' (mapT f T) ∧ Below w.heap.size w w' := by
  have hmm := @run_makeMap Tryz.prog
  have hb0 := (Below.refl w.heap.size w).alloc (Nat.le_refl _) (.map #[] 0)
  have hen := entries_any _ p T (hT.below hb0)
  have HF := Lib.hid (And.intro eg (And.intro hf (And.intro hf32 hT)))
  obtain ⟨tb, mb, tp, T', rfl, ht, hc0, hc1, htr, _, hperm, hok⟩ := hT
  clear eg hf hf32
  go_enter Tryz.func142, Tryz.ntmps142
  go_wp2_with fail
  refine hen.mono ?_
  rintro e w2 ⟨v, E, rfl, hE, hp, hb2⟩
  obtain ⟨a, c, rfl, hEc, hop⟩ := hE.open
  have hM2 := (MapAt.made w encK).below hb2
  have HM := Lib.hid hM2
  have hlt2 : w.heap.size < w2.heap.size := by have := hb2.size; simp at this; omega
  have hEl : E.length ≤ 500 := by have := hp.length_eq; simp at this; rw [this]; exact hok.2.2.1
  have HE := Lib.hid (And.intro hE (And.intro hp (And.intro hop (And.intro hperm hok))))
  have HC := Lib.hid (And.intro hc0 (And.intro hc1 htr))
  have hw2 := Below.next hb0 hb2
  clear hen hE hp hop hperm hok hc0 htr hb0 hb2
  go_wp2_with fail
  go_loopw [16] (fun i wr => ∃ q : Nat, q ≤ E.length ∧ i = .int .i64 q ∧ MapAt encK wr w.heap.size ((E.take q).map fun x => (k3 x.k, x.ev)) ∧ Below w.heap.size w wr ∧ w2.heap.size ≤ wr.heap.size ∧ Hid (∀ j x, E[j]? = some x → OwnE wr (w.heap.size + 1) x.ev (if j < q then x.l.map f else x.l)) ∧ Hid (∀ b < w2.heap.size, (∀ x ∈ E, x.ev.ownBlock ≠ some b) → b ≠ w.heap.size → wr.heap[b]? = w2.heap[b]?)) (fun i _ => E.length - (RowKit.intOf i).toNat)
  case atStart => exact ⟨0, Nat.zero_le _, rfl, by simpa using hM2, hw2, Nat.le_refl _, Lib.hid (fun j x hx => by have := HE.out.1.own x (List.mem_of_getElem? hx); simpa using this), Lib.hid (fun _ _ _ _ => rfl)⟩
  case round =>
    obtain ⟨q, hq, rfl, hM, hw, hsz, hown, hsame⟩ := hrel
    by_cases hq1 : q < E.length
    · obtain ⟨b, o, rfl, hbb, hcell⟩ := HE.out.2.2.1 (by omega)
      obtain ⟨x, hx⟩ : ∃ x, E[q]? = some x := ⟨E[q], List.getElem?_eq_getElem hq1⟩
      have hxm := List.mem_of_getElem? hx
      obtain ⟨c1, c2⟩ := hcell q x hx
      obtain ⟨es0, ck0, hmo⟩ := HM.out.obj
      have hrow : wr.heap[b]? = w2.heap[b]? := by
        rcases HE.out.1.tyr with h0 | ⟨g', cur, hg', hgb⟩
        · rw [h0] at hx; simp at hx
        · have : b = g' := by simpa [Value.ownBlock] using hg'
          subst this
          refine hsame.out b hbb (fun y hy e => ?_) (fun e => ?_)
          · rcases (HE.out.1.own y hy).obj hgb (fun c e => by cases e) with h | h
            · rw [h] at e; cases e
            · exact h e
          · rw [e, hmo] at hgb; cases hgb
      have c1 : wr.cell? ⟨b, o + q * 2, none⟩ = some x.kv := by rw [← c1]; simp [World.cell?, hrow]
      have c2 : wr.cell? ⟨b, o + q * 2 + 1, none⟩ = some x.ev := by rw [← c2]; simp [World.cell?, hrow]
      have hkv : SlI wr x.kv x.k := by
        have hk := HE.out.1.tyk x hxm
        obtain ⟨hkl, hr⟩ := hk
        rcases hr with ⟨hn, hz⟩ | ⟨g2, cap, cur, e1, hbase, hgb, r1, r2, r3, r4⟩
        · rw [hn, List.eq_nil_of_length_eq_zero hz]; exact SlI.nil wr
        · have hsm : wr.heap[g2]? = w2.heap[g2]? := by
            refine hsame.out g2 (Array.getElem?_eq_some_iff.1 hgb).1 (fun y hy e => ?_) (fun e => ?_)
            · rcases (HE.out.1.own y hy).obj hgb (fun c e => by cases e) with h | h
              · rw [h] at e; cases e
              · exact h e
            · rw [e, hmo] at hgb; cases hgb
          exact Sl.of_owns (base := w.heap.size) (e := 3) ⟨hkl, .inr ⟨g2, cap, cur, e1, by simp at hbase; omega, hsm.trans hgb, r1, r2, r3, r4⟩⟩
      have hox : OwnE wr (w.heap.size + 1) x.ev x.l := by have := hown.out q x hx; rwa [if_neg (Nat.lt_irrefl q)] at this
      have hx8 : x.l.length ≤ 8 := HE.out.2.2.2.2.2.2.2 (x.k, x.l) (HE.out.2.1.mem_iff.1 (List.mem_map.2 ⟨x, hxm, rfl⟩))
      obtain ⟨ka, kc, hkve, _⟩ := hkv.open
      obtain ⟨ea, ec, heve, _⟩ := hox.sl.1.open2
      have hsz2 : w.heap.size + 1 ≤ wr.heap.size := by omega
      have hws := hw.size
      obtain ⟨wo, rfl⟩ : ∃ wo : World, wo = wr := ⟨_, rfl⟩
      rw [hkve] at c1
      rw [heve] at c2
      have b1 := (Below.refl wo.heap.size wo).alloc (Nat.le_refl _) (.cells #[.slice ka x.k.length kc, .slice ea x.l.length ec] 45)
      have hox1 := hox.below b1
      have hw1 := Below.next hw b1
      have hbx := heap_alloc_last wo (.cells #[.slice ka x.k.length kc, .slice ea x.l.length ec] 45)
      have HK := Lib.hid (And.intro hx (And.intro hkve (And.intro heve (And.intro hown.out (And.intro hsame.out (And.intro hM (And.intro hw hkv)))))))
      rw [heve] at hox1
      clear hx hkve hown hsame hM hkv hox hxm hw heve hmo hrow
      go_wp2_with fail
      have hg0 := World.grownBy.refl (wo.alloc (.cells #[.slice ka x.k.length kc, .slice ea x.l.length ec] 45)) (Value.slice ea x.l.length ec).ownBlock
      go_loopw [23] (fun i wr => ∃ j : Nat, j ≤ x.l.length ∧ i = .int .i64 j ∧ OwnE wr (w.heap.size + 1) (.slice ea x.l.length ec) (mapTo f j x.l) ∧ (wo.alloc (.cells #[.slice ka x.k.length kc, .slice ea x.l.length ec] 45)).grownBy wr (Value.slice ea x.l.length ec).ownBlock) (fun i _ => x.l.length - (RowKit.intOf i).toNat)
      case atStart => exact ⟨0, Nat.zero_le _, rfl, by rw [mapTo_none]; exact hox1, hg0⟩
      case round =>
        obtain ⟨j, hj, rfl, hoj, hgj⟩ := hrel
        have hbx1 : wr.heap[wo.heap.size]? = some (.cells #[.slice ka x.k.length kc, .slice ea x.l.length ec] 45 (0, 0)) := by
          refine (hgj.block _ (by simp) ?_).trans hbx
          rcases hox1.obj hbx (fun _ e => by cases e) with h | h
          · rw [h]; simp
          · exact fun e => h e.symm
        have hwj : Below w.heap.size w wr := hw1.grown hgj hw1.size (fun k hk => by have := (hox1.blt hk).1; omega)
        by_cases hj1 : j < x.l.length
        · obtain ⟨y, hy⟩ : ∃ y, x.l[j]? = some y := ⟨x.l[j], List.getElem?_eq_getElem hj1⟩
          have hym := mapTo_at f hy
          have hoj0 := hoj
          obtain ⟨hlt32, ⟨he1, he2⟩ | ⟨g2, cc, cur, he1, hgb, hcur, hlc, htk⟩⟩ := hoj
          · exfalso
            have := congrArg List.length he2
            rw [mapTo_len, List.length_nil] at this
            omega
          have hy32 : y < 4294967296 := hlt32 y (List.mem_of_getElem? hym)
          rw [mapTo_len] at he1 hlc htk
          cases he1
          have hcy : cur[j]? = some (.int .u32 (y : Nat)) := by
            have h1 : (cur.toList.take x.l.length)[j]? = some (.int .u32 (y : Nat)) := by rw [htk, cellsE, List.getElem?_map, hym]; rfl
            rw [List.getElem?_take_of_lt hj1, Array.getElem?_toList] at h1; exact h1
          have cy := cell_of_block hcur hcy
          have fy : wr.frozen? ⟨g2, j, none⟩ = false := frozen_of_block hcur
          have cb0 := cell_of_block (i := 0) hbx1 rfl
          have cb1 := cell_of_block (i := 1) hbx1 rfl
          have eg := HF.out.1
          have hfy := HF.out.2.1 y wr.drew hy32 (by have := Below.drewN (Below.refl wr.heap.size wr) 1; exact Below.next hwj this)
          have hgl := (Array.getElem?_eq_some_iff.1 hcur).1
          have HJ := Lib.hid (And.intro hy (And.intro hlt32 (And.intro hlc (And.intro htk (And.intro hgb (And.intro hcur hgj))))))
          clear hy hym hlt32 htk hcy hoj0 hgj hcur hbx1 hox1 hg0
          go_wp2_with fail
          refine wp_tail 6 (by kernel_rfl) (by kernel_rfl) (fun wd hwd => ?_)
          subst hwd
          iterate 5 still_step
          refine wpStill_step (fun K hK => ?_)
          go_simp
          refine ⟨_, hfy.mono (fun _ _ ⟨h1, h2⟩ => ⟨h1, h2.symm⟩), hK _ ?_⟩
          clear hK K hfy
          refine wpStill_nil ?_
          go_wp2_with fail
          go_roundw
          case rel =>
            obtain ⟨hy, hlt32, hlc, htk, hgb, hcur, hgj⟩ := HJ.out
            have hd := grown_drewN wr 1 (some g2)
            have hcur1 : (wr.drewN 1).heap[g2]? = some (.cells cur 47 (0, 0)) := hcur
            have hwt := OwnE.write (w' := (wr.drewN 1).setCell ⟨g2, j, none⟩ (.int .u32 (f y : Nat))) (base := w.heap.size + 1) (c := ec) (i := j) (l := mapTo f j x.l) (x := f y) (by rw [mapTo_len]; exact htk) hlt32 (HF.out.2.2.1 y hy32) (by rw [mapTo_len]; exact hlc) hgb (heap_setCell _ hcur1)
            rw [mapTo_step f hy, mapTo_len] at hwt
            exact ⟨j + 1, by omega, by go_num, hwt, hgj.trans (hd.trans (grownBy_setCell _ _ _ _))⟩
          case measure => simp [RowKit.intOf]; omega
        · obtain rfl : j = x.l.length := by omega
          have cb0 := cell_of_block (i := 0) hbx1 rfl
          have cb1 := cell_of_block (i := 1) hbx1 rfl
          obtain ⟨hx, hkve, heve, hown, hsame, hM, hwo, hkv⟩ := HK.out
          have hne : ∀ {b : Nat} {o : Obj}, wo.heap[b]? = some o → (∀ cur, o ≠ .cells cur 47 (0, 0)) → some b ≠ (Value.slice ea x.l.length ec).ownBlock := by
            intro b o hb hno
            rcases hox1.obj (blk_below hb b1) hno with h | h
            · rw [h]; simp
            · exact fun e => h e.symm
          have hkok := HE.out.1.key x (List.mem_of_getElem? hx)
          have hkl : x.k.length ≤ 3 := hkok.2.2.1
          have hnem := hM.obj
          obtain ⟨esM, ckM, hobM⟩ := hnem
          have hMr : MapAt encK wr w.heap.size ((E.take q).map fun x => (k3 x.k, x.ev)) := (hM.below b1).grown hgj (hne hobM (fun _ e => by cases e))
          have hkvr : SlI wr (.slice ka x.k.length kc) x.k := by
            have h1 := HE.out.1.tyk x (List.mem_of_getElem? hx)
            have h2 := hkv.below b1
            rw [hkve] at h2
            refine Sl.grown h2 hgj ?_
            rw [hkve] at h1
            rcases h1.2 with ⟨hn, _⟩ | ⟨g3, cap, cur, e1, hb3, hgb3, _⟩
            · rw [hn]; exact .inl rfl
            · rw [e1]
              refine .inr fun e => ?_
              have hsm : wo.heap[g3]? = some (.cells cur 3 (0, 0)) := by
                refine (hsame g3 (Array.getElem?_eq_some_iff.1 hgb3).1 (fun y hy e => ?_) (fun e => ?_)).trans hgb3
                · rcases (HE.out.1.own y hy).obj hgb3 (fun c e => by cases e) with h | h
                  · rw [h] at e; cases e
                  · exact h e
                · obtain ⟨es0, ck0, hmo⟩ := HM.out.obj
                  rw [e, hmo] at hgb3; cases hgb3
              exact hne hsm (fun _ e => by cases e) e
          have hky := key_any wr _ _ hkvr (by omega)
          have HQ := Lib.hid (And.intro hMr (And.intro hgj (And.intro hoj (And.intro hwj (And.intro hbx1 hkok)))))
          clear hx hkve heve hown hsame hM hwo hkv hkok hMr hgj hoj hwj hkvr hobM hg0 hox1 hbx1 hbx
          go_wp2_with fail
          refine hky.mono ?_
          clear hky
          rintro e w3 ⟨hb3, k', rfl, hk'⟩
          obtain ⟨x1, x2, x3⟩ := k'
          have hkx := hk' HQ.out.2.2.2.2.2.2
          have HKX := Lib.hid hkx
          have hM3 := HQ.out.1.below hb3
          have b3 := (Below.refl w3.heap.size w3).alloc (Nat.le_refl _) (.cells #[.int .i64 x1, .int .i64 x2, .int .i64 x3] 93)
          have hM4 := hM3.below b3
          have cb3 : w3.cell? ⟨wo.heap.size, 1, none⟩ = some (.slice ea x.l.length ec) := cell_of_block (blk_below HQ.out.2.2.2.2.1 hb3) rfl
          have hlt3 : wo.heap.size < w3.heap.size := Nat.lt_of_lt_of_le (Array.getElem?_eq_some_iff.1 HQ.out.2.2.2.2.1).1 hb3.size
          have hok3 : ∀ p ∈ (E.take q).map (fun x => (k3 x.k, x.ev)), ok3 p.1 := by
            intro p hp
            obtain ⟨y, hy, rfl⟩ := List.mem_map.1 hp
            exact k3_ok (HE.out.1.key y (List.mem_of_mem_take hy)).2
          have hnd3 : (((E.take q).map (fun x => (k3 x.k, x.ev))).map (·.1)).Nodup := by
            have h1 : (E.map fun x => x.k).Nodup := by
              have := ((HE.out.2.1.map (·.1)).nodup_iff.2 HE.out.2.2.2.2.2.1)
              rw [List.map_map] at this; exact this
            have h2 : (E.map fun x => k3 x.k).Nodup := by
              have := k3_map_nodup (T := E.map fun x => (x.k, x.l)) (fun e he => by obtain ⟨y, hy, rfl⟩ := List.mem_map.1 he; exact (HE.out.1.key y hy).2) (by rw [List.map_map]; exact h1)
              rw [List.map_map] at this; exact this
            have h3 : ((E.take q).map (fun x => (k3 x.k, x.ev))).map (·.1) = (E.map fun x => k3 x.k).take q := by rw [List.map_map, List.map_take]; rfl
            rw [h3]; exact h2.sublist (List.take_sublist _ _)
          have hkx3 : ok3 (x1, x2, x3) := by rw [hkx]; exact k3_ok HQ.out.2.2.2.2.2.2
          have hall : (E.map fun x => k3 x.k).Nodup := ent_nodup HE.out.1 HE.out.2.1 HE.out.2.2.2.2.2.1
          have HN := Lib.hid (And.intro hok3 (And.intro hnd3 (And.intro hkx3 hall)))
          clear hall
          have HB := Lib.hid (And.intro hb3 (And.intro b3 hM4))
          clear hk' hkx hM3 hok3 hnd3 hkx3 hb3 b3 cb0 cb1 hM4
          simp only [encK]
          go_wp2_with (at_mapUpdate; refine wpList_put_at rfl _ _ _ rfl kl_seq Tryz.underlying88 rfl (k := (x1, x2, x3)) rfl rfl HB.out.2.2 HN.out.1 HN.out.2.1 HN.out.2.2.1 ?_; intro w4 hM5 hg5 hz5)
          obtain ⟨hMr, hgj, hoj, hwj, hbx1, hkok⟩ := HQ.out
          obtain ⟨hb3, b3, hM4⟩ := HB.out
          obtain ⟨hx, hkve, heve, hown, hsame, hM, hwo, hkv⟩ := HK.out
          obtain ⟨esM, ckM, hobM⟩ := hM4.obj
          obtain ⟨es1, ck1, hobN⟩ := hM.obj
          have hb34 := Below.next hb3 b3
          have hcar : ∀ (v : Value) (l : List Nat), OwnE wr (w.heap.size + 1) v l → OwnE w4 (w.heap.size + 1) v l := by
            intro v l hv
            have h1 := hv.below hb34
            exact h1.grown hg5 (h1.obj hobM (fun _ e => by cases e))
          have hcb : ∀ b < wr.heap.size, b ≠ w.heap.size → w4.heap[b]? = wr.heap[b]? := by
            intro b hb hne
            rw [hg5.block b (Nat.lt_of_lt_of_le hb hb34.size) (by simpa using hne), hb34.block b hb]
          have hsz4 : wr.heap.size ≤ w4.heap.size := Nat.le_trans hb34.size hg5.size
          have hszr : wo.heap.size ≤ wr.heap.size := by have := hgj.size; simp at this; omega
          go_roundw
          case rel =>
            refine ⟨q + 1, by omega, by go_num, ?_, (Below.next hwj hb34).grown hg5 (Below.next hwj hb34).size (fun k hk => by simp at hk; omega), by omega, Lib.hid (fun j y hy => ?_), Lib.hid (fun b hb hbe hbw => ?_)⟩
            · rw [← take_aput hx HN.out.2.2.2, ← HKX.out, heve]; exact hM5
            · by_cases hjq : j = q
              · subst hjq
                rw [hx] at hy; cases hy
                rw [if_pos (by omega), heve]
                rw [mapTo_all] at hoj
                exact hcar _ _ hoj
              · have h1 := hown j y hy
                have h2 : (if j < q then y.l.map f else y.l) = (if j < q + 1 then y.l.map f else y.l) := by
                  by_cases h : j < q
                  · rw [if_pos h, if_pos (by omega)]
                  · rw [if_neg h, if_neg (by omega)]
                rw [h2] at h1
                refine hcar _ _ ((h1.below b1).grown hgj ?_)
                have := ent_apart HE.out.1.apart hy hx hjq
                rwa [heve] at this
            · have hbx : some b ≠ (Value.slice ea x.l.length ec).ownBlock := by
                have := hbe x (List.mem_of_getElem? hx)
                rw [heve] at this
                exact fun e => this e.symm
              have hbo : b < wo.heap.size := Nat.lt_of_lt_of_le hb hsz
              rw [hcb b (Nat.lt_of_lt_of_le hbo hszr) hbw, hgj.block b (by simp; omega) hbx, b1.block b hbo]
              exact hsame b hb hbe hbw
          case measure => simp [RowKit.intOf]; omega
    · obtain rfl : q = E.length := by omega
      rw [List.take_length] at hM
      have hc1w : wr.cell? ⟨tb, 1, none⟩ = some tp := (hw.cell (p := ⟨tb, 1, none⟩) ht).trans hc1
      have htrw := HC.out.2.2.below hw
      have HT := Lib.hid htrw
      obtain ⟨tb2, _, _, _, _, _, rfl, _⟩ := htrw
      have HX := Lib.hid (And.intro hM (And.intro hown.out hw))
      have htw : tb < wr.heap.size := Nat.lt_of_lt_of_le ht hw.size
      clear hM hown hsame hw hM2 hw2
      go_wp2_with fail
      go_ret
      obtain ⟨hM, hown, hw⟩ := HX.out
      have b8 := (Below.refl wr.heap.size wr).alloc (Nat.le_refl _) (.cells #[.map (some w.heap.size), .pointer (some ⟨tb2, 0, none⟩)] 91)
      refine ⟨_, rfl, ⟨wr.heap.size, w.heap.size, .pointer (some ⟨tb2, 0, none⟩), mapT f (E.map fun x => (x.k, x.l)), rfl, by simp, cell_of_block (heap_alloc_last wr _) rfl, cell_of_block (heap_alloc_last wr _) rfl, ?_, ?_, mapT_perm f (HE.out.2.1), okTab_mapT f HE.out.2.2.2.2⟩, Below.next hw b8⟩
      · have e : longS (mapT f T) = longS T := funext fun c => longS_mapT f T c
        rw [e]; exact HT.out.below b8
      · refine ⟨_, hM.below b8, ?_, ?_⟩
        · simp [mapT]
        · intro i p e hp he
          rw [List.getElem?_map] at hp
          simp only [mapT, List.getElem?_map] at he
          cases hxi : E[i]? with
          | none => rw [hxi] at hp; cases hp
          | some y =>
            rw [hxi] at hp he
            cases hp; cases he
            have h1 := hown i y hxi
            rw [if_pos (List.getElem?_eq_some_iff.1 hxi).1] at h1
            exact h1.sl.below b8
end Go.Proofs.YtccdkchmeelkfaaGreatDoor

/- (M11) A block that holds a pointer and a slice: what is written into it leaves tables, numbers and elements alone. -/
namespace Go.Proofs.YtccdkchmeelkfaaGreatDoor
open Go.RowKit

section
variable {w w' : World} {wb : Nat} {pa : Option Addr} {sa : Option Addr} {sn sc : Nat} {tt : TypeId}
theorem cell_wb (hb : w.heap[wb]? = some (.cells #[.pointer pa, .slice sa sn sc] tt (0, 0))) {o : Nat} {x : Value} (hx : w.cell? ⟨wb, o, none⟩ = some x) : (o = 0 ∧ x = .pointer pa) ∨ (o = 1 ∧ x = .slice sa sn sc) := by
  simp only [World.cell?, hb, Option.isSome_none, Bool.false_eq_true, if_false] at hx
  match o, hx with
  | 0, hx => simp at hx; exact .inl ⟨rfl, hx.symm⟩
  | 1, hx => simp at hx; exact .inr ⟨rfl, hx.symm⟩
  | o + 2, hx => simp at hx
theorem grown_cell' (hg : w.grownBy w' (some wb)) {b o : Nat} (hb : b < w.heap.size) (hne : b ≠ wb) : w'.cell? ⟨b, o, none⟩ = w.cell? ⟨b, o, none⟩ := by
  have := hg.block b hb (by simpa using hne)
  simp [World.cell?, this]
theorem Sl.off {k n : Nat} {v : Value} {xs : List Value} (h : Sl w k v n xs) (hg : w.grownBy w' (some wb)) (hb : w.heap[wb]? = some (.cells #[.pointer pa, .slice sa sn sc] tt (0, 0))) (hx : (∃ x ∈ xs, (∀ a, x ≠ .pointer a) ∧ ∀ a n c, x ≠ .slice a n c) ∨ 2 < xs.length ∨ n = 0) : Sl w' k v n xs := by
  obtain ⟨h1, a, c, h2, h3, h3', h4⟩ := h
  refine ⟨h1, a, c, h2, h3, h3', fun hn => ?_⟩
  obtain ⟨b, o, h5, h6, h7⟩ := h4 hn
  have hne : b ≠ wb := by
    rintro rfl
    rcases hx with ⟨x, hx, hp, hs⟩ | hx | hx
    · obtain ⟨j, hj⟩ := List.getElem?_of_mem hx
      rcases cell_wb hb (h7 j x hj) with ⟨_, e⟩ | ⟨_, e⟩
      · exact hp _ e
      · exact hs _ _ _ e
    · have := h7 2 xs[2] (List.getElem?_eq_getElem hx)
      rcases cell_wb hb this with ⟨e, _⟩ | ⟨e, _⟩ <;> omega
    · omega
  exact ⟨b, o, h5, Nat.lt_of_lt_of_le h6 hg.size, fun j x hj => (grown_cell' hg h6 hne).trans (h7 j x hj)⟩
theorem SlE.off {v : Value} {l : List Nat} (h : SlE w v l) (hg : w.grownBy w' (some wb)) (hb : w.heap[wb]? = some (.cells #[.pointer pa, .slice sa sn sc] tt (0, 0))) : SlE w' v l := by
  refine ⟨Sl.off h.1 hg hb ?_, h.2⟩
  cases l with
  | nil => exact .inr (.inr rfl)
  | cons x r => exact .inl ⟨_, List.mem_cons_self, (fun a e => by cases e), (fun a n c e => by cases e)⟩
theorem SlI.off {v : Value} {l : List Int} (h : SlI w v l) (hg : w.grownBy w' (some wb)) (hb : w.heap[wb]? = some (.cells #[.pointer pa, .slice sa sn sc] tt (0, 0))) : SlI w' v l := by
  refine Sl.off h hg hb ?_
  cases l with
  | nil => exact .inr (.inr rfl)
  | cons x r => exact .inl ⟨_, List.mem_cons_self, (fun a e => by cases e), (fun a n c e => by cases e)⟩
theorem MapAt.off {α : Type} {enc : α → Value} {r : Nat} {m : List (α × Value)} (h : MapAt enc w r m) (hg : w.grownBy w' (some wb)) (hb : w.heap[wb]? = some (.cells #[.pointer pa, .slice sa sn sc] tt (0, 0))) : MapAt enc w' r m := by
  obtain ⟨es, ck, hm⟩ := h.obj
  exact h.grown hg (fun e => by
    have : r = wb := by simpa using e
    subst this; rw [hm] at hb; cases hb)
theorem TrieAt.off {p : Value} {f : Int → Nat} (h : TrieAt w p f) (hg : w.grownBy w' (some wb)) (hb : w.heap[wb]? = some (.cells #[.pointer pa, .slice sa sn sc] tt (0, 0))) : TrieAt w' p f := by
  obtain ⟨tb, bv, n, bs, mb, m, h1, h2, h3, h4, h5, h6, h7, h8⟩ := h
  have hne : tb ≠ wb := by
    rintro rfl
    rcases cell_wb hb h3 with ⟨_, e⟩ | ⟨e, _⟩
    · obtain ⟨_, a, c, e2, _⟩ := h6
      rw [e2] at e; cases e
    · cases e
  refine ⟨tb, bv, n, bs, mb, m, h1, Nat.lt_of_lt_of_le h2 hg.size, (grown_cell' hg h2 hne).trans h3, (grown_cell' hg h2 hne).trans h4, h5, Sl.off h6 hg hb ?_, h7.off hg hb, h8⟩
  by_cases hn : n = 0
  · exact .inr (.inr hn)
  · refine .inr (.inl ?_)
    rw [h6.1]; omega
theorem EntsAt.off {mb : Nat} {T : Tab Nat} (h : EntsAt w mb T) (hg : w.grownBy w' (some wb)) (hb : w.heap[wb]? = some (.cells #[.pointer pa, .slice sa sn sc] tt (0, 0))) : EntsAt w' mb T := by
  obtain ⟨m, h1, h2, h3⟩ := h
  exact ⟨m, h1.off hg hb, h2, fun i q e hq he => (h3 i q e hq he).off hg hb⟩
theorem TableAt.off {p : Value} {T : Tab Nat} (h : TableAt w p T) (hg : w.grownBy w' (some wb)) (hb : w.heap[wb]? = some (.cells #[.pointer pa, .slice sa sn sc] tt (0, 0))) : TableAt w' p T := by
  obtain ⟨tb, mb, tp, T', h1, h2, h3, h4, h5, h6, h7, h8⟩ := h
  have hne : tb ≠ wb := by
    rintro rfl
    rcases cell_wb hb h3 with ⟨_, e⟩ | ⟨e, _⟩
    · cases e
    · cases e
  exact ⟨tb, mb, tp, T', h1, Nat.lt_of_lt_of_le h2 hg.size, (grown_cell' hg h2 hne).trans h3, (grown_cell' hg h2 hne).trans h4, h5.off hg hb, h6.off hg hb, h7, h8⟩
end
theorem SlE.pre {w : World} {b o c k : Nat} {l : List Nat} (h : SlE w (.slice (some ⟨b, o, none⟩) l.length c) l) (hk : k ≤ l.length) : SlE w (.slice (some ⟨b, o, none⟩) k c) (l.take k) := by
  obtain ⟨⟨h1, a, c', h2, h3, h3', h4⟩, h5⟩ := h
  cases h2
  refine ⟨⟨by simp, _, c, by rw [List.length_take, Nat.min_eq_left hk], by rw [List.length_take]; omega, (fun e => by cases e), fun hn => ?_⟩, fun e he => h5 e (List.mem_of_mem_take he)⟩
  rw [List.length_take] at hn
  obtain ⟨b', o', e, hb, hc⟩ := h4 (by omega)
  cases e
  refine ⟨b, o, rfl, hb, fun j x hj => hc j x ?_⟩
  rw [List.map_take, List.getElem?_take] at hj
  split at hj
  · exact hj
  · cases hj
theorem OwnE.own {w : World} {base n : Nat} {v : Value} {l : List Nat} (hn : n = l.length) (h : w.ownsRow base 47 1 v n (cellsE l)) (hl : ∀ e ∈ l, e < 4294967296) : OwnE w base v l := by
  subst hn
  obtain ⟨_, h⟩ := h
  rcases h with ⟨rfl, hz⟩ | ⟨g, cap, cur, rfl, hbase, hb, r1, r2, r3, r4⟩
  · exact ⟨hl, .inl ⟨rfl, List.eq_nil_of_length_eq_zero hz⟩⟩
  · exact ⟨hl, .inr ⟨g, cap, cur, rfl, hbase, hb, r1, by simpa using r4⟩⟩
theorem TableAt.ptr {w : World} {p : Value} {T : Tab Nat} (h : TableAt w p T) : ∃ tb, p = .pointer (some ⟨tb, 0, none⟩) := by
  obtain ⟨tb, _, _, _, h1, _⟩ := h; exact ⟨tb, h1⟩
end Go.Proofs.YtccdkchmeelkfaaGreatDoor
