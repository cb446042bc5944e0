/- The rules' reader: a sequence. -/
import Derived.Test.YtccdkchmeelkfaaGreatDoorA9

/- (R4) The reader of rules in memory: rule. -/
namespace Go.Proofs.YtccdkchmeelkfaaGreatDoor
open Go.RowKit

/-- What rule tells. -/
def RuleRet (q : Option RuleP) (w : World) (rb : Nat) (v av : Value) (s l : List Int) (e : Ending) (w' : World) : Prop :=
  RdGo w rb v av s l w' ∧ ∃ rel sv ev, e = .returned (.tuple #[.agg #[.int .i64 rel, sv, ev], .bool q.isSome]) ∧ (∃ a n c, sv = .slice a n c) ∧ (∃ a n c, ev = .slice a n c) ∧ ∀ x, q = some x → rel = x.rel ∧ BlkI w' w.heap.size sv x.seq ∧ BlkI w' w.heap.size ev x.exp

theorem cells3 {w : World} {b : Nat} {x y z : Value} {T : TypeId} (h : w.heap[b]? = some (.cells #[x, y, z] T (0, 0))) :
    w.cell? ⟨b, 0, none⟩ = some x ∧ w.cell? ⟨b, 1, none⟩ = some y ∧ w.cell? ⟨b, 2, none⟩ = some z ∧ w.frozen? ⟨b, 0, none⟩ = false ∧ w.frozen? ⟨b, 1, none⟩ = false ∧ w.frozen? ⟨b, 2, none⟩ = false :=
  ⟨cell_of_block h rfl, cell_of_block h rfl, cell_of_block h rfl, frozen_of_block h, frozen_of_block h, frozen_of_block h⟩
theorem blk_grown {w w' : World} {b j : Nat} {o : Obj} (h : w.heap[b]? = some o) (hg : w.grownBy w' (some j)) (hne : b ≠ j) : w'.heap[b]? = some o :=
  (hg.block b (Array.getElem?_eq_some_iff.1 h).1 (by simpa using hne)).trans h
theorem blk_below {w w' : World} {b : Nat} {o : Obj} (h : w.heap[b]? = some o) (hb : Below w.heap.size w w') : w'.heap[b]? = some o :=
  (hb.block b (Array.getElem?_eq_some_iff.1 h).1).trans h

theorem heap_setCell_ne {w : World} {b j i : Nat} {o : Obj} (x : Value) (h : w.heap[b]? = some o) (hne : b ≠ j) : (w.setCell ⟨j, i, none⟩ x).heap[b]? = some o := blk_grown h (grownBy_setCell w j i x) hne
theorem BlkI.setC {w : World} {base j i : Nat} {v x : Value} {l : List Int} {cur : Array Value} {T : TypeId} {fr : Nat × Nat} (h : BlkI w base v l) (hj : w.heap[j]? = some (.cells cur T fr)) (hT : T ≠ 3) : BlkI (w.setCell ⟨j, i, none⟩ x) base v l :=
  h.write (grownBy_setCell w j i x) hj (fun cur e => hT (by cases e; rfl))

/-- rule under way: the reader, and the two rules that it lays. -/
structure RuS (w wr : World) (rb : Nat) (v av : Value) (s l : List Int) (b4 b7 : Nat) (x4 x7 : Array Value) : Prop where
  rd : RdAt wr rb v av s l
  g : w.grownBy wr (some rb)
  h4 : wr.heap[b4]? = some (.cells x4 110 (0, 0))
  h7 : wr.heap[b7]? = some (.cells x7 110 (0, 0))
  lo : w.heap.size ≤ b4
  lt : b4 < b7
  rbw : rb < w.heap.size
  low : s = [] ∨ ∃ b, v.ownBlock = some b ∧ b < w.heap.size

section
variable {w wr w' : World} {rb : Nat} {v av : Value} {s l l' : List Int} {b4 b7 : Nat} {x4 x7 : Array Value}
theorem RuS.go (h : RuS w wr rb v av s l b4 b7 x4 x7) (hg : RdGo wr rb v av s l' w') : RuS w w' rb v av s l' b4 b7 x4 x7 :=
  ⟨hg.1, h.g.trans hg.2, blk_grown h.h4 hg.2 (by have := h.lo; have := h.rbw; omega), blk_grown h.h7 hg.2 (by have := h.lo; have := h.rbw; have := h.lt; omega), h.lo, h.lt, h.rbw, h.low⟩
theorem RuS.same (h : RuS w wr rb v av s l b4 b7 x4 x7) (hd : ∃ n, w' = wr.drewN n) : RuS w w' rb v av s l b4 b7 x4 x7 := by
  obtain ⟨n, rfl⟩ := hd
  exact h.go ⟨h.rd.drewN n, grown_drewN _ _ _⟩
theorem RuS.at (h : RuS w wr rb v av s l b4 b7 x4 x7) {k : Nat} (hl : l' <:+ s) (hk : k = s.length - l'.length) : RuS w (wr.setCell ⟨rb, 2, none⟩ (.int .i64 (k : Nat))) rb v av s l' b4 b7 x4 x7 :=
  h.go ⟨h.rd.put (k := k) (heap_setCell _ h.rd.blk) (grownBy_setCell _ _ _ _) hl hk, grownBy_setCell _ _ _ _⟩
theorem RuS.set7 (h : RuS w wr rb v av s l b4 b7 x4 x7) (i : Nat) (x : Value) : RuS w (wr.setCell ⟨b7, i, none⟩ x) rb v av s l b4 b7 x4 (x7.setIfInBounds i x) :=
  ⟨h.rd.app (grownBy_setCell _ _ _ _) h.low (fun k hk => by have := h.lo; have := h.lt; simp at hk; omega) h.rbw, h.g.andThen (grownBy_setCell _ _ _ _) (fun j hj => by have := h.lo; have := h.lt; simp at hj; exact .inl (by omega)),
    heap_setCell_ne x h.h4 (by have := h.lt; omega), heap_setCell x h.h7, h.lo, h.lt, h.rbw, h.low⟩
theorem RuS.set4 (h : RuS w wr rb v av s l b4 b7 x4 x7) (i : Nat) (x : Value) : RuS w (wr.setCell ⟨b4, i, none⟩ x) rb v av s l b4 b7 (x4.setIfInBounds i x) x7 :=
  ⟨h.rd.app (grownBy_setCell _ _ _ _) h.low (fun k hk => by have := h.lo; have := h.lt; simp at hk; omega) h.rbw, h.g.andThen (grownBy_setCell _ _ _ _) (fun j hj => by have := h.lo; have := h.lt; simp at hj; exact .inl (by omega)),
    heap_setCell x h.h4, heap_setCell_ne x h.h7 (by have := h.lt; omega), h.lo, h.lt, h.rbw, h.low⟩
theorem RuS.c4 (h : RuS w wr rb v av s l b4 b7 x4 x7) {i : Nat} {x : Value} (hx : x4[i]? = some x) : wr.cell? ⟨b4, i, none⟩ = some x := cell_of_block h.h4 hx
theorem RuS.c7 (h : RuS w wr rb v av s l b4 b7 x4 x7) {i : Nat} {x : Value} (hx : x7[i]? = some x) : wr.cell? ⟨b7, i, none⟩ = some x := cell_of_block h.h7 hx
theorem RuS.f4 (h : RuS w wr rb v av s l b4 b7 x4 x7) (i : Nat) : wr.frozen? ⟨b4, i, none⟩ = false := frozen_of_block h.h4
theorem RuS.f7 (h : RuS w wr rb v av s l b4 b7 x4 x7) (i : Nat) : wr.frozen? ⟨b7, i, none⟩ = false := frozen_of_block h.h7
theorem RuS.cr (h : RuS w wr rb v av s l b4 b7 x4 x7) {k : Nat} (hk : k = s.length - l.length) : wr.cell? ⟨rb, 2, none⟩ = some (.int .i64 (k : Nat)) ∧ wr.frozen? ⟨rb, 2, none⟩ = false := by
  subst hk; exact ⟨cell_of_block h.rd.blk rfl, frozen_of_block h.rd.blk⟩
end

theorem ruleRet_close {w wf : World} {rb : Nat} {v av : Value} {s l l' : List Int} {b4 b7 : Nat} {x4 x7 : Array Value} {k : Int} {sv ev : Value} {q : Option RuleP} {b first : Bool} (he : ruleL first l = (q, l')) (S : RuS w wf rb v av s l' b4 b7 x4 x7) (hb : b = q.isSome) (hs1 : ∃ a n c, sv = .slice a n c) (hs2 : ∃ a n c, ev = .slice a n c)
    (hq : ∀ x, q = some x → k = x.rel ∧ BlkI wf w.heap.size sv x.seq ∧ BlkI wf w.heap.size ev x.exp) : RuleRet (ruleL first l).1 w rb v av s (ruleL first l).2 (.returned (.tuple #[.agg #[.int .i64 k, sv, ev], .bool b])) wf := by
  rw [he, hb]
  exact ⟨⟨S.rd, S.g⟩, k, sv, ev, rfl, hs1, hs2, hq⟩

set_option maxRecDepth 100000 in
set_option maxHeartbeats 4000000 in
theorem rrule_any (w : World) (rb : Nat) (v av : Value) (s l : List Int) (h : RdAt w rb v av s l) (first : Bool) :
    Calls Tryz.prog 90 #[.pointer (some ⟨rb, 0, none⟩), .bool first] w (RuleRet (ruleL first l).1 w rb v av s (ruleL first l).2) := by
  have hrbw := (Array.getElem?_eq_some_iff.1 h.blk).1
  have b0 := (Below.refl w.heap.size w).alloc (Nat.le_refl _) (.cells #[.int .i64 0, .slice none 0 0, .slice none 0 0] 110)
  have h0 := h.below b0
  have hlen := h.len
  have hrc := rrel_any _ rb v av s l h0
  obtain ⟨from', hfr⟩ : ∃ k : Nat, s.length - l.length = k := ⟨_, rfl⟩
  have hfr9 : from' ≤ 1000000 := by omega
  have hbk := h.blk
  rw [hfr] at hbk
  have c2 : w.cell? ⟨rb, 2, none⟩ = some (.int .i64 (from' : Nat)) := cell_of_block hbk rfl
  obtain ⟨k, l1, hrel⟩ : ∃ k l1, relL l = (k, l1) := ⟨_, _, rfl⟩
  rw [hrel] at hrc
  have H := Lib.hid (And.intro h (And.intro hfr hrel))
  clear hfr hrel h hbk h0
  go_enter Tryz.func90, Tryz.ntmps90
  go_wp2_with fail
  refine hrc.mono ?_
  clear hrc
  rintro e w1 ⟨rfl, hr1, hg1⟩
  have hz4 : w1.heap[w.heap.size]? = some (.cells #[.int .i64 0, .slice none 0 0, .slice none 0 0] 110 (0, 0)) := blk_grown (heap_alloc_last _ _) hg1 (by omega)
  have hsz1 : w.heap.size + 1 ≤ w1.heap.size := by have := hg1.size; simpa using this
  have b1 := (Below.refl w1.heap.size w1).alloc (Nat.le_refl _) (.cells #[.int .i64 k, .slice none 0 0, .slice none 0 0] 110)
  have S1 : RuS w (w1.alloc (.cells #[.int .i64 k, .slice none 0 0, .slice none 0 0] 110)) rb v av s l1 w.heap.size w1.heap.size #[.int .i64 0, .slice none 0 0, .slice none 0 0] #[.int .i64 k, .slice none 0 0, .slice none 0 0] :=
    ⟨hr1.below b1, ((World.grownBy_alloc _ _ _).trans hg1).trans ((grown_below b1).but _), blk_below hz4 b1, heap_alloc_last _ _, Nat.le_refl _, by omega, hrbw, H.out.1.sl.low⟩
  have HS := Lib.hid S1
  have g1 := S1.c4 (i := 0) rfl
  have g2 := S1.c4 (i := 1) rfl
  have g3 := S1.c4 (i := 2) rfl
  have f1 := S1.f4 0
  have f2 := S1.f4 1
  have f3 := S1.f4 2
  have g4 := S1.c7 (i := 0) rfl
  have g5 := S1.c7 (i := 1) rfl
  have g6 := S1.c7 (i := 2) rfl
  have ⟨r1, r2⟩ := S1.cr rfl
  obtain ⟨k1, hk1⟩ : ∃ k : Nat, s.length - l1.length = k := ⟨_, rfl⟩
  rw [hk1] at r1
  have HK1 := Lib.hid hk1
  clear S1 hr1 hg1 hz4 b1 hk1
  by_cases hk0 : k = 0 ∨ (first = true ∧ k ≠ 1)
  · have hrl : ruleL first l = (none, l) := by unfold ruleL; rw [H.out.2.2]; exact if_pos hk0
    have HR := Lib.hid hrl
    clear hrl
    by_cases hk00 : k = 0
    · subst hk00
      clear hk0
      go_wp2_with fail
      have Sf := ((((HS.out.at H.out.1.suf H.out.2.1.symm).set4 0 (.int .i64 0)).set4 1 (.slice none 0 0)).set4 2 (.slice none 0 0))
      have SF := Lib.hid Sf
      have e0 := Sf.c4 (i := 0) (x := .int .i64 0) (by simp)
      have e1 := Sf.c4 (i := 1) (x := (.slice none 0 0)) (by simp)
      have e2 := Sf.c4 (i := 2) (x := (.slice none 0 0)) (by simp)
      clear Sf
      revert SF e0 e1 e2
      generalize World.setCell _ ⟨w.heap.size, 2, none⟩ (.slice none 0 0) = wf
      intro SF e0 e1 e2
      exact bodyPost_ret (v := .tuple #[.agg #[.int .i64 0, (.slice none 0 0), (.slice none 0 0)], .bool false]) (by simp [results, Tryz.results90, go_sem, e0, e1, e2]) rfl (ruleRet_close HR.out SF.out rfl ⟨_, _, _, rfl⟩ ⟨_, _, _, rfl⟩ (fun x hx => by cases hx))
    · obtain ⟨hf, hk1⟩ : first = true ∧ k ≠ 1 := by rcases hk0 with h | h; exact absurd h hk00; exact h
      subst hf
      have hk0' : (k == 0) = false := by simpa using hk00
      have hk1' : (k == 1) = false := by simpa using hk1
      have hk1'' : (k != 1) = true := by simpa using hk1
      clear hk0 hk00 hk1
      go_wp2_with fail
      have Sf := ((((HS.out.at H.out.1.suf H.out.2.1.symm).set4 0 (.int .i64 k)).set4 1 (.slice none 0 0)).set4 2 (.slice none 0 0))
      have SF := Lib.hid Sf
      have e0 := Sf.c4 (i := 0) (x := .int .i64 k) (by simp)
      have e1 := Sf.c4 (i := 1) (x := (.slice none 0 0)) (by simp)
      have e2 := Sf.c4 (i := 2) (x := (.slice none 0 0)) (by simp)
      clear Sf
      revert SF e0 e1 e2
      generalize World.setCell _ ⟨w.heap.size, 2, none⟩ (.slice none 0 0) = wf
      intro SF e0 e1 e2
      exact bodyPost_ret (v := .tuple #[.agg #[.int .i64 k, (.slice none 0 0), (.slice none 0 0)], .bool false]) (by simp [results, Tryz.results90, go_sem, e0, e1, e2]) rfl (ruleRet_close HR.out SF.out rfl ⟨_, _, _, rfl⟩ ⟨_, _, _, rfl⟩ (fun x hx => by cases hx))
  · have hk00 : (k == 0) = false := by simp; exact fun e => hk0 (.inl e)
    have hsq := rseq_any _ rb v av s l1 HS.out.rd
    have htest : (k = 1 ∧ first = true) ∨ (k = 1 ∧ first = false) ∨ (k ≠ 1 ∧ first = false) := by
      by_cases h1 : k = 1
      · cases first with
        | true => exact .inl ⟨h1, rfl⟩
        | false => exact .inr (.inl ⟨h1, rfl⟩)
      · cases first with
        | true => exact absurd (.inr ⟨rfl, h1⟩) hk0
        | false => exact .inr (.inr ⟨h1, rfl⟩)
    obtain ⟨q1, r1', hq1⟩ : ∃ q r, seqL l1 = (q, r) := ⟨_, _, rfl⟩
    rw [hq1] at hsq
    have HQ := Lib.hid (And.intro hq1 hk0)
    clear hq1 hk0
    rcases htest with ⟨rfl, rfl⟩ | ⟨rfl, rfl⟩ | ⟨hk1, rfl⟩
    · clear hk00
      go_wp2_with fail
      refine hsq.mono ?_
      rintro e w2 ⟨hgo, sv, rfl, ⟨a1, n1, d1, rfl⟩, hsv⟩
      have S2 := HS.out.go hgo
      have pg0 := S2.c7 (i := 0) rfl
      have ph0 := S2.c4 (i := 0) rfl
      have pf0 := S2.f7 0
      have pj0 := S2.f4 0
      have pg1 := S2.c7 (i := 1) rfl
      have ph1 := S2.c4 (i := 1) rfl
      have pf1 := S2.f7 1
      have pj1 := S2.f4 1
      have pg2 := S2.c7 (i := 2) rfl
      have ph2 := S2.c4 (i := 2) rfl
      have pf2 := S2.f7 2
      have pj2 := S2.f4 2
      obtain ⟨from2, hf2⟩ : ∃ k : Nat, s.length - r1'.length = k := ⟨_, rfl⟩
      have ⟨pr1, pr2⟩ := S2.cr hf2.symm
      have hf29 : from2 ≤ 1000000 := by omega
      have HS2 := Lib.hid (And.intro S2 hf2)
      have hbl := rblank_any _ rb v av s r1' (S2.set7 1 (.slice a1 n1 d1)).rd
      clear S2 hsq hgo g1 g2 g3 g4 g5 g6 f1 f2 f3 r1 r2 hf2 c2
      cases q1 with
      | none =>
        have hrl : ruleL true l = (none, r1') := by unfold ruleL; rw [H.out.2.2]; simp only [HQ.out.1]; rw [if_neg HQ.out.2]
        have HR := Lib.hid hrl
        clear hrl hbl hsv pr1 pr2
        simp only [Option.isSome_none]
        go_wp2_with fail
        have Sf := ((((HS2.out.1.set7 1 (.slice a1 n1 d1)).set4 0 (.int .i64 1)).set4 1 (.slice a1 n1 d1)).set4 2 (.slice none 0 0))
        have SF := Lib.hid Sf
        have e0 := Sf.c4 (i := 0) (x := .int .i64 1) (by simp)
        have e1 := Sf.c4 (i := 1) (x := (.slice a1 n1 d1)) (by simp)
        have e2 := Sf.c4 (i := 2) (x := (.slice none 0 0)) (by simp)
        clear Sf
        revert SF e0 e1 e2
        generalize World.setCell _ ⟨w.heap.size, 2, none⟩ (.slice none 0 0) = wf
        intro SF e0 e1 e2
        exact bodyPost_ret (v := .tuple #[.agg #[.int .i64 1, (.slice a1 n1 d1), (.slice none 0 0)], .bool false]) (by simp [results, Tryz.results90, go_sem, e0, e1, e2]) rfl (ruleRet_close HR.out SF.out rfl ⟨_, _, _, rfl⟩ ⟨_, _, _, rfl⟩ (fun x hx => by cases hx))
      | some sq =>
        have hbs := (hsv sq rfl).base (b' := w.heap.size) (by simp; omega)
        have HB := Lib.hid hbs
        clear hbs hsv
        simp only [Option.isSome_some]
        go_wp2_with fail
        refine hbl.mono ?_
        rintro e w3 ⟨rfl, hgo3⟩
        have S3 := (HS2.out.1.set7 1 (.slice a1 n1 d1)).go hgo3
        have hb3 : BlkI w3 w.heap.size (.slice a1 n1 d1) sq := ((HB.out.setC HS2.out.1.h7 (by decide)).write hgo3.2 (HS2.out.1.set7 1 (.slice a1 n1 d1)).rd.blk (fun _ e => by cases e))
        have HB3 := Lib.hid hb3
        clear hb3 hgo3 pg0 ph0 pf0 pj0 pg1 ph1 pf1 pj1 pg2 ph2 pf2 pj2 pr1 pr2 hbl
        have qg0 := S3.c7 (i := 0) rfl
        have qh0 := S3.c4 (i := 0) rfl
        have qf0 := S3.f7 0
        have qj0 := S3.f4 0
        have qg1 := S3.c7 (i := 1) rfl
        have qh1 := S3.c4 (i := 1) rfl
        have qf1 := S3.f7 1
        have qj1 := S3.f4 1
        have qg2 := S3.c7 (i := 2) rfl
        have qh2 := S3.c4 (i := 2) rfl
        have qf2 := S3.f7 2
        have qj2 := S3.f4 2
        obtain ⟨from3, hf3⟩ : ∃ k : Nat, s.length - (blankL r1').length = k := ⟨_, rfl⟩
        have ⟨qr1, qr2⟩ := S3.cr hf3.symm
        have hf39 : from3 ≤ 1000000 := by omega
        have HS3 := Lib.hid (And.intro S3 hf3)
        have hsg := rsign_any _ rb v av s _ S3.rd
        clear S3 hf3
        have hrl : ruleL true l = (some ⟨1, sq, []⟩, r1') := by unfold ruleL; rw [H.out.2.2]; simp only [HQ.out.1]; rw [if_neg HQ.out.2, if_pos (by simp)]
        have HR := Lib.hid hrl
        clear hrl hsg
        go_wp2_with fail
        have Sf := ((((HS3.out.1.at HS2.out.1.rd.suf HS2.out.2.symm).set4 0 (.int .i64 1)).set4 1 (.slice a1 n1 d1)).set4 2 (.slice none 0 0))
        have SF := Lib.hid Sf
        have e0 := Sf.c4 (i := 0) (x := .int .i64 1) (by simp)
        have e1 := Sf.c4 (i := 1) (x := (.slice a1 n1 d1)) (by simp)
        have e2 := Sf.c4 (i := 2) (x := (.slice none 0 0)) (by simp)
        have bf := (((HB3.out.setC HS3.out.1.rd.blk (i := 2) (x := .int .i64 (from2 : Nat)) (by decide)).setC (HS3.out.1.at HS2.out.1.rd.suf HS2.out.2.symm).h4 (i := 0) (x := .int .i64 1) (by decide)).setC ((HS3.out.1.at HS2.out.1.rd.suf HS2.out.2.symm).set4 0 (.int .i64 1)).h4 (i := 1) (x := (.slice a1 n1 d1)) (by decide)).setC (((HS3.out.1.at HS2.out.1.rd.suf HS2.out.2.symm).set4 0 (.int .i64 1)).set4 1 (.slice a1 n1 d1)).h4 (i := 2) (x := (.slice none 0 0)) (by decide)
        have BF := Lib.hid bf
        clear Sf bf
        revert SF BF e0 e1 e2
        generalize World.setCell _ ⟨w.heap.size, 2, none⟩ (.slice none 0 0) = wf
        intro SF e0 e1 e2 BF
        exact bodyPost_ret (v := .tuple #[.agg #[.int .i64 1, (.slice a1 n1 d1), (.slice none 0 0)], .bool true]) (by simp [results, Tryz.results90, go_sem, e0, e1, e2]) rfl (ruleRet_close HR.out SF.out rfl ⟨_, _, _, rfl⟩ ⟨_, _, _, rfl⟩ (fun x hx => by cases hx; exact ⟨rfl, BF.out, .inl ⟨rfl, rfl⟩⟩))
    · clear hk00
      go_wp2_with fail
      refine hsq.mono ?_
      rintro e w2 ⟨hgo, sv, rfl, ⟨a1, n1, d1, rfl⟩, hsv⟩
      have S2 := HS.out.go hgo
      have pg0 := S2.c7 (i := 0) rfl
      have ph0 := S2.c4 (i := 0) rfl
      have pf0 := S2.f7 0
      have pj0 := S2.f4 0
      have pg1 := S2.c7 (i := 1) rfl
      have ph1 := S2.c4 (i := 1) rfl
      have pf1 := S2.f7 1
      have pj1 := S2.f4 1
      have pg2 := S2.c7 (i := 2) rfl
      have ph2 := S2.c4 (i := 2) rfl
      have pf2 := S2.f7 2
      have pj2 := S2.f4 2
      obtain ⟨from2, hf2⟩ : ∃ k : Nat, s.length - r1'.length = k := ⟨_, rfl⟩
      have ⟨pr1, pr2⟩ := S2.cr hf2.symm
      have hf29 : from2 ≤ 1000000 := by omega
      have HS2 := Lib.hid (And.intro S2 hf2)
      have hbl := rblank_any _ rb v av s r1' (S2.set7 1 (.slice a1 n1 d1)).rd
      clear S2 hsq hgo g1 g2 g3 g4 g5 g6 f1 f2 f3 r1 r2 hf2 c2
      cases q1 with
      | none =>
        have hrl : ruleL false l = (none, r1') := by unfold ruleL; rw [H.out.2.2]; simp only [HQ.out.1]; rw [if_neg HQ.out.2]
        have HR := Lib.hid hrl
        clear hrl hbl hsv pr1 pr2
        simp only [Option.isSome_none]
        go_wp2_with fail
        have Sf := ((((HS2.out.1.set7 1 (.slice a1 n1 d1)).set4 0 (.int .i64 1)).set4 1 (.slice a1 n1 d1)).set4 2 (.slice none 0 0))
        have SF := Lib.hid Sf
        have e0 := Sf.c4 (i := 0) (x := .int .i64 1) (by simp)
        have e1 := Sf.c4 (i := 1) (x := (.slice a1 n1 d1)) (by simp)
        have e2 := Sf.c4 (i := 2) (x := (.slice none 0 0)) (by simp)
        clear Sf
        revert SF e0 e1 e2
        generalize World.setCell _ ⟨w.heap.size, 2, none⟩ (.slice none 0 0) = wf
        intro SF e0 e1 e2
        exact bodyPost_ret (v := .tuple #[.agg #[.int .i64 1, (.slice a1 n1 d1), (.slice none 0 0)], .bool false]) (by simp [results, Tryz.results90, go_sem, e0, e1, e2]) rfl (ruleRet_close HR.out SF.out rfl ⟨_, _, _, rfl⟩ ⟨_, _, _, rfl⟩ (fun x hx => by cases hx))
      | some sq =>
        have hbs := (hsv sq rfl).base (b' := w.heap.size) (by simp; omega)
        have HB := Lib.hid hbs
        clear hbs hsv
        simp only [Option.isSome_some]
        go_wp2_with fail
        refine hbl.mono ?_
        rintro e w3 ⟨rfl, hgo3⟩
        have S3 := (HS2.out.1.set7 1 (.slice a1 n1 d1)).go hgo3
        have hb3 : BlkI w3 w.heap.size (.slice a1 n1 d1) sq := ((HB.out.setC HS2.out.1.h7 (by decide)).write hgo3.2 (HS2.out.1.set7 1 (.slice a1 n1 d1)).rd.blk (fun _ e => by cases e))
        have HB3 := Lib.hid hb3
        clear hb3 hgo3 pg0 ph0 pf0 pj0 pg1 ph1 pf1 pj1 pg2 ph2 pf2 pj2 pr1 pr2 hbl
        have qg0 := S3.c7 (i := 0) rfl
        have qh0 := S3.c4 (i := 0) rfl
        have qf0 := S3.f7 0
        have qj0 := S3.f4 0
        have qg1 := S3.c7 (i := 1) rfl
        have qh1 := S3.c4 (i := 1) rfl
        have qf1 := S3.f7 1
        have qj1 := S3.f4 1
        have qg2 := S3.c7 (i := 2) rfl
        have qh2 := S3.c4 (i := 2) rfl
        have qf2 := S3.f7 2
        have qj2 := S3.f4 2
        obtain ⟨from3, hf3⟩ : ∃ k : Nat, s.length - (blankL r1').length = k := ⟨_, rfl⟩
        have ⟨qr1, qr2⟩ := S3.cr hf3.symm
        have hf39 : from3 ≤ 1000000 := by omega
        have HS3 := Lib.hid (And.intro S3 hf3)
        have hsg := rsign_any _ rb v av s _ S3.rd
        clear S3 hf3
        have hrl : ruleL false l = (some ⟨1, sq, []⟩, r1') := by unfold ruleL; rw [H.out.2.2]; simp only [HQ.out.1]; rw [if_neg HQ.out.2, if_pos (by simp)]
        have HR := Lib.hid hrl
        clear hrl hsg
        go_wp2_with fail
        have Sf := ((((HS3.out.1.at HS2.out.1.rd.suf HS2.out.2.symm).set4 0 (.int .i64 1)).set4 1 (.slice a1 n1 d1)).set4 2 (.slice none 0 0))
        have SF := Lib.hid Sf
        have e0 := Sf.c4 (i := 0) (x := .int .i64 1) (by simp)
        have e1 := Sf.c4 (i := 1) (x := (.slice a1 n1 d1)) (by simp)
        have e2 := Sf.c4 (i := 2) (x := (.slice none 0 0)) (by simp)
        have bf := (((HB3.out.setC HS3.out.1.rd.blk (i := 2) (x := .int .i64 (from2 : Nat)) (by decide)).setC (HS3.out.1.at HS2.out.1.rd.suf HS2.out.2.symm).h4 (i := 0) (x := .int .i64 1) (by decide)).setC ((HS3.out.1.at HS2.out.1.rd.suf HS2.out.2.symm).set4 0 (.int .i64 1)).h4 (i := 1) (x := (.slice a1 n1 d1)) (by decide)).setC (((HS3.out.1.at HS2.out.1.rd.suf HS2.out.2.symm).set4 0 (.int .i64 1)).set4 1 (.slice a1 n1 d1)).h4 (i := 2) (x := (.slice none 0 0)) (by decide)
        have BF := Lib.hid bf
        clear Sf bf
        revert SF BF e0 e1 e2
        generalize World.setCell _ ⟨w.heap.size, 2, none⟩ (.slice none 0 0) = wf
        intro SF e0 e1 e2 BF
        exact bodyPost_ret (v := .tuple #[.agg #[.int .i64 1, (.slice a1 n1 d1), (.slice none 0 0)], .bool true]) (by simp [results, Tryz.results90, go_sem, e0, e1, e2]) rfl (ruleRet_close HR.out SF.out rfl ⟨_, _, _, rfl⟩ ⟨_, _, _, rfl⟩ (fun x hx => by cases hx; exact ⟨rfl, BF.out, .inl ⟨rfl, rfl⟩⟩))
    · have hk1' : (k == 1) = false := by simpa using hk1
      have hk1'' : (k != 1) = true := by simpa using hk1
      have HK := Lib.hid hk1
      clear hk1
      go_wp2_with fail
      refine hsq.mono ?_
      rintro e w2 ⟨hgo, sv, rfl, ⟨a1, n1, d1, rfl⟩, hsv⟩
      have S2 := HS.out.go hgo
      have pg0 := S2.c7 (i := 0) rfl
      have ph0 := S2.c4 (i := 0) rfl
      have pf0 := S2.f7 0
      have pj0 := S2.f4 0
      have pg1 := S2.c7 (i := 1) rfl
      have ph1 := S2.c4 (i := 1) rfl
      have pf1 := S2.f7 1
      have pj1 := S2.f4 1
      have pg2 := S2.c7 (i := 2) rfl
      have ph2 := S2.c4 (i := 2) rfl
      have pf2 := S2.f7 2
      have pj2 := S2.f4 2
      obtain ⟨from2, hf2⟩ : ∃ k : Nat, s.length - r1'.length = k := ⟨_, rfl⟩
      have ⟨pr1, pr2⟩ := S2.cr hf2.symm
      have hf29 : from2 ≤ 1000000 := by omega
      have HS2 := Lib.hid (And.intro S2 hf2)
      have hbl := rblank_any _ rb v av s r1' (S2.set7 1 (.slice a1 n1 d1)).rd
      clear S2 hsq hgo g1 g2 g3 g4 g5 g6 f1 f2 f3 r1 r2 hf2 c2
      cases q1 with
      | none =>
        have hrl : ruleL false l = (none, r1') := by unfold ruleL; rw [H.out.2.2]; simp only [HQ.out.1]; rw [if_neg HQ.out.2]
        have HR := Lib.hid hrl
        clear hrl hbl hsv pr1 pr2
        simp only [Option.isSome_none]
        go_wp2_with fail
        have Sf := ((((HS2.out.1.set7 1 (.slice a1 n1 d1)).set4 0 (.int .i64 k)).set4 1 (.slice a1 n1 d1)).set4 2 (.slice none 0 0))
        have SF := Lib.hid Sf
        have e0 := Sf.c4 (i := 0) (x := .int .i64 k) (by simp)
        have e1 := Sf.c4 (i := 1) (x := (.slice a1 n1 d1)) (by simp)
        have e2 := Sf.c4 (i := 2) (x := (.slice none 0 0)) (by simp)
        clear Sf
        revert SF e0 e1 e2
        generalize World.setCell _ ⟨w.heap.size, 2, none⟩ (.slice none 0 0) = wf
        intro SF e0 e1 e2
        exact bodyPost_ret (v := .tuple #[.agg #[.int .i64 k, (.slice a1 n1 d1), (.slice none 0 0)], .bool false]) (by simp [results, Tryz.results90, go_sem, e0, e1, e2]) rfl (ruleRet_close HR.out SF.out rfl ⟨_, _, _, rfl⟩ ⟨_, _, _, rfl⟩ (fun x hx => by cases hx))
      | some sq =>
        have hbs := (hsv sq rfl).base (b' := w.heap.size) (by simp; omega)
        have HB := Lib.hid hbs
        clear hbs hsv
        simp only [Option.isSome_some]
        go_wp2_with fail
        refine hbl.mono ?_
        rintro e w3 ⟨rfl, hgo3⟩
        have S3 := (HS2.out.1.set7 1 (.slice a1 n1 d1)).go hgo3
        have hb3 : BlkI w3 w.heap.size (.slice a1 n1 d1) sq := ((HB.out.setC HS2.out.1.h7 (by decide)).write hgo3.2 (HS2.out.1.set7 1 (.slice a1 n1 d1)).rd.blk (fun _ e => by cases e))
        have HB3 := Lib.hid hb3
        clear hb3 hgo3 pg0 ph0 pf0 pj0 pg1 ph1 pf1 pj1 pg2 ph2 pf2 pj2 pr1 pr2 hbl
        have qg0 := S3.c7 (i := 0) rfl
        have qh0 := S3.c4 (i := 0) rfl
        have qf0 := S3.f7 0
        have qj0 := S3.f4 0
        have qg1 := S3.c7 (i := 1) rfl
        have qh1 := S3.c4 (i := 1) rfl
        have qf1 := S3.f7 1
        have qj1 := S3.f4 1
        have qg2 := S3.c7 (i := 2) rfl
        have qh2 := S3.c4 (i := 2) rfl
        have qf2 := S3.f7 2
        have qj2 := S3.f4 2
        obtain ⟨from3, hf3⟩ : ∃ k : Nat, s.length - (blankL r1').length = k := ⟨_, rfl⟩
        have ⟨qr1, qr2⟩ := S3.cr hf3.symm
        have hf39 : from3 ≤ 1000000 := by omega
        have HS3 := Lib.hid (And.intro S3 hf3)
        have hsg := rsign_any _ rb v av s _ S3.rd
        clear S3 hf3
        obtain ⟨sg, hsg1⟩ : ∃ sg, sgnL (blankL r1') = sg := ⟨_, rfl⟩
        rw [hsg1] at hsg
        by_cases h47 : sg = 47
        · subst h47
          obtain ⟨r2, hr2⟩ := sgnL_ne hsg1 (by decide)
          obtain ⟨q2, r3, hq2⟩ : ∃ q r, seqL r2 = (q, r) := ⟨_, _, rfl⟩
          have hbt : (blankL r1').tail = r2 := by rw [hr2]; rfl
          have HQ2 := Lib.hid (And.intro hsg1 (And.intro hbt hq2))
          have hnew : ∀ w4, RuS w w4 rb v av s (blankL r1') w.heap.size w1.heap.size #[.int .i64 0, .slice none 0 0, .slice none 0 0] #[.int .i64 k, (.slice a1 n1 d1), .slice none 0 0] → RuS w w4 rb v av s (47 :: r2) w.heap.size w1.heap.size #[.int .i64 0, .slice none 0 0, .slice none 0 0] #[.int .i64 k, (.slice a1 n1 d1), .slice none 0 0] := by
            intro w4 h; rw [hr2] at h; exact h
          have HN := Lib.hid hnew
          clear hsg1 hbt hnew hr2
          go_wp2_with fail
          refine hsg.mono ?_
          rintro e w4 ⟨rfl, hd⟩
          have S4 := HN.out w4 (HS3.out.1.same hd)
          have hb4 : BlkI w4 w.heap.size (.slice a1 n1 d1) sq := by
            obtain ⟨n, rfl⟩ := hd
            exact HB3.out.below (Below.drewN (Below.refl _ _) n)
          clear hd qg0 qh0 qf0 qj0 qg1 qh1 qf1 qj1 qg2 qh2 qf2 qj2 qr1 qr2 hsg
          obtain ⟨k4, hk4, ic, jf, hr5, hg5⟩ := S4.rd.inc
          have S5 := S4.go ⟨hr5, hg5⟩
          have hb5 := hb4.write hg5 S4.rd.blk (fun _ e => by cases e)
          have hsq5 := rseq_any _ rb v av s r2 hr5
          rw [hq2] at hsq5
          have hsz5 := S5.g.size
          have HS5 := Lib.hid S5
          have HB5 := Lib.hid hb5
          have hob5 := hr5.blk
          have HO5 := Lib.hid hob5
          clear hob5 hg5 hr5 hb4 S4 hq2 S5 hb5
          go_wp2_with fail
          refine hsq5.mono ?_
          rintro e w5 ⟨hgo5, ev, rfl, ⟨a2, n2, d2, rfl⟩, hev⟩
          have S5 := HS5.out.go hgo5
          have hb5 := HB5.out.write hgo5.2 HO5.out (fun _ e => by cases e)
          clear HS5 HB5 HO5 ic jf hsq5
          have HB5 := Lib.hid hb5
          have HS5 := Lib.hid (And.intro S5 trivial)
          clear hb5 hgo5
          have ug0 := S5.c7 (i := 0) rfl
          have uh0 := S5.c4 (i := 0) rfl
          have uf0 := S5.f7 0
          have uj0 := S5.f4 0
          have ug1 := S5.c7 (i := 1) rfl
          have uh1 := S5.c4 (i := 1) rfl
          have uf1 := S5.f7 1
          have uj1 := S5.f4 1
          have ug2 := S5.c7 (i := 2) rfl
          have uh2 := S5.c4 (i := 2) rfl
          have uf2 := S5.f7 2
          have uj2 := S5.f4 2
          clear S5
          cases q2 with
          | none =>
            have hrl : ruleL false l = (none, r3) := by unfold ruleL; rw [H.out.2.2]; simp only [HQ.out.1]; rw [if_neg HQ.out.2, if_neg (fun h => h.elim (fun h => HK.out h) (fun h => h HQ2.out.1)), HQ2.out.2.1]; simp only [HQ2.out.2.2]
            have HR := Lib.hid hrl
            clear hrl hev
            simp only [Option.isSome_none]
            go_wp2_with fail
            have Sf := ((((HS5.out.1.set7 2 (.slice a2 n2 d2)).set4 0 (.int .i64 k)).set4 1 (.slice a1 n1 d1)).set4 2 (.slice a2 n2 d2))
            have SF := Lib.hid Sf
            have e0 := Sf.c4 (i := 0) (x := .int .i64 k) (by simp)
            have e1 := Sf.c4 (i := 1) (x := (.slice a1 n1 d1)) (by simp)
            have e2 := Sf.c4 (i := 2) (x := (.slice a2 n2 d2)) (by simp)
            clear Sf
            revert SF e0 e1 e2
            generalize World.setCell _ ⟨w.heap.size, 2, none⟩ (.slice a2 n2 d2) = wf
            intro SF e0 e1 e2
            exact bodyPost_ret (v := .tuple #[.agg #[.int .i64 k, (.slice a1 n1 d1), (.slice a2 n2 d2)], .bool false]) (by simp [results, Tryz.results90, go_sem, e0, e1, e2]) rfl (ruleRet_close HR.out SF.out rfl ⟨_, _, _, rfl⟩ ⟨_, _, _, rfl⟩ (fun x hx => by cases hx))
          | some ex =>
            have hrl : ruleL false l = (some ⟨k, sq, ex⟩, r3) := by unfold ruleL; rw [H.out.2.2]; simp only [HQ.out.1]; rw [if_neg HQ.out.2, if_neg (fun h => h.elim (fun h => HK.out h) (fun h => h HQ2.out.1)), HQ2.out.2.1]; simp only [HQ2.out.2.2]
            have HR := Lib.hid hrl
            have he5 := (hev ex rfl).base (b' := w.heap.size) hsz5
            have HE5 := Lib.hid he5
            clear hrl hev he5
            simp only [Option.isSome_some]
            go_wp2_with fail
            have Sf := ((((HS5.out.1.set7 2 (.slice a2 n2 d2)).set4 0 (.int .i64 k)).set4 1 (.slice a1 n1 d1)).set4 2 (.slice a2 n2 d2))
            have SF := Lib.hid Sf
            have e0 := Sf.c4 (i := 0) (x := .int .i64 k) (by simp)
            have e1 := Sf.c4 (i := 1) (x := (.slice a1 n1 d1)) (by simp)
            have e2 := Sf.c4 (i := 2) (x := (.slice a2 n2 d2)) (by simp)
            have bf := (((((HB5.out.setC HS5.out.1.h7 (i := 2) (x := (.slice a2 n2 d2)) (by decide)).setC (HS5.out.1.set7 2 (.slice a2 n2 d2)).h4 (i := 0) (x := .int .i64 k) (by decide)).setC ((HS5.out.1.set7 2 (.slice a2 n2 d2)).set4 0 (.int .i64 k)).h4 (i := 1) (x := (.slice a1 n1 d1)) (by decide)).setC (((HS5.out.1.set7 2 (.slice a2 n2 d2)).set4 0 (.int .i64 k)).set4 1 (.slice a1 n1 d1)).h4 (i := 2) (x := (.slice a2 n2 d2)) (by decide)))
            have be := (((((HE5.out.setC HS5.out.1.h7 (i := 2) (x := (.slice a2 n2 d2)) (by decide)).setC (HS5.out.1.set7 2 (.slice a2 n2 d2)).h4 (i := 0) (x := .int .i64 k) (by decide)).setC ((HS5.out.1.set7 2 (.slice a2 n2 d2)).set4 0 (.int .i64 k)).h4 (i := 1) (x := (.slice a1 n1 d1)) (by decide)).setC (((HS5.out.1.set7 2 (.slice a2 n2 d2)).set4 0 (.int .i64 k)).set4 1 (.slice a1 n1 d1)).h4 (i := 2) (x := (.slice a2 n2 d2)) (by decide)))
            have BF := Lib.hid (And.intro bf be)
            clear Sf bf be
            revert SF BF e0 e1 e2
            generalize World.setCell _ ⟨w.heap.size, 2, none⟩ (.slice a2 n2 d2) = wf
            intro SF e0 e1 e2 BF
            exact bodyPost_ret (v := .tuple #[.agg #[.int .i64 k, (.slice a1 n1 d1), (.slice a2 n2 d2)], .bool true]) (by simp [results, Tryz.results90, go_sem, e0, e1, e2]) rfl (ruleRet_close HR.out SF.out rfl ⟨_, _, _, rfl⟩ ⟨_, _, _, rfl⟩ (fun x hx => by cases hx; exact ⟨rfl, BF.out.1, BF.out.2⟩))
        · have hrl : ruleL false l = (some ⟨k, sq, []⟩, r1') := by unfold ruleL; rw [H.out.2.2]; simp only [HQ.out.1]; rw [if_neg HQ.out.2, if_pos (.inr (fun e => h47 (by rw [← hsg1]; exact e)))]
          have HR := Lib.hid hrl
          have h47' : (sg != 47) = true := by simpa using h47
          clear hrl hsg1 h47
          go_wp2_with fail
          refine hsg.mono ?_
          rintro e w4 ⟨rfl, hd⟩
          have S4 := HS3.out.1.same hd
          have hb4 : BlkI w4 w.heap.size (.slice a1 n1 d1) sq := by
            obtain ⟨n, rfl⟩ := hd
            exact HB3.out.below (Below.drewN (Below.refl _ _) n)
          clear hd qg0 qh0 qf0 qj0 qg1 qh1 qf1 qj1 qg2 qh2 qf2 qj2 qr1 qr2 hsg
          have rg0 := S4.c7 (i := 0) rfl
          have rh0 := S4.c4 (i := 0) rfl
          have rf0 := S4.f7 0
          have rj0 := S4.f4 0
          have rg1 := S4.c7 (i := 1) rfl
          have rh1 := S4.c4 (i := 1) rfl
          have rf1 := S4.f7 1
          have rj1 := S4.f4 1
          have rg2 := S4.c7 (i := 2) rfl
          have rh2 := S4.c4 (i := 2) rfl
          have rf2 := S4.f7 2
          have rj2 := S4.f4 2
          have ⟨rr1, rr2⟩ := S4.cr HS3.out.2.symm
          have HS4 := Lib.hid S4
          have HB4 := Lib.hid hb4
          clear S4 hb4
          go_wp2_with fail
          have Sf := ((((HS4.out.at HS2.out.1.rd.suf HS2.out.2.symm).set4 0 (.int .i64 k)).set4 1 (.slice a1 n1 d1)).set4 2 (.slice none 0 0))
          have SF := Lib.hid Sf
          have e0 := Sf.c4 (i := 0) (x := .int .i64 k) (by simp)
          have e1 := Sf.c4 (i := 1) (x := (.slice a1 n1 d1)) (by simp)
          have e2 := Sf.c4 (i := 2) (x := (.slice none 0 0)) (by simp)
          have bf := (((HB4.out.setC HS4.out.rd.blk (i := 2) (x := .int .i64 (from2 : Nat)) (by decide)).setC (HS4.out.at HS2.out.1.rd.suf HS2.out.2.symm).h4 (i := 0) (x := .int .i64 k) (by decide)).setC ((HS4.out.at HS2.out.1.rd.suf HS2.out.2.symm).set4 0 (.int .i64 k)).h4 (i := 1) (x := (.slice a1 n1 d1)) (by decide)).setC (((HS4.out.at HS2.out.1.rd.suf HS2.out.2.symm).set4 0 (.int .i64 k)).set4 1 (.slice a1 n1 d1)).h4 (i := 2) (x := (.slice none 0 0)) (by decide)
          have BF := Lib.hid bf
          clear Sf bf
          revert SF BF e0 e1 e2
          generalize World.setCell _ ⟨w.heap.size, 2, none⟩ (.slice none 0 0) = wf
          intro SF e0 e1 e2 BF
          exact bodyPost_ret (v := .tuple #[.agg #[.int .i64 k, (.slice a1 n1 d1), (.slice none 0 0)], .bool true]) (by simp [results, Tryz.results90, go_sem, e0, e1, e2]) rfl (ruleRet_close HR.out SF.out rfl ⟨_, _, _, rfl⟩ ⟨_, _, _, rfl⟩ (fun x hx => by cases hx; exact ⟨rfl, BF.out, .inl ⟨rfl, rfl⟩⟩))
end Go.Proofs.YtccdkchmeelkfaaGreatDoor
