/- A text's elements; a text of rules read; the law awake. -/
import Derived.Test.YtccdkchmeelkfaaGreatDoorA19
import Derived.Test.YtccdkchmeelkfaaGreatDoorA18
import Derived.Test.YtccdkchmeelkfaaGreatDoorA12
import Derived.Test.YtccdkchmeelkfaaGreatDoorA2
import Derived.Deep.RegionHeld3
import Derived.Deep.RegionLawGrows

/- (W34) A text's elements, and a text's table: Table.Elements, tailor.Read. -/
namespace Go.Proofs.YtccdkchmeelkfaaGreatDoor
open Go.RowKit

set_option maxRecDepth 100000 in
theorem elements_any (s : ByteArray) (w : World) (p : Value) (T : Tab Nat) (h : TableAt w p T) (hs : s.size ≤ 1000000) (hT : U8 w) :
    Calls Tryz.prog 44 #[p, .string s] w fun e w' => ∃ lv, e = .returned lv ∧ SlE w' lv (ofS implW T (signsT s.data.toList)) ∧ Below w.heap.size w w' := by
  have hsg := csigns_any s w hs hT
  have hof := fun (w1 : World) (v : Value) (hb : Below w.heap.size w w1) (hv : SlI w1 v (signsT s.data.toList)) => of_tab w1 p v T (h.below hb) (signsT s.data.toList) hv
    (fun c hc => by have := isSign_bd (signsT_sign _ c hc); unfold i64ok; omega) (by have := signsT_len s.data.toList; rw [← Lib.size_eq] at this; omega)
  obtain ⟨S, hS⟩ : ∃ S, signsT s.data.toList = S := ⟨_, rfl⟩
  rw [hS] at hsg hof
  rw [hS]
  have HO := Lib.hid hof
  clear hof h hT hS
  go_enter Tryz.func44, Tryz.ntmps44
  go_wp2_with fail
  refine hsg.mono ?_
  clear hsg
  rintro e w1 ⟨v, rfl, hv, hb1⟩
  have hc := HO.out w1 v hb1 hv.sl
  have HB := Lib.hid hb1
  clear hv hb1
  go_wp2_with fail
  refine hc.mono ?_
  clear hc
  rintro e w2 ⟨lv, rfl, hl, hb2⟩
  have HL := Lib.hid (And.intro hl (Below.next HB.out hb2))
  clear hl hb2
  go_wp2_with fail
  go_ret
  exact ⟨_, rfl, HL.out.1, HL.out.2⟩

/-- What Read tells. -/
def ReadRet (r : Except (Nat × Int) (Tab Nat)) (w : World) (e : Ending) (w' : World) : Prop :=
  Below w.heap.size w w' ∧ match r with
    | .error (at_, c) => e = .returned (.tuple #[.pointer none, .int .i64 (at_ : Nat), .int .i64 c])
    | .ok T => ∃ p, e = .returned (.tuple #[p, .int .i64 0, .int .i64 0]) ∧ TableAt w' p T

set_option maxRecDepth 100000 in
set_option maxHeartbeats 2000000 in
theorem read_any (s : ByteArray) (w : World) (hs : s.size ≤ 1000000) (hT : U8 w) :
    Calls Tryz.prog 18 #[.string s] w (ReadRet (readS (signsT s.data.toList)) w) := by
  have hp := parse_any s w hs hT
  have hbd := fun c hc => isSign_bd (signsT_sign s.data.toList c hc)
  obtain ⟨S, hS⟩ : ∃ S, signsT s.data.toList = S := ⟨_, rfl⟩
  rw [hS] at hp hbd
  rw [hS]
  have hfit := fun L (h : parseS S = .ok L) => parseS_fit (fun c => 0 ≤ c ∧ c ≤ 1114367) hbd h
  have HF := Lib.hid hfit
  clear hfit hS hT hbd
  go_enter Tryz.func18, Tryz.ntmps18
  go_wp2_with fail
  refine hp.mono ?_
  clear hp
  rintro e w1 ⟨hb1, hm⟩
  cases hps : parseS S with
  | error x =>
    obtain ⟨at_, c⟩ := x
    rw [hps] at hm
    have HR := Lib.hid (readS_bad hps)
    have HB := Lib.hid hb1
    subst hm
    have hc0 : c ≠ 0 := by
      unfold parseS at hps
      split at hps
      · cases hps; decide
      · split at hps
        · cases hps; decide
        · cases hps
    clear hps hb1 HF
    go_wp2_with fail
    go_ret3
    refine ⟨HB.out, ?_⟩
    rw [HR.out]
    rfl
  | ok L =>
    rw [hps] at hm
    obtain ⟨v, rfl, hv⟩ := hm
    have hf := HF.out L hps
    have hrt := root_any w1
    have hap := fun (w2 : World) (p : Value) (hb : Below w1.heap.size w1 w2) (ht : TableAt w2 p rootS) => apply_any w2 p v rootS L ht (hv.below hb)
      (fun x hx => by
        obtain ⟨h1, ⟨h2, h3⟩, h4, h5⟩ := hf.2 x hx
        exact ⟨by unfold i64ok; omega, ⟨by omega, fun c hc => by have := h3 c hc; unfold i64ok; omega⟩, ⟨by omega, fun c hc => by have := h5 c hc; unfold i64ok; omega⟩⟩) (by omega)
    have HA := Lib.hid hap
    have HB := Lib.hid hb1
    obtain ⟨va, vn, vc, rfl⟩ : ∃ a n c, v = .slice a n c := by
      obtain ⟨R, _, hrow, _⟩ := hv
      obtain ⟨_, a, c, e, _⟩ := hrow
      exact ⟨a, _, c, e⟩
    have HP := Lib.hid hps
    clear hap hf hv hps hb1 HF
    go_wp2_with fail
    refine hrt.mono ?_
    clear hrt
    rintro e w2 ⟨p, rfl, ht, hb2⟩
    have hc := HA.out w2 p hb2 ht
    obtain ⟨tb, rfl⟩ := ht.ptr
    have HB2 := Lib.hid (Below.next HB.out hb2)
    clear ht hb2 HA
    go_wp2_with fail
    refine hc.mono ?_
    clear hc
    rintro e w3 ⟨hb3, hm⟩
    have HB3 := Lib.hid (Below.next HB2.out hb3)
    cases hap : applyS rootS L with
    | error c =>
      rw [hap] at hm
      have HR := Lib.hid (readS_no HP.out hap)
      subst hm
      clear hap hb3
      go_wp2_with fail
      go_ret3
      refine ⟨HB3.out, ?_⟩
      rw [HR.out]
      rfl
    | ok T =>
      rw [hap] at hm
      have HR := Lib.hid (readS_ok HP.out hap)
      obtain ⟨p, rfl, ht⟩ := hm
      obtain ⟨tb2, rfl⟩ := ht.ptr
      have HT := Lib.hid ht
      clear hap hb3 ht
      go_wp2_with fail
      go_ret3
      refine ⟨HB3.out, ?_⟩
      rw [HR.out]
      exact ⟨_, rfl, HT.out⟩
end Go.Proofs.YtccdkchmeelkfaaGreatDoor

/- (W35) law6.Of: rules of a law's own. -/
namespace Go.Proofs.YtccdkchmeelkfaaGreatDoor
open Go.RowKit

theorem Below.alloc1 {w w' : World} (h : Below w.heap.size w w') (o : Obj) : Below w.heap.size w (w'.alloc o) := h.alloc h.size o
theorem Below.drew1 {w w' : World} (h : Below w.heap.size w w') : Below w.heap.size w w'.drew := Below.drewN h 1
theorem keep4 {wr w' : World} {bb i j k : Nat} {v0 v1 v2 : Value} (d0 : wr.cell? ⟨bb, i, none⟩ = some v0) (d1 : wr.cell? ⟨bb, j, none⟩ = some v1) (d2 : wr.cell? ⟨bb, k, none⟩ = some v2) (hwb : bb < wr.heap.size) (hb : Below wr.heap.size wr w') :
    w'.cell? ⟨bb, i, none⟩ = some v0 ∧ w'.cell? ⟨bb, j, none⟩ = some v1 ∧ w'.cell? ⟨bb, k, none⟩ = some v2 :=
  ⟨(hb.cell (p := ⟨bb, i, none⟩) hwb).trans d0, (hb.cell (p := ⟨bb, j, none⟩) hwb).trans d1, (hb.cell (p := ⟨bb, k, none⟩) hwb).trans d2⟩
theorem bLA (w : World) {o : Obj} : (w.alloc o).drew.heap[w.heap.size]? = some o := heap_alloc_last w o
theorem bLB0 (w : World) {o o' : Obj} : ((w.alloc o).alloc o').drew.heap[w.heap.size]? = some o := by
  have := blk_below (heap_alloc_last w o) ((Below.refl (w.alloc o).heap.size (w.alloc o)).alloc (Nat.le_refl _) o')
  exact this
theorem bLB1 (w : World) {o o' : Obj} : ((w.alloc o).alloc o').drew.heap[w.heap.size + 1]? = some o' := by
  have := heap_alloc_last (w.alloc o) o'
  rw [World.size_alloc] at this
  exact this

section
variable {P : Program} {ops : Array Oper} {o : Oper} {a : Act} {w : World} {Q : Exit → Act → World → Prop}
/-- append(empty, xs...) of numbers, as one step of a region that draws. -/
theorem step_int0 {K : Act → World → Prop} {E : Prop} (hg : o.guard = none) (s x : Operand) (hop : o.op = .call { callee := .builtin .append, args := #[s, x], argTypes := #[22, 22] })
    (b base : Nat) (hs : a.eval s = .slice (some ⟨b, 0, none⟩) 0 0) (l : List Int) (sv : Value) (hb : l = [] → w.heap[b]? = some (.cells #[] 3 (0, 0)) ∧ base ≤ b) (hbase : base ≤ w.heap.size) (hx : a.eval x = sv) (hsl : SlI w sv l) (hl : l = [] → sv = .slice none 0 0) (h6 : l.length ≤ 1000000)
    (hK : ∀ v' w', BlkI w' base v' l → Below w.heap.size w w' → K (a.put o.dst v') w') :
    if Region.wanted o (yielded ops a.tmps) = true then Oper.wp Tryz.prog o a w K Q else E := by
  obtain ⟨ii, hi, hz0, hz1, hz2⟩ := info_parts infoInt
  by_cases h0 : l = []
  · have hsv := hl h0
    obtain ⟨hbk, hbb⟩ := hb h0
    subst h0
    have hown : w.ownsRow base 3 1 (.slice (some ⟨b, 0, none⟩) 0 0) 0 [] := ⟨by simp, .inr ⟨b, 0, #[], rfl, hbb, hbk, Nat.le_refl _, by simp [maxLen], by simp, by simp⟩⟩
    have hw : Region.wanted o (yielded ops a.tmps) = true := by simp [Region.wanted, hg]
    rw [if_pos hw]
    have hrun := run_append_owned_none (P := Tryz.prog) (w := w) base 22 o.type 3 ii 1 Tryz.underlying22 hi _ 0 [] hown
    rw [hsv] at hx
    unfold Oper.wp
    simp [execOp, hop, resolve, invoke, builtin, hs, hx, hrun, Result.andThen]
    exact hK _ _ (BlkI.own (by simp) hown) (Below.refl _ _)
  · obtain ⟨⟨g1, ad, c, rfl, g2, g3, g4⟩, _⟩ := And.intro hsl trivial
    have hpos : 0 < l.length := by cases l with | nil => exact absurd rfl h0 | cons c r => simp
    obtain ⟨b1, o1, rfl, hb1, hc⟩ := g4 hpos
    exact step_append_grows hg s x 22 hop 3 ii (.int .i64 0) 1 8 Tryz.underlying22 hi hz0 hz1 hz2 rfl (by decide) (some ⟨b, 0, none⟩) 0 0 [] hs (fun h => by cases h) (by simp) (fun _ _ j u hj => by simp at hj)
      ⟨b1, o1, none⟩ l.length c (cellsI l) hx g1 (fun j u hj => by rw [Addr.add_lit]; exact hc j u hj) (cellsN_one l) (by omega) (by unfold maxLen; omega) (by omega)
      (fun v' w' h1 h2 => hK v' w' ((BlkI.own (n := 0 + l.length) (by omega) (by simpa using h1)).base hbase) ⟨h2.os, h2.tape, h2.output, h2.size, fun k hk => h2.block k hk (by simp)⟩)
end

set_option maxRecDepth 100000 in
set_option maxHeartbeats 4000000 in
/-- law6.Of. -/
theorem lawOf_any (w : World) (v : Value) (R : List RulM) (h : Sl w 3 v R.length (R.flatMap encR)) (hs : ∀ x ∈ R, (SlI w x.sv x.r.seq ∧ SlI w x.ev x.r.exp) ∧ (x.r.seq = [] → x.sv = .slice none 0 0) ∧ (x.r.exp = [] → x.ev = .slice none 0 0) ∧ x.r.seq.length ≤ 1000000 ∧ x.r.exp.length ≤ 1000000 ∧ i64ok x.r.rel) (hl : R.length ≤ 1000000) :
    Calls Tryz.prog 24 #[v] w fun e w' => ∃ v', e = .returned v' ∧ RulesAt w' v' (R.map (·.r)) ∧ Below w.heap.size w w' := by
  obtain ⟨ri, hri, hrz0, hrz1, hrz2⟩ := info_parts infoRule
  obtain ⟨_, a, c, rfl, hRc, _, hop⟩ := h
  have H := Lib.hid (And.intro hop hs)
  clear hop hs
  go_enter Tryz.func24, Tryz.ntmps24
  go_wp2_with fail
  go_loopw [3, 4] (fun o i wr => ∃ (q : Nat) (R2 : List RulM), q ≤ R.length ∧ i = .int .i64 q ∧ RowR wr w.heap.size o R2 ∧ Below w.heap.size w wr ∧ R2.length = q ∧ Hid (R2.map (·.r) = (R.map (·.r)).take q)) (fun _ i _ => R.length - (RowKit.intOf i).toNat)
  case atStart => exact ⟨0, [], Nat.zero_le _, rfl, RowR.nil _ _, Below.refl _ _, rfl, Lib.hid rfl⟩
  case round =>
    obtain ⟨q, R2, hq, rfl, hR2, hnx, hl2, hI⟩ := hrel
    obtain ⟨oa, oc, rfl, hocn, hon⟩ := owns_slice hR2.row
    clear hon
    by_cases hq1 : q < R.length
    · obtain ⟨bb, o, rfl, hbb, hcell⟩ := H.out.1 (by omega)
      obtain ⟨x, hx⟩ : ∃ x, R[q]? = some x := ⟨R[q], List.getElem?_eq_getElem hq1⟩
      have hxs := H.out.2 x (List.mem_of_getElem? hx)
      obtain ⟨he1, he2, he3⟩ := encR_at hx
      have D0 := Lib.hid (And.intro (hcell _ _ he1) (And.intro (hcell _ _ he2) (hcell _ _ he3)))
      rw [← Nat.add_assoc, ← Nat.add_assoc] at D0
      have d0 := (hnx.cell (p := ⟨bb, o + q * 3, none⟩) hbb).trans (hcell _ _ he1)
      have d1 := (hnx.cell (p := ⟨bb, o + (q * 3 + 1), none⟩) hbb).trans (hcell _ _ he2)
      have d2 := (hnx.cell (p := ⟨bb, o + (q * 3 + 2), none⟩) hbb).trans (hcell _ _ he3)
      rw [← Nat.add_assoc] at d1 d2
      have hs1 := hxs.1.1.below hnx
      have hs2 := hxs.1.2.below hnx
      have hn1 := hxs.2.1
      have hn2 := hxs.2.2.1
      obtain ⟨sa, sc, hsv, _⟩ := hxs.1.1.open
      obtain ⟨ea, ec, hev, _⟩ := hxs.1.2.open
      rw [hsv, hev] at D0
      rw [hsv] at d1 hs1 hn1
      rw [hev] at d2 hs2 hn2
      have hwb : bb < wr.heap.size := Nat.lt_of_lt_of_le hbb hnx.size
      have HX := Lib.hid (And.intro hx (And.intro hs1 (And.intro hs2 (And.intro hn1 (And.intro hn2 (And.intro hsv hev))))))
      rw [hl2] at hR2
      have HR := Lib.hid (And.intro hR2 hnx)
      have hws := hnx.size
      have hl1 := hxs.2.2.2.1
      have hl3 := hxs.2.2.2.2.1
      clear hcell hx he1 he2 he3 hs1 hs2 hn1 hn2 hR2 hnx hsv hev
      go_wp2_with fail
      have hkp := fun (w' : World) (hb : Below w.heap.size w w') => keep4 (i := o + q * 3) (j := o + q * 3 + 1) (k := o + q * 3 + 2) D0.out.1 D0.out.2.1 D0.out.2.2 hbb hb
      have HK := Lib.hid hkp
      clear hkp
      go_region_held3 (fun w' => w'.cell? ⟨bb, o + q * 3, none⟩ = some (.int .i64 x.r.rel) ∧ w'.cell? ⟨bb, o + q * 3 + 1, none⟩ = some (.slice sa x.r.seq.length sc) ∧ w'.cell? ⟨bb, o + q * 3 + 2, none⟩ = some (.slice ea x.r.exp.length ec))
        (first | exact HK.out _ hnx3 | (refine keep4 d0 d1 d2 hwb ?_; repeat (first | assumption | exact Below.refl _ _ | apply Below.drew1 | apply Below.alloc1)))
        (first
          | (refine step_int0 rfl _ _ rfl _ w.heap.size rfl x.r.seq (.slice sa x.r.seq.length sc) (fun _ => ⟨by first | exact bLA _ | exact bLB0 _ | exact bLB1 _, by first | omega | (simp; omega)⟩) (by first | omega | (simp; omega)) rfl (SlI.below HX.out.2.1 (by repeat (first | assumption | exact Below.refl _ _ | apply Below.drew1 | apply Below.alloc1))) HX.out.2.2.2.1 hl1 ?_; intro v12 w12 hB12 hbel; obtain ⟨a12, c12, rfl, _⟩ := hB12.shape; have hbx12 : Below wr.heap.size wr w12 := Below.next (by repeat (first | assumption | exact Below.refl _ _ | apply Below.drew1 | apply Below.alloc1)) hbel; have hz12 := hbx12.size; have hk0 := blk_below (by first | exact bLA _ | exact bLB0 _) hbel; (try have hk1 := blk_below (bLB1 _) hbel); (try have hk2 := blk_below (bLB0 _) hbel))
          | (refine step_int0 rfl _ _ rfl _ w.heap.size rfl x.r.exp (.slice ea x.r.exp.length ec) (fun _ => ⟨by first | assumption | exact heap_alloc_last _ _, by first | omega | (simp; omega)⟩) (by first | omega | (simp; omega)) rfl (SlI.below HX.out.2.2.1 (by repeat (first | assumption | exact Below.refl _ _ | apply Below.drew1 | apply Below.alloc1))) HX.out.2.2.2.2.1 hl3 ?_; intro v19 w19 hB19 hbel19; obtain ⟨a19, c19, rfl, _⟩ := hB19.shape; have hbx19 : Below wr.heap.size wr w19 := Below.next (by repeat (first | assumption | exact Below.refl _ _ | apply Below.drew1 | apply Below.alloc1)) hbel19; have hB12b := hB12.below (by first | exact hbel19 | exact Below.next (Below.alloc1 (Below.refl _ _) _) hbel19); have hz19 := hbx19.size)
          | (have hbx20 := Below.alloc1 hbx19 (.cells #[.int .i64 x.r.rel, .slice a12 x.r.seq.length c12, .slice a19 x.r.exp.length c19] 110); have hb20 := Below.alloc1 (Below.refl w19.heap.size w19) (.cells #[.int .i64 x.r.rel, .slice a12 x.r.seq.length c12, .slice a19 x.r.exp.length c19] 110); have hR20 := HR.out.1.below hbx20; have hnx20 := Below.next HR.out.2 hbx20; have hB20 := hB12b.below hb20; have hB21 := hB19.below hb20; refine step_append_sl rfl _ _ 36 rfl w.heap.size 110 ri (.agg #[.int .i64 0, .slice none 0 0, .slice none 0 0]) 3 56 Tryz.underlying36 hri hrz0 hrz1 hrz2 rfl (by decide) (.slice oa q oc) R2.length _ rfl hR20.row _ 1 [.int .i64 x.r.rel, .slice a12 x.r.seq.length c12, .slice a19 x.r.exp.length c19] rfl (SlNew3 _ _ _ _ _ _ (by simp)) (by decide) (by intro u hu; simp only [List.mem_cons, List.not_mem_nil, or_false] at hu; rcases hu with rfl | rfl | rfl <;> rfl) (by unfold maxLen; omega) (by omega) (by simp; omega) ?_; intro v22 w22 hown22 hg22; have hR3 : RowR w22 w.heap.size v22 (R2 ++ [⟨x.r, .slice a12 x.r.seq.length c12, .slice a19 x.r.exp.length c19⟩]) := hR20.app (x := ⟨x.r, .slice a12 x.r.seq.length c12, .slice a19 x.r.exp.length c19⟩) hown22 hg22 hB20 hB21; have hnx3 : Below w.heap.size w w22 := hnx20.grown hg22 hnx20.size (fun k hk => (hR20.row.lt k hk).1); clear hbx20 hb20 hR20 hnx20 hB20 hB21 hown22 hg22))
      all_goals
        clear d0 d1 d2
        have HF := Lib.hid (And.intro hR3 hnx3)
        obtain ⟨va, vc, rfl, _⟩ := owns_slice hR3.row
        clear hR3 hnx3
        go_wp2_with fail
        go_roundw
        case rel =>
          refine ⟨q + 1, _, by omega, by go_num, HF.out.1, HF.out.2, by simp; omega, Lib.hid ?_⟩
          rw [List.map_append, hI.out, List.take_add_one, List.getElem?_map, HX.out.1]
          rfl
        case measure => simp [RowKit.intOf]; omega
    · obtain rfl : q = R.length := by omega
      have hI2 := hI.out
      rw [List.take_of_length_le (by simp)] at hI2
      rw [hl2] at hR2
      have HR := Lib.hid (And.intro hR2 (And.intro hnx hI2))
      clear hR2 hnx hI hI2
      go_wp2_with fail
      go_ret
      exact ⟨_, rfl, HR.out.2.2 ▸ HR.out.1.at, HR.out.2.1⟩
end Go.Proofs.YtccdkchmeelkfaaGreatDoor

/- (W36) The law's own proof that it is awake. -/
namespace Go.Proofs.YtccdkchmeelkfaaGreatDoor
open Go.RowKit

def awakeK : Bool := match readS [38, 32, 99, 32, 60, 32, 99, 104] with
  | .ok T => ofS implW T [99, 104] == [17899524] && ofS implW T [100] == [18423812]
  | .error _ => false
theorem awakeK_true : awakeK = true := by decide +kernel
theorem awake_S : signsT [38, 32, 99, 32, 60, 32, 99, 104] = [38, 32, 99, 32, 60, 32, 99, 104] := by decide +kernel
theorem awake_S1 : signsT [99, 104] = [99, 104] := by decide +kernel
theorem awake_S2 : signsT [100] = [100] := by decide +kernel
theorem awake_T : ∃ T, readS [38, 32, 99, 32, 60, 32, 99, 104] = .ok T ∧ ofS implW T [99, 104] = [17899524] ∧ ofS implW T [100] = [18423812] := by
  have h := awakeK_true
  unfold awakeK at h
  split at h
  · rename_i T hT
    rw [Bool.and_eq_true] at h
    exact ⟨T, hT, by simpa using h.1, by simpa using h.2⟩
  · cases h

set_option maxRecDepth 100000 in
set_option maxHeartbeats 2000000 in
theorem awake_any (w : World) (hT : U8 w) :
    Calls Tryz.prog 21 #[] w fun e w' => e = .returned (.bool true) ∧ Below w.heap.size w w' := by
  obtain ⟨T, hr, h1, h2⟩ := awake_T
  have hrd := read_any ⟨#[38, 32, 99, 32, 60, 32, 99, 104]⟩ w (by decide) hT
  rw [show signsT (ByteArray.mk #[38, 32, 99, 32, 60, 32, 99, 104]).data.toList = [38, 32, 99, 32, 60, 32, 99, 104] from awake_S, hr] at hrd
  have hel := fun (w1 : World) (p : Value) (hp : TableAt w1 p T) (hb : Below w.heap.size w w1) => elements_any ⟨#[99, 104]⟩ w1 p T hp (by decide) (hT.below hb)
  have hel2 := fun (w1 : World) (p : Value) (hp : TableAt w1 p T) (hb : Below w.heap.size w w1) => elements_any ⟨#[100]⟩ w1 p T hp (by decide) (hT.below hb)
  rw [show signsT (ByteArray.mk #[99, 104]).data.toList = [99, 104] from awake_S1, h1] at hel
  rw [show signsT (ByteArray.mk #[100]).data.toList = [100] from awake_S2, h2] at hel2
  have HE := Lib.hid (And.intro hel hel2)
  clear hel hel2 h1 h2 hr hT
  go_enter Tryz.func21, Tryz.ntmps21
  go_wp2_with fail
  refine hrd.mono ?_
  clear hrd
  rintro e w1 ⟨hb1, p, rfl, hta⟩
  obtain ⟨tb, rfl⟩ := hta.ptr
  have hc1 := HE.out.1 w1 _ hta hb1
  have HT := Lib.hid (And.intro hta hb1)
  clear hta hb1
  go_wp2_with fail
  refine hc1.mono ?_
  clear hc1
  rintro e w2 ⟨lv1, rfl, hl1, hb2⟩
  have hc2 := HE.out.2 w2 _ (HT.out.1.below hb2) (Below.next HT.out.2 hb2)
  obtain ⟨a1, k1, rfl, hk1, hn1, hcl1⟩ := hl1.open
  have HT2 := Lib.hid (And.intro hl1 (Below.next HT.out.2 hb2))
  clear hl1 hb2 HT hn1 hcl1 hk1
  go_wp2_with fail
  refine hc2.mono ?_
  clear hc2
  rintro e w3 ⟨lv2, rfl, hl2, hb3⟩
  have hl1 := HT2.out.1.below hb3
  have HB := Lib.hid (Below.next HT2.out.2 hb3)
  obtain ⟨_, _, _, e1, _, _, o1⟩ := hl1.1
  cases e1
  obtain ⟨b1, f1, rfl, _, c1⟩ := o1 (by decide)
  obtain ⟨_, a2, k2, rfl, _, _, o2⟩ := hl2.1
  obtain ⟨b2, f2, rfl, _, c2⟩ := o2 (by decide)
  have d1 := c1 0 (.int .u32 17899524) rfl
  have d2 := c2 0 (.int .u32 18423812) rfl
  rw [Nat.add_zero] at d1 d2
  clear hl1 hl2 hb3 c1 c2 o1 o2 HT2 HE
  go_wp2_with (go_at_call 26; refine (weight_any _ _ (by decide) _).mono ?_; rintro _ _ ⟨rfl, rfl⟩)
  go_ret
  exact ⟨rfl, HB.out⟩
end Go.Proofs.YtccdkchmeelkfaaGreatDoor
