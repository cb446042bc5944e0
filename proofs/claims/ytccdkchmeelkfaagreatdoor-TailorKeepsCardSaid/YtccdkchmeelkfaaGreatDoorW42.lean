/- law6.Of at rules that came in. -/
import Derived.Test.YtccdkchmeelkfaaGreatDoorA20
import Derived.Deep.RegionHeld3
import Derived.Deep.RegionLawGrows
namespace Go.Proofs.YtccdkchmeelkfaaGreatDoor
open Go.RowKit

theorem run_append_zero {w : World} (ty : TypeId) (i : TypeInfo) (hi : Tryz.prog.info? 3 = some i) (b : Nat) (ad : Addr) (c : Nat) :
    (Builtin.append_ #[22, 22] ty #[.slice (some ⟨b, 0, none⟩) 0 0, .slice (some ad) 0 c]).run Tryz.prog w = .ok (.slice (some ⟨b, 0, none⟩) 0 0) w := by
  simp [Builtin.append_, run_underlying Tryz.underlying22, sizeOf, typeInfo, hi, Builtin.lenOf, Builtin.firstCells, loadCells, loadCellsFrom, storeCells]

section
variable {P : Program} {ops : Array Oper} {o : Oper} {a : Act} {w : World} {Q : Exit → Act → World → Prop}
/-- append(empty, xs...) of numbers, xs whatever reads as a slice. -/
theorem step_int1 {K : Act → World → Prop} {E : Prop} (hg : o.guard = none) (s x : Operand) (hop : o.op = .call { callee := .builtin .append, args := #[s, x], argTypes := #[22, 22] })
    (b base : Nat) (hs : a.eval s = .slice (some ⟨b, 0, none⟩) 0 0) (l : List Int) (sv : Value) (hb : l = [] → w.heap[b]? = some (.cells #[] 3 (0, 0)) ∧ base ≤ b) (hbase : base ≤ w.heap.size) (hx : a.eval x = sv) (hsl : SlI w sv l) (h6 : l.length ≤ 1000000)
    (hK : ∀ v' w', BlkI w' base v' l → Below w.heap.size w w' → K (a.put o.dst v') w') :
    if Region.wanted o (yielded ops a.tmps) = true then Oper.wp Tryz.prog o a w K Q else E := by
  obtain ⟨ii, hi, hz0, hz1, hz2⟩ := info_parts infoInt
  by_cases h0 : l = []
  · obtain ⟨_, ad, c, hsv, _, hn, _⟩ := And.intro hsl.1 hsl.2
    cases ad with
    | none =>
      have := hn rfl
      subst this
      subst h0
      exact step_int0 hg s x hop b base hs [] sv hb hbase hx hsl (fun _ => hsv) h6 hK
    | some ad =>
      subst h0
      subst hsv
      obtain ⟨hbk, hbb⟩ := hb rfl
      have hown : w.ownsRow base 3 1 (.slice (some ⟨b, 0, none⟩) 0 0) 0 [] := ⟨by simp, .inr ⟨b, 0, #[], rfl, hbb, hbk, Nat.le_refl _, by simp [maxLen], by simp, by simp⟩⟩
      have hw : Region.wanted o (yielded ops a.tmps) = true := by simp [Region.wanted, hg]
      rw [if_pos hw]
      have hrun := run_append_zero (w := w) o.type ii hi b ad c
      unfold Oper.wp
      simp [execOp, hop, resolve, invoke, builtin, hs, hx, hrun, Result.andThen]
      exact hK _ _ (BlkI.own (by simp) hown) (Below.refl _ _)
  · exact step_int0 hg s x hop b base hs l sv hb hbase hx hsl (fun h => absurd h h0) h6 hK
end

set_option maxRecDepth 100000 in
set_option maxHeartbeats 4000000 in
/-- law6.Of, whatever came in. -/
theorem lawOf2_any (w : World) (v : Value) (R : List RulM) (h : Sl w 3 v R.length (R.flatMap encR)) (hs : ∀ x ∈ R, (SlI w x.sv x.r.seq ∧ SlI w x.ev x.r.exp) ∧ True ∧ True ∧ x.r.seq.length ≤ 1000000 ∧ x.r.exp.length ≤ 1000000 ∧ i64ok x.r.rel) (hl : R.length ≤ 1000000) :
    Calls Tryz.prog 24 #[v] w fun e w' => ∃ v', e = .returned v' ∧ RulesAt w' v' (R.map (·.r)) ∧ Below w.heap.size w w' := by
  obtain ⟨ri, hri, hrz0, hrz1, hrz2⟩ := info_parts infoRule
  obtain ⟨_, a, c, rfl, hRc, _, hop⟩ := h
  have H := Lib.hid (And.intro hop hs)
  clear hop hs
  go_enter Tryz.func24, Tryz.ntmps24
  go_wp2_with fail
  go_loopw [3, 4] (fun o i wr => ∃ (q : Nat) (R2 : List RulM), q ≤ R.length ∧ i = .int .i64 q ∧ RowR wr w.heap.size o R2 ∧ Below w.heap.size w wr ∧ R2.length = q ∧ Hid (R2.map (·.r) = (R.map (·.r)).take q)) (fun _ i _ => R.length - (RowKit.intOf i).toNat)
  case atStart => exact ⟨0, [], Nat.zero_le _, rfl, RowR.nil _ _, Below.refl _ _, rfl, Lib.hid rfl⟩
  case round =>
    obtain ⟨q, R2, hq, rfl, hR2, hnx, hl2, hI⟩ := hrel
    obtain ⟨oa, oc, rfl, hocn, hon⟩ := owns_slice hR2.row
    clear hon
    by_cases hq1 : q < R.length
    · obtain ⟨bb, o, rfl, hbb, hcell⟩ := H.out.1 (by omega)
      obtain ⟨x, hx⟩ : ∃ x, R[q]? = some x := ⟨R[q], List.getElem?_eq_getElem hq1⟩
      have hxs := H.out.2 x (List.mem_of_getElem? hx)
      obtain ⟨he1, he2, he3⟩ := encR_at hx
      have D0 := Lib.hid (And.intro (hcell _ _ he1) (And.intro (hcell _ _ he2) (hcell _ _ he3)))
      rw [← Nat.add_assoc, ← Nat.add_assoc] at D0
      have d0 := (hnx.cell (p := ⟨bb, o + q * 3, none⟩) hbb).trans (hcell _ _ he1)
      have d1 := (hnx.cell (p := ⟨bb, o + (q * 3 + 1), none⟩) hbb).trans (hcell _ _ he2)
      have d2 := (hnx.cell (p := ⟨bb, o + (q * 3 + 2), none⟩) hbb).trans (hcell _ _ he3)
      rw [← Nat.add_assoc] at d1 d2
      have hs1 := hxs.1.1.below hnx
      have hs2 := hxs.1.2.below hnx
      have hn1 : True := trivial
      have hn2 : True := trivial
      obtain ⟨sa, sc, hsv, _⟩ := hxs.1.1.open
      obtain ⟨ea, ec, hev, _⟩ := hxs.1.2.open
      rw [hsv, hev] at D0
      rw [hsv] at d1 hs1
      rw [hev] at d2 hs2
      have hwb : bb < wr.heap.size := Nat.lt_of_lt_of_le hbb hnx.size
      have HX := Lib.hid (And.intro hx (And.intro hs1 (And.intro hs2 (And.intro hn1 (And.intro hn2 (And.intro hsv hev))))))
      rw [hl2] at hR2
      have HR := Lib.hid (And.intro hR2 hnx)
      have hws := hnx.size
      have hl1 := hxs.2.2.2.1
      have hl3 := hxs.2.2.2.2.1
      clear hcell hx he1 he2 he3 hs1 hs2 hn1 hn2 hR2 hnx hsv hev
      go_wp2_with fail
      have hkp := fun (w' : World) (hb : Below w.heap.size w w') => keep4 (i := o + q * 3) (j := o + q * 3 + 1) (k := o + q * 3 + 2) D0.out.1 D0.out.2.1 D0.out.2.2 hbb hb
      have HK := Lib.hid hkp
      clear hkp
      go_region_held3 (fun w' => w'.cell? ⟨bb, o + q * 3, none⟩ = some (.int .i64 x.r.rel) ∧ w'.cell? ⟨bb, o + q * 3 + 1, none⟩ = some (.slice sa x.r.seq.length sc) ∧ w'.cell? ⟨bb, o + q * 3 + 2, none⟩ = some (.slice ea x.r.exp.length ec))
        (first | exact HK.out _ hnx3 | (refine keep4 d0 d1 d2 hwb ?_; repeat (first | assumption | exact Below.refl _ _ | apply Below.drew1 | apply Below.alloc1)))
        (first
          | (refine step_int1 rfl _ _ rfl _ w.heap.size rfl x.r.seq (.slice sa x.r.seq.length sc) (fun _ => ⟨by first | exact bLA _ | exact bLB0 _ | exact bLB1 _, by first | omega | (simp; omega)⟩) (by first | omega | (simp; omega)) rfl (SlI.below HX.out.2.1 (by repeat (first | assumption | exact Below.refl _ _ | apply Below.drew1 | apply Below.alloc1))) hl1 ?_; intro v12 w12 hB12 hbel; obtain ⟨a12, c12, rfl, _⟩ := hB12.shape; have hbx12 : Below wr.heap.size wr w12 := Below.next (by repeat (first | assumption | exact Below.refl _ _ | apply Below.drew1 | apply Below.alloc1)) hbel; have hz12 := hbx12.size; have hk0 := blk_below (by first | exact bLA _ | exact bLB0 _) hbel; (try have hk1 := blk_below (bLB1 _) hbel); (try have hk2 := blk_below (bLB0 _) hbel))
          | (refine step_int1 rfl _ _ rfl _ w.heap.size rfl x.r.exp (.slice ea x.r.exp.length ec) (fun _ => ⟨by first | assumption | exact heap_alloc_last _ _, by first | omega | (simp; omega)⟩) (by first | omega | (simp; omega)) rfl (SlI.below HX.out.2.2.1 (by repeat (first | assumption | exact Below.refl _ _ | apply Below.drew1 | apply Below.alloc1))) hl3 ?_; intro v19 w19 hB19 hbel19; obtain ⟨a19, c19, rfl, _⟩ := hB19.shape; have hbx19 : Below wr.heap.size wr w19 := Below.next (by repeat (first | assumption | exact Below.refl _ _ | apply Below.drew1 | apply Below.alloc1)) hbel19; have hB12b := hB12.below (by first | exact hbel19 | exact Below.next (Below.alloc1 (Below.refl _ _) _) hbel19); have hz19 := hbx19.size)
          | (have hbx20 := Below.alloc1 hbx19 (.cells #[.int .i64 x.r.rel, .slice a12 x.r.seq.length c12, .slice a19 x.r.exp.length c19] 110); have hb20 := Below.alloc1 (Below.refl w19.heap.size w19) (.cells #[.int .i64 x.r.rel, .slice a12 x.r.seq.length c12, .slice a19 x.r.exp.length c19] 110); have hR20 := HR.out.1.below hbx20; have hnx20 := Below.next HR.out.2 hbx20; have hB20 := hB12b.below hb20; have hB21 := hB19.below hb20; refine step_append_sl rfl _ _ 36 rfl w.heap.size 110 ri (.agg #[.int .i64 0, .slice none 0 0, .slice none 0 0]) 3 56 Tryz.underlying36 hri hrz0 hrz1 hrz2 rfl (by decide) (.slice oa q oc) R2.length _ rfl hR20.row _ 1 [.int .i64 x.r.rel, .slice a12 x.r.seq.length c12, .slice a19 x.r.exp.length c19] rfl (SlNew3 _ _ _ _ _ _ (by simp)) (by decide) (by intro u hu; simp only [List.mem_cons, List.not_mem_nil, or_false] at hu; rcases hu with rfl | rfl | rfl <;> rfl) (by unfold maxLen; omega) (by omega) (by simp; omega) ?_; intro v22 w22 hown22 hg22; have hR3 : RowR w22 w.heap.size v22 (R2 ++ [⟨x.r, .slice a12 x.r.seq.length c12, .slice a19 x.r.exp.length c19⟩]) := hR20.app (x := ⟨x.r, .slice a12 x.r.seq.length c12, .slice a19 x.r.exp.length c19⟩) hown22 hg22 hB20 hB21; have hnx3 : Below w.heap.size w w22 := hnx20.grown hg22 hnx20.size (fun k hk => (hR20.row.lt k hk).1); clear hbx20 hb20 hR20 hnx20 hB20 hB21 hown22 hg22))
      all_goals
        clear d0 d1 d2
        have HF := Lib.hid (And.intro hR3 hnx3)
        obtain ⟨va, vc, rfl, _⟩ := owns_slice hR3.row
        clear hR3 hnx3
        go_wp2_with fail
        go_roundw
        case rel =>
          refine ⟨q + 1, _, by omega, by go_num, HF.out.1, HF.out.2, by simp; omega, Lib.hid ?_⟩
          rw [List.map_append, hI.out, List.take_add_one, List.getElem?_map, HX.out.1]
          rfl
        case measure => simp [RowKit.intOf]; omega
    · obtain rfl : q = R.length := by omega
      have hI2 := hI.out
      rw [List.take_of_length_le (by simp)] at hI2
      rw [hl2] at hR2
      have HR := Lib.hid (And.intro hR2 (And.intro hnx hI2))
      clear hR2 hnx hI hI2
      go_wp2_with fail
      go_ret
      exact ⟨_, rfl, HR.out.2.2 ▸ HR.out.1.at, HR.out.2.1⟩
end Go.Proofs.YtccdkchmeelkfaaGreatDoor
