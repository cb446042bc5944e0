/- What all statements share: the tables' facts at the call, a post whose arguments read as they did. -/
import Derived.Test.YtccdkchmeelkfaaGreatDoorRows
import Derived.Test.YtccdkchmeelkfaaGreatDoorA11
import Derived.WalkKit
import Derived.ProofKit
import Derived.OpenShut
import Derived.Carry
import Derived.Deep.DeepHandedRow
import Derived.Deep.DeepLaidRun
import Derived.Lib.LaidU8T
namespace Go.Proofs.YtccdkchmeelkfaaGreatDoor
open Go.ChangeShapes Go.WideShapes Go.ChangeAt Go.RowKit

theorem eF : (Rows.laid_unicode_utf8_first) = Lib.firstData := by kernel_rfl
theorem eA : (Rows.laid_unicode_utf8_acceptRanges (H := Unit)) = Lib.acceptData := by kernel_rfl
set_option maxRecDepth 100000 in
theorem u8_of_laid {W : World} (hL : laidMetH Tryz.prog [("unicode/utf8.acceptRanges", Rows.laid_unicode_utf8_acceptRanges), ("unicode/utf8.first", Rows.laid_unicode_utf8_first)] W) : U8 W := by
  have hU : Lib.Utf8Tabs 0 1 W :=
    Go.Proofs.utf8Tabs_of_readsT (ρ := Tryz.lays197_ren) { Tryz.lays197 with } ⟨by kernel_rfl, by kernel_rfl, by kernel_rfl, by kernel_rfl, by kernel_rfl, by kernel_rfl, by kernel_rfl⟩ (eF ▸ Lib.laidMet.reads (d := Rows.laid_unicode_utf8_first) hL (.tail _ (.head _))) (eA ▸ Lib.laidMet.reads (d := Rows.laid_unicode_utf8_acceptRanges) hL (.head _))
  refine ⟨hU, ?_⟩
  have h := (hU.2 0 (by decide)).1
  by_cases hn : 2 ≤ W.heap.size
  · exact hn
  · have hz : W.heap[1]? = none := Array.getElem?_eq_none (by omega)
    simp [World.cell?, hz] at h

theorem own : ownKnob Tryz.prog.godebug = none := by kernel_rfl

theorem below_trodAll {H : Type} {enc : TypeId × Value → H} {P : Program} (hl : laidOutB P = true) {W W' : World} (hb : Below W.heap.size W W') :
    ∀ {ts : List TypeId} {vs : List Value} {ds : List (DataW H)} {ps : List MemPlace}, (∀ t ∈ ts, P.readableRec t = true ∧ t < P.types.size) → DataW.TrodAll enc P W 0 (fun _ => true) true ts vs ds ps → (∀ x ∈ ps, x.block < W.heap.size) →
      DataW.TrodAll enc P W' 0 (fun b => decide (b < W.heap.size)) true ts vs ds ps
  | [], _, _, _, _, h, _ => by
    obtain ⟨rfl, rfl, rfl⟩ := trodAll_nil h
    exact trodAll_mk0
  | t :: ts, _, _, _, hr, h, hlt => by
    obtain ⟨v, vs1, d, ds1, a, b, rfl, rfl, rfl, h1, h2⟩ := trodAll_cons h
    exact trodAll_cons_mk (Below.trod hl (hr t (by simp)).1 (hr t (by simp)).2 h1 hb fun x hx => hlt x (by simp [hx]))
      (below_trodAll hl hb (fun t ht => hr t (by simp [ht])) h2 fun x hx => hlt x (by simp [hx]))

/-- The arguments read as they did; the result is told. -/
theorem post_below {H : Type} {enc : TypeId × Value → H} {P : Program} {f : Func} {s : ChangeSpec} {W W' : World} {args : Array Value} {v : Value} {ds gs : List (DataW H)} {before : List MemPlace}
    (hl : laidOutB P = true) (hpar : ∀ t ∈ f.params.toList, P.readableRec t = true ∧ t < P.types.size) (hv : s.vars = [])
    (hW : DataW.Whole enc P f.params.toList s.vars false W args.toList ds gs before)
    (hres : DataW.TrodAll enc P W' W.heap.size (fun _ => false) false f.resultTypes.toList (v.resultList f.resultTypes.size) (s.fn H (ds ++ gs)).results [])
    (hfa : (s.fn H (ds ++ gs)).args = ds) (hfv : (s.fn H (ds ++ gs)).vars = gs) (hb : Below W.heap.size W W') :
    s.post enc P f false true false false W args v W' := by
  have hW' := hW
  obtain ⟨p, q, hA, hV, rfl, hfz, hnd⟩ := hW
  rw [hv] at hV
  obtain ⟨rfl, rfl⟩ := trodVars_none hV
  refine ⟨ds, [], _, [], p, [], hW', hres, ?_, ?_, hb.frame _, fun h => by cases h⟩
  · rw [hfa]
    refine below_trodAll hl hb hpar hA fun x hx => ?_
    have := hW'.lt x (by simp [hx])
    simpa using this
  · rw [hfv, hv]; rfl

/-- A world for the witness: the tables hold what their initialisers lay. -/
noncomputable def laidWorld (os : Os) : World :=
  let w0 := World.holding Tryz.prog os ⟨#[], #[], []⟩
  let put (h : Array Obj) (g : Nat) (cs : Array Value) : Array Obj := h.modify g fun
    | .cells _ t frozen => .cells cs t frozen
    | o => o
  { w0 with heap := put (put w0.heap 0 (Lib.firstTab.map fun z => Value.int .u8 z).toArray) 1 ((List.range 16).flatMap fun i => [Value.int .u8 (Lib.accLo i), Value.int .u8 (Lib.accHi i)]).toArray }
end Go.Proofs.YtccdkchmeelkfaaGreatDoor
