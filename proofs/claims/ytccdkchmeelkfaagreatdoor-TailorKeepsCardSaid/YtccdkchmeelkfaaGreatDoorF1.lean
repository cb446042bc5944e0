/- Arguments opened: bytes, slices of numbers. -/
import Derived.Test.YtccdkchmeelkfaaGreatDoorF0
import Derived.ChangeSlices
namespace Go.Proofs.YtccdkchmeelkfaaGreatDoor
open Go.ChangeShapes Go.WideShapes Go.ChangeAt Go.RowKit

theorem u8_wf {n : Int} (h : (Lit.int .u8 n).wf = true) : 0 ≤ n ∧ n < 256 := by
  simp [Lit.wf, IntKind.min, IntKind.max, IntKind.signed, IntKind.bits] at h
  omega
set_option maxRecDepth 100000 in
theorem slI_of_trod {H : Type} {enc : TypeId × Value → H} {W : World} {base : Nat} {v : Value} {d : DataW H} {ps : List MemPlace} (hv : Value.okWide Tryz.prog W .any base 22 v) (h : DataW.Trod enc Tryz.prog W 0 (fun _ => true) true 22 v d ps) : ∃ l, SlI W v l := by
  obtain ⟨n, hn⟩ := h
  obtain ⟨a0, len0, cap0, rfl⟩ := okWide_slice Tryz.underlying22 hv
  rcases open_ints Tryz.underlying22 Tryz.underlying3 (by kernel_rfl) hn with ⟨h1, _⟩ | ⟨a, len, cap, zs, h1, _, hlc, _, hz, _, hcell, _⟩
  · simp [Value.cells] at h1; obtain ⟨rfl, rfl, rfl⟩ := h1; exact ⟨[], SlI.nil W⟩
  · simp [Value.cells] at h1; obtain ⟨rfl, rfl, rfl⟩ := h1
    simp only [if_true] at hz
    refine ⟨zs.take len0, by simp, some a, cap0, by rw [List.length_take, hz]; congr 1; omega, by rw [List.length_take]; omega, (fun h => by cases h), fun hpos => ?_⟩
    have hz0 : 0 < zs.length := by rw [List.length_take] at hpos; omega
    have h0 := hcell 0 hz0
    obtain ⟨b, o, e⟩ := a
    cases e with
    | some e =>
      simp only [World.cell?, Addr.add] at h0
      exfalso
      split at h0
      · simp at h0
      · cases h0
    | none =>
      refine ⟨b, o, rfl, ?_, fun j x hj => ?_⟩
      · by_cases hb : b < W.heap.size
        · exact hb
        · have : W.heap[b]? = none := Array.getElem?_eq_none (by omega)
          rw [Addr.add_lit] at h0
          simp [World.cell?, this] at h0
      · rw [List.getElem?_map] at hj
        cases hx : (zs.take len0)[j]? with
        | none => rw [hx] at hj; cases hj
        | some y =>
          rw [hx] at hj
          have hjl := (List.getElem?_eq_some_iff.1 hx).1
          rw [List.length_take] at hjl
          have := hcell j (by omega)
          rw [List.getElem?_take_of_lt (by omega)] at hx
          rw [List.getD_eq_getElem?_getD, hx, Addr.add_lit] at this
          simp at hj; subst hj
          exact this
end Go.Proofs.YtccdkchmeelkfaaGreatDoor
