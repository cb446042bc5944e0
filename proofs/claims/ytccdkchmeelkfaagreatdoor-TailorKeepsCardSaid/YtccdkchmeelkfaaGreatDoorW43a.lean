/- Rules that came in. -/
import Derived.Test.YtccdkchmeelkfaaGreatDoorW42
namespace Go.Proofs.YtccdkchmeelkfaaGreatDoor
open Go.RowKit

/-- A slice of rules that came in. -/
def RulesIn (w : World) (v : Value) (R : List RulM) : Prop := Sl w 3 v R.length (R.flatMap encR) ∧ ∀ x ∈ R, (SlI w x.sv x.r.seq ∧ SlI w x.ev x.r.exp) ∧ i64ok x.r.rel ∧ (∀ c ∈ x.r.seq, i64ok c) ∧ ∀ c ∈ x.r.exp, i64ok c
theorem RulesIn.below {w w' : World} {v : Value} {R : List RulM} (h : RulesIn w v R) (hb : Below w.heap.size w w') : RulesIn w' v R :=
  ⟨h.1.below hb, fun x hx => ⟨⟨(h.2 x hx).1.1.below hb, (h.2 x hx).1.2.below hb⟩, (h.2 x hx).2⟩⟩
theorem RulesIn.open {w : World} {v : Value} {R : List RulM} (h : RulesIn w v R) : ∃ a c, v = .slice a R.length c ∧ R.length ≤ c ∧ (0 < R.length → ∃ b o, a = some ⟨b, o, none⟩ ∧ b < w.heap.size ∧
    ∀ q x, R[q]? = some x → w.cell? ⟨b, o + q * 3, none⟩ = some (.int .i64 x.r.rel) ∧ w.cell? ⟨b, o + q * 3 + 1, none⟩ = some x.sv ∧ w.cell? ⟨b, o + q * 3 + 2, none⟩ = some x.ev) := by
  obtain ⟨⟨_, a, c, h1, h2, _, h4⟩, _⟩ := h
  refine ⟨a, c, h1, h2, fun hp => ?_⟩
  obtain ⟨b, o, e, hb, hc⟩ := h4 hp
  refine ⟨b, o, e, hb, fun q x hx => ?_⟩
  obtain ⟨e1, e2, e3⟩ := encR_at hx
  refine ⟨hc _ _ e1, ?_, ?_⟩
  · have := hc _ _ e2; rwa [← Nat.add_assoc] at this
  · have := hc _ _ e3; rwa [← Nat.add_assoc] at this
end Go.Proofs.YtccdkchmeelkfaaGreatDoor
