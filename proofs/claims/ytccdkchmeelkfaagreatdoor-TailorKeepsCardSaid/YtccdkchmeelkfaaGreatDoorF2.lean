/- Rules that came in, opened. -/
import Derived.Test.YtccdkchmeelkfaaGreatDoorF1
import Derived.Test.YtccdkchmeelkfaaGreatDoorW43a
import Derived.Deep.Strs
import Derived.SizedLaws
namespace Go.Proofs.YtccdkchmeelkfaaGreatDoor
open Go.ChangeShapes Go.WideShapes Go.ChangeAt Go.RowKit

theorem encR_len (R : List RulM) : (R.flatMap encR).length = R.length * 3 := by
  induction R with
  | nil => rfl
  | cons x r ih => rw [List.flatMap_cons, List.length_append, ih]; simp [encR]; omega
theorem list_of {α : Type} (p : Nat → α → Prop) : ∀ n : Nat, (∀ i, i < n → ∃ x, p i x) → ∃ R : List α, R.length = n ∧ ∀ i x, R[i]? = some x → p i x
  | 0, _ => ⟨[], rfl, by simp⟩
  | n + 1, h => by
    obtain ⟨R, h1, h2⟩ := list_of p n fun i hi => h i (by omega)
    obtain ⟨x, hx⟩ := h n (by omega)
    refine ⟨R ++ [x], by simp [h1], fun i y hy => ?_⟩
    by_cases hi : i < n
    · rw [List.getElem?_append_left (by omega)] at hy; exact h2 i y hy
    · rw [List.getElem?_append_right (by omega), h1] at hy
      have hin : i = n := by
        by_cases h0 : i = n
        · exact h0
        · rw [List.getElem?_eq_none (by simp; omega)] at hy; cases hy
      subst hin
      simp at hy; subst hy; exact hx

theorem bytes8 : Tryz.prog.bytesOf 3 = 8 := by kernel_rfl
theorem lits_len {H : Type} (k : IntKind) (l : List Int) : (lits (H := H) k l).length = l.length := by simp [lits]
theorem mem_weightsAll {H : Type} {P : Program} {e : TypeId} : ∀ {ds : List (DataW H)} {d : DataW H}, d ∈ ds → ∀ n ∈ d.weights P e, n ∈ DataW.weightsAll P e ds
  | [], _, h, _, _ => by cases h
  | x :: r, d, h, n, hn => by
    rw [DataW.weightsAll, List.mem_append]
    rcases List.mem_cons.1 h with rfl | h
    · exact .inl hn
    · exact .inr (mem_weightsAll h n hn)
theorem i64_wf {n : Int} (h : (Lit.int .i64 n).wf = true) : i64ok n := by
  simp [Lit.wf, IntKind.min, IntKind.max, IntKind.signed, IntKind.bits] at h
  unfold i64ok; omega

set_option maxRecDepth 100000 in
theorem slI_of_cells {H : Type} {enc : TypeId × Value → H} {W : World} {n : Nat} {cs : List Value} {x : DataW H × List MemPlace} (hn : DataW.trod enc Tryz.prog W 0 (fun _ => true) true n 22 cs = some x) : ∃ v l, cs = [v] ∧ SlI W v l ∧ (∀ c ∈ l, i64ok c) ∧ ((∀ n ∈ x.1.weights Tryz.prog 22, n ≤ reachBytes) → l.length ≤ 140737488355328) := by
  rcases open_ints Tryz.underlying22 Tryz.underlying3 (by kernel_rfl) hn with ⟨h1, _⟩ | ⟨a, len, cap, zs, h1, _, hlc, hcm, hz, hx, hcell, hwf⟩
  · exact ⟨_, [], h1, SlI.nil W, by simp, by simp⟩
  · refine ⟨_, zs.take len, h1, ?_, fun c hc => i64_wf (hwf c (List.mem_of_mem_take hc)), fun hw => ?_⟩
    rotate_left
    · have h3 := hw ((zs.take len).length * 8 + (zs.drop len).length * 8) (by
        rw [hx]
        simp only [DataW.weights, Tryz.underlying22, lits_len, bytes8, List.mem_cons]
        left; omega)
      unfold reachBytes at h3; omega
    simp only [if_true] at hz
    refine ⟨by simp, some a, cap, by rw [List.length_take, hz]; congr 1; omega, by rw [List.length_take]; omega, (fun h => by cases h), fun hpos => ?_⟩
    have hz0 : 0 < zs.length := by rw [List.length_take] at hpos; omega
    have h0 := hcell 0 hz0
    obtain ⟨b, o, e⟩ := a
    cases e with
    | some e =>
      simp only [World.cell?, Addr.add] at h0
      exfalso
      split at h0
      · simp at h0
      · cases h0
    | none =>
      refine ⟨b, o, rfl, ?_, fun j x hj => ?_⟩
      · by_cases hb : b < W.heap.size
        · exact hb
        · have : W.heap[b]? = none := Array.getElem?_eq_none (by omega)
          rw [Addr.add_lit] at h0
          simp [World.cell?, this] at h0
      · rw [List.getElem?_map] at hj
        cases hx : (zs.take len)[j]? with
        | none => rw [hx] at hj; cases hj
        | some y =>
          rw [hx] at hj
          have hjl := (List.getElem?_eq_some_iff.1 hx).1
          rw [List.length_take] at hjl
          have := hcell j (by omega)
          rw [List.getElem?_take_of_lt (by omega)] at hx
          rw [List.getD_eq_getElem?_getD, hx, Addr.add_lit] at this
          simp at hj; subst hj
          exact this
set_option maxRecDepth 100000 in
theorem rulesIn_of_trod {H : Type} {enc : TypeId × Value → H} {W : World} {base : Nat} {v : Value} {d : DataW H} {ps : List MemPlace} (hv : Value.okWide Tryz.prog W .any base 40 v) (h : DataW.Trod enc Tryz.prog W 0 (fun _ => true) true 40 v d ps) (hsz : ∀ n ∈ d.weights Tryz.prog 40, n ≤ reachBytes) :
    ∃ R, RulesIn W v R ∧ ∀ x ∈ R, x.r.seq.length ≤ 140737488355328 ∧ x.r.exp.length ≤ 140737488355328 := by
  obtain ⟨n, hn⟩ := h
  obtain ⟨a0, len0, cap0, rfl⟩ := okWide_slice Tryz.underlying40 hv
  have hc3 : Tryz.prog.cellsOf 39 = 3 := by kernel_rfl
  have hst : ∃ f0 f1 f2 : Field, Tryz.prog.underlying 39 = some (.struct #[f0, f1, f2]) ∧ (f0.type = 3 ∧ f0.offset = 0) ∧ (f1.type = 22 ∧ f1.offset = 1) ∧ (f2.type = 22 ∧ f2.offset = 2) := by
    refine ⟨_, _, _, Tryz.underlying39, ⟨rfl, rfl⟩, ⟨rfl, rfl⟩, ⟨rfl, rfl⟩⟩
  have hci : Tryz.prog.cellsOf 3 = 1 := by kernel_rfl
  have hcs : Tryz.prog.cellsOf 22 = 1 := by kernel_rfl
  rcases DataW.trod_slice Tryz.underlying40 hn with ⟨h1, _⟩ | ⟨a, len, cap, elems, rest, m, _, h1, hx, _, hlc, _, hel, hce, _⟩
  · simp [Value.cells] at h1; obtain ⟨rfl, rfl, rfl⟩ := h1
    exact ⟨[], ⟨Sl.nil W 3 0 none fun _ => rfl, by simp⟩, by simp⟩
  · simp [Value.cells] at h1; obtain ⟨rfl, rfl, rfl⟩ := h1
    obtain ⟨f0, f1, f2, hu, ⟨t0, o0⟩, ⟨t1, o1⟩, ⟨t2, o2⟩⟩ := hst
    have key : ∀ i, i < len0 → ∃ x : RulM, (((SlI W x.sv x.r.seq ∧ SlI W x.ev x.r.exp) ∧ i64ok x.r.rel ∧ (∀ c ∈ x.r.seq, i64ok c) ∧ ∀ c ∈ x.r.exp, i64ok c) ∧ x.r.seq.length ≤ 140737488355328 ∧ x.r.exp.length ≤ 140737488355328) ∧ ∀ j, j < 3 → W.cell? ((a.add (i * 3)).add j) = (encR x)[j]? := by
      intro i hi
      have h2 := hce i hi
      rw [hc3, List.getElem?_eq_getElem (by omega)] at h2
      obtain ⟨cs, h3, h4⟩ := Option.bind_eq_some_iff.1 h2
      obtain ⟨_, hl3, hcell⟩ := World.cells?_some h3
      obtain ⟨y0, y1, y2, k, hyx, _, g0, g1, g2⟩ := Go.Deep.trod_struct3 hu h4
      have hwt : ∀ n, (n ∈ y1.1.weights Tryz.prog 22 ∨ n ∈ y2.1.weights Tryz.prog 22) → n ≤ reachBytes := by
        intro n hn
        refine hsz n ?_
        have hd : d = .slice (elems.map (·.1)) (rest.map (·.1)) := congrArg Prod.fst hx
        rw [hd]
        simp only [DataW.weights, Tryz.underlying40, List.mem_cons, List.mem_append]
        refine .inr (.inl (mem_weightsAll (d := elems[i].1) (List.mem_map.2 ⟨elems[i], List.getElem_mem _, rfl⟩) n ?_))
        rw [hyx]
        simp only [DataW.weights, hu]
        simp only [DataW.weightsEach, List.map_cons, List.map_nil, List.mem_append, t0, t1, t2]
        rcases hn with hn | hn
        · exact .inr (.inl hn)
        · exact .inr (.inr (.inl hn))
      rw [t0, o0, hci] at g0
      rw [t1, o1, hcs] at g1
      rw [t2, o2, hcs] at g2
      match cs, hl3, g0, g1, g2, hcell with
      | [c0, c1, c2], _, g0, g1, g2, hcell =>
        obtain ⟨z, e0, _, hw⟩ := DataW.trod_int Tryz.underlying3 g0
        obtain ⟨v1, l1, e1, s1, k1, m1⟩ := slI_of_cells g1
        obtain ⟨v2, l2, e2, s2, k2, m2⟩ := slI_of_cells g2
        simp at e0 e1 e2
        subst e0 e1 e2
        exact ⟨⟨⟨z, l1, l2⟩, c1, c2⟩, ⟨⟨⟨s1, s2⟩, i64_wf hw, k1, k2⟩, m1 (fun n hn => hwt n (.inl hn)), m2 (fun n hn => hwt n (.inr hn))⟩, fun j hj => hcell j hj⟩
    obtain ⟨R, hR, hp⟩ := list_of _ len0 key
    subst hR
    refine ⟨R, ⟨⟨?_, some a, cap0, rfl, hlc, (fun h => by cases h), fun hpos => ?_⟩, fun x hx => ?_⟩, fun x hx => ?_⟩
    · exact encR_len R
    · obtain ⟨x0, hx0⟩ : ∃ x, R[0]? = some x := ⟨R[0], List.getElem?_eq_getElem hpos⟩
      have h0 := (hp 0 x0 hx0).2 0 (by decide)
      obtain ⟨b, o, e⟩ := a
      cases e with
      | some e =>
        simp only [World.cell?, Addr.add] at h0
        exfalso
        split at h0
        · simp [encR] at h0
        · simp [encR] at h0
      | none =>
        refine ⟨b, o, rfl, ?_, fun j x hj => ?_⟩
        · by_cases hb : b < W.heap.size
          · exact hb
          · have : W.heap[b]? = none := Array.getElem?_eq_none (by omega)
            rw [Addr.add_lit, Addr.add_lit] at h0
            simp [World.cell?, this, encR] at h0
        · have hjl : j < R.length * 3 := by
            have h1 := (List.getElem?_eq_some_iff.1 hj).1
            have h2 := encR_len R
            omega
          obtain ⟨y, hy⟩ : ∃ y, R[j / 3]? = some y := ⟨R[j / 3]'(by omega), List.getElem?_eq_getElem (by omega)⟩
          have h3 := (hp _ y hy).2 (j % 3) (Nat.mod_lt _ (by decide))
          rw [Addr.add_lit, Addr.add_lit, show o + j / 3 * 3 + j % 3 = o + j by omega] at h3
          rw [h3]
          have h4 := flatMap_at (enc := encR) (fun _ => rfl) hy (show j % 3 < 3 from Nat.mod_lt _ (by decide))
          rw [show j / 3 * 3 + j % 3 = j by omega, hj] at h4
          exact h4.symm
    · obtain ⟨i, hi⟩ := List.getElem?_of_mem hx
      exact (hp i x hi).1.1
    · obtain ⟨i, hi⟩ := List.getElem?_of_mem hx
      exact (hp i x hi).1.2
end Go.Proofs.YtccdkchmeelkfaaGreatDoor
