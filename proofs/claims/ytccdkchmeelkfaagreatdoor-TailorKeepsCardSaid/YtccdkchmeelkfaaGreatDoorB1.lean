/- TailorFull's rounds as lists. -/
import Derived.Test.YtccdkchmeelkfaaGreatDoorA2
import Derived.IntWalk

/- (S12) TailorFull's rounds as lists. -/
namespace Go.Proofs.YtccdkchmeelkfaaGreatDoor

/-- TailorFull's rules. -/
def fullL : List RuleP := [⟨1, [97], []⟩, ⟨4, [49], []⟩]
/-- The greatest third weight. -/
def lastT (T : Tab Nat) : Nat := T.foldl (fun m e => e.2.foldl (fun m x => max m (wt 3 x)) m) 0
/-- The rounds go as the law wants. -/
def fullGo : Nat → Nat → Tab Nat → Bool
  | 0, _, _ => true
  | n + 1, i, T => match applyS T fullL with
    | .error c => c == 60 && lastT T == 127 && decide (100 < i)
    | .ok T' => lastT T != 127 && fullGo n (i + 1) T'
theorem fullGo_root : fullGo 200 0 rootS = true := by decide +kernel
theorem fullGo_bad {n i : Nat} {T : Tab Nat} {c : Int} (h : fullGo (n + 1) i T = true) (ha : applyS T fullL = .error c) : c = 60 ∧ lastT T = 127 ∧ 100 < i := by
  rw [fullGo, ha] at h
  simpa [and_assoc] using h
theorem fullGo_ok {n i : Nat} {T T' : Tab Nat} (h : fullGo (n + 1) i T = true) (ha : applyS T fullL = .ok T') : lastT T ≠ 127 ∧ fullGo n (i + 1) T' = true := by
  rw [fullGo, ha] at h
  simpa using h
/-- The order of the entries is of no account. -/
theorem lastT_le (T : Tab Nat) (m : Nat) : T.foldl (fun m e => e.2.foldl (fun m x => max m (wt 3 x)) m) m = max m (lastT T) := by
  have hin : ∀ (l : List Nat) (m : Nat), l.foldl (fun m x => max m (wt 3 x)) m = max m (l.foldl (fun m x => max m (wt 3 x)) 0) := by
    intro l
    induction l with
    | nil => intro m; simp
    | cons x r ih => intro m; rw [List.foldl_cons, List.foldl_cons, ih, ih (max 0 _)]; omega
  unfold lastT
  induction T generalizing m with
  | nil => simp
  | cons e r ih => rw [List.foldl_cons, List.foldl_cons, ih, ih (List.foldl _ 0 _), hin]; omega
theorem lastT_perm {T T' : Tab Nat} (h : T.Perm T') : lastT T = lastT T' := by
  have hin : ∀ (l : List Nat) (m : Nat), l.foldl (fun m x => max m (wt 3 x)) m = max m (l.foldl (fun m x => max m (wt 3 x)) 0) := by
    intro l
    induction l with
    | nil => intro m; simp
    | cons x r ih => intro m; rw [List.foldl_cons, List.foldl_cons, ih, ih (max 0 _)]; omega
  unfold lastT
  refine h.foldl_eq' (fun a _ b _ m => ?_) 0
  rw [hin b.2 (List.foldl _ m _), hin a.2 m, hin a.2 (List.foldl _ m _), hin b.2 m]
  omega
end Go.Proofs.YtccdkchmeelkfaaGreatDoor

/- (S13) A mask of sixteen bits on a signed number. -/
namespace Go.Proofs.YtccdkchmeelkfaaGreatDoor

theorem and16 (a : Int) : ∃ m : Nat, m < 65536 ∧ bits .and .i64 a 65535 = (m : Int) := by
  refine ⟨(a % 2 ^ IntKind.i64.bits).toNat % 65536, Nat.mod_lt _ (by decide), ?_⟩
  have h : bits .and .i64 a 65535 = IntKind.i64.wrap (((a % 2 ^ IntKind.i64.bits).toNat &&& 65535 : Nat) : Int) := by
    unfold bits
    simp
    rfl
  have hm := Nat.and_two_pow_sub_one_eq_mod (a % 2 ^ IntKind.i64.bits).toNat 16
  rw [show (2 ^ 16 - 1 : Nat) = 65535 from rfl, show (2 ^ 16 : Nat) = 65536 from rfl] at hm
  rw [h, hm]
  have := Nat.mod_lt (a % 2 ^ IntKind.i64.bits).toNat (show 0 < 65536 by decide)
  generalize (a % 2 ^ IntKind.i64.bits).toNat % 65536 = m at *
  exact IntWalk.i64_in _ ⟨by omega, by omega⟩
theorem and200 (a : Int) : ∃ N : Nat, N < 200 ∧ (bits .and .i64 a 65535).tmod 200 = (N : Int) := by
  obtain ⟨m, hm, h⟩ := and16 a
  refine ⟨m % 200, Nat.mod_lt _ (by decide), ?_⟩
  rw [h]
  rfl
end Go.Proofs.YtccdkchmeelkfaaGreatDoor
