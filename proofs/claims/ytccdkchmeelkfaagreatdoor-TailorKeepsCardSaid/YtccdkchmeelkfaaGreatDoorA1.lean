/- Words of elements, slices, maps and tables in memory as plain lists. -/
import Derived.WalkKit
import Derived.WalkSpells
import Derived.WalkLawsBesides
import Derived.Lib.Hide
import Derived.Deep.Draws
import Derived.Laws.AppendOwnNone
import Derived.Maps.Keyed
import Derived.Maps.Own
import Derived.Maps.OwnOps
import Derived.Maps.RangeWalk
import Derived.DeepKeys4
import Derived.Test.YtccdkchmeelkfaaGreatDoorProg

/- (W0) Words of elements as plain numbers: the three weights and the mark of a word of 32 bits. No program. -/
namespace Go.Proofs.YtccdkchmeelkfaaGreatDoor
open Go.RowKit

/-- A word's weight of a level. -/
def wt (l : Int) (e : Nat) : Nat := if l = 1 then e / 65536 else if l = 2 then e / 256 % 256 else if l = 3 then e / 2 % 128 else 0
/-- A word with another weight of a level. -/
def setw (l : Int) (e x : Nat) : Nat := if l = 1 then e % 65536 + x % 65536 * 65536 else if l = 2 then e / 65536 * 65536 + x % 256 * 256 + e % 256 else if l = 3 then e / 256 * 256 + x % 128 * 2 + e % 2 else e

theorem wt_lt (l : Int) {e : Nat} (h : e < 4294967296) : wt l e < 65536 := by unfold wt; split; omega; split; omega; split <;> omega
theorem setw_lt (l : Int) {e : Nat} (x : Nat) (h : e < 4294967296) : setw l e x < 4294967296 := by unfold setw; split; omega; split; omega; split <;> omega

theorem rounds_step {P : Program} {c : Code} {Q : Exit → Act → World → Prop} {n : Nat} {a : Act} {w : World} (h : c.wp P (Exit.then (Code.rounds P c Q n) Q) a w) : Code.rounds P c Q (n + 1) a w := h
theorem ret_int {k : IntKind} {a b : Int} (h : a = b) : Ending.returned (.int k a) = .returned (.int k b) := by rw [h]
theorem ret_bool {a b : Bool} (h : a = b) : Ending.returned (.bool a) = .returned (.bool b) := by rw [h]

theorem u64_andN (a b : Nat) (ha : a < 18446744073709551616) (hb : b < 18446744073709551616) : bits .and .u64 (a : Int) (b : Int) = ((a &&& b : Nat) : Int) := u64_and_nat a b ha hb
theorem m1 (e : Nat) : e &&& 4294901760 = e % 4294967296 / 65536 * 65536 := by have := nat_midmask 32 16 e (by decide); simpa using this
theorem m2 (e : Nat) : e &&& 65280 = e % 65536 / 256 * 256 := by have := nat_midmask 16 8 e (by decide); simpa using this
theorem m3 (e : Nat) : e &&& 254 = e % 256 / 2 * 2 := by have := nat_midmask 8 1 e (by decide); simpa using this
theorem wrap64_nat (a : Nat) (h : a < 9223372036854775808) : wrap64 (a : Int) = a := by unfold wrap64; omega
theorem get_1 (e : Nat) (h : e < 4294967296) : wrap64 (bits .and .u64 (e : Int) 4294901760 / 65536) = (wt 1 e : Nat) := by
  have := u64_and_nat e 4294901760 (by omega) (by omega)
  rw [show ((4294901760 : Nat) : Int) = (4294901760 : Int) from rfl] at this
  rw [this, m1, show ((e % 4294967296 / 65536 * 65536 : Nat) : Int) / 65536 = ((e / 65536 : Nat) : Int) by omega, wrap64_nat _ (by omega)]
  rfl
theorem get_2 (e : Nat) (h : e < 4294967296) : wrap64 (bits .and .u64 (e : Int) 65280 / 256) = (wt 2 e : Nat) := by
  have := u64_and_nat e 65280 (by omega) (by omega)
  rw [show ((65280 : Nat) : Int) = (65280 : Int) from rfl] at this
  rw [this, m2, show ((e % 65536 / 256 * 256 : Nat) : Int) / 256 = ((e / 256 % 256 : Nat) : Int) by omega, wrap64_nat _ (by omega)]
  rfl
theorem get_3 (e : Nat) (h : e < 4294967296) : wrap64 (bits .and .u64 (e : Int) 254 / 2) = (wt 3 e : Nat) := by
  have := u64_and_nat e 254 (by omega) (by omega)
  rw [show ((254 : Nat) : Int) = (254 : Int) from rfl] at this
  rw [this, m3, show ((e % 256 / 2 * 2 : Nat) : Int) / 2 = ((e / 2 % 128 : Nat) : Int) by omega, wrap64_nat _ (by omega)]
  rfl
theorem get_0 (e : Nat) (h : e < 4294967296) : bits .and .u64 (e : Int) 0 = 0 := by
  have := u64_and_nat e 0 (by omega) (by omega)
  simpa using this
theorem or_and3 (e A B : Nat) : e &&& (A ||| B) = (e &&& A) ||| (e &&& B) := Nat.and_or_distrib_left ..
theorem n1 (e : Nat) (h : e < 4294967296) : e &&& (18446744073709551615 - 4294901760) = e % 65536 := by
  rw [show 18446744073709551615 - 4294901760 = (2 ^ 64 - 2 ^ 32) ||| (2 ^ 16 - 1) by decide, or_and3, nat_midmask 64 32 e (by decide), Nat.and_two_pow_sub_one_eq_mod]
  rw [show e % 2 ^ 64 / 2 ^ 32 * 2 ^ 32 = 0 by omega]; simp
theorem n2 (e : Nat) (h : e < 4294967296) : e &&& (18446744073709551615 - 65280) = e / 65536 * 65536 + e % 256 := by
  rw [show 18446744073709551615 - 65280 = (2 ^ 64 - 2 ^ 16) ||| (2 ^ 8 - 1) by decide, or_and3, nat_midmask 64 16 e (by decide), Nat.and_two_pow_sub_one_eq_mod, nat_join 16 _ _ (by omega) (by omega)]
  omega
theorem n3 (e : Nat) (h : e < 4294967296) : e &&& (18446744073709551615 - 254) = e / 256 * 256 + e % 2 := by
  rw [show 18446744073709551615 - 254 = (2 ^ 64 - 2 ^ 8) ||| (2 ^ 1 - 1) by decide, or_and3, nat_midmask 64 8 e (by decide), Nat.and_two_pow_sub_one_eq_mod, nat_join 8 _ _ (by omega) (by omega)]
  omega
theorem setx (e x k m r : Nat) (he : e < 4294967296) (hx : x * k < 18446744073709551616) (hm : m < 4294967296) (h1 : e &&& (18446744073709551615 - m) < 4294967296) (h : (e &&& (18446744073709551615 - m)) ||| (x * k &&& m) = r) (hr : r < 4294967296) :
    bits .or .u64 (bits .andNot .u64 (e : Int) (m : Int)) (bits .and .u64 ((x : Int) * (k : Int)) (m : Int)) % 4294967296 = (r : Int) := by
  rw [u64_andNot_nat e m (by omega) (by omega), show (x : Int) * (k : Int) = ((x * k : Nat) : Int) by simp, u64_and_nat (x * k) m hx (by omega)]
  have h2 : x * k &&& m ≤ m := Nat.and_le_right
  rw [u64_or_nat _ _ (by omega) (by omega), h]
  omega
theorem set_1 (e x : Nat) (he : e < 4294967296) (hx : x < 65536) : bits .or .u64 (bits .andNot .u64 (e : Int) 4294901760) (bits .and .u64 ((x : Int) * 65536) 4294901760) % 4294967296 = (setw 1 e x : Nat) := by
  refine setx e x 65536 4294901760 _ he (by omega) (by omega) (by rw [n1 e he]; omega) ?_ (setw_lt 1 x he)
  rw [n1 e he, m1, Nat.or_comm, nat_join 16 _ _ (by omega) (by omega)]
  simp only [setw, if_true]; omega
theorem set_2 (e x : Nat) (he : e < 4294967296) (hx : x < 65536) : bits .or .u64 (bits .andNot .u64 (e : Int) 65280) (bits .and .u64 ((x : Int) * 256) 65280) % 4294967296 = (setw 2 e x : Nat) := by
  refine setx e x 256 65280 _ he (by omega) (by omega) (by rw [n2 e he]; omega) ?_ (setw_lt 2 x he)
  rw [n2 e he, m2, ← nat_join 16 (e / 65536 * 65536) (e % 256) (by omega) (by omega), Nat.or_assoc, Nat.or_comm (e % 256), nat_join 8 _ (e % 256) (by omega) (by omega), nat_join 16 _ _ (by omega) (by omega)]
  simp [setw]; omega
theorem set_3 (e x : Nat) (he : e < 4294967296) (hx : x < 65536) : bits .or .u64 (bits .andNot .u64 (e : Int) 254) (bits .and .u64 ((x : Int) * 2) 254) % 4294967296 = (setw 3 e x : Nat) := by
  refine setx e x 2 254 _ he (by omega) (by omega) (by rw [n3 e he]; omega) ?_ (setw_lt 3 x he)
  rw [n3 e he, m3, ← nat_join 8 (e / 256 * 256) (e % 2) (by omega) (by omega), Nat.or_assoc, Nat.or_comm (e % 2), nat_join 1 _ (e % 2) (by omega) (by omega), nat_join 8 _ _ (by omega) (by omega)]
  simp [setw]; omega

/-- A word out of its parts. -/
def mkw (p s t : Nat) (v : Bool) : Nat := p * 65536 + s * 256 + t * 2 + (if v then 1 else 0)
theorem mkw_lt {p s t : Nat} (v : Bool) (hp : p < 65536) (hs : s < 256) (ht : t < 128) : mkw p s t v < 4294967296 := by unfold mkw; split <;> omega
theorem mkw_set {p s t : Nat} (hp : p < 65536) (hs : s < 256) (ht : t < 128) : setw 3 (setw 2 (setw 1 0 p) s) t = mkw p s t false := by
  simp [setw, mkw]; omega
theorem or1 (e : Nat) (h : e < 4294967296) (h0 : e % 2 = 0) : bits .or .u32 (e : Int) 1 = ((e + 1 : Nat) : Int) := by
  have := u32_or_nat e 1 h (by omega)
  rw [show ((1 : Nat) : Int) = (1 : Int) from rfl] at this
  rw [this, nat_join 1 e 1 (by omega) (by omega)]
/-- Is a word's element variable? -/
def isVar (e : Nat) : Bool := e % 2 == 1
theorem and1 (e : Nat) (h : e < 4294967296) : bits .and .u32 (e : Int) 1 = ((e % 2 : Nat) : Int) := by
  have := u32_and_nat e 1 h (by omega)
  rw [show ((1 : Nat) : Int) = (1 : Int) from rfl] at this
  rw [this, nat_mask1]
/-- Do a word's weights go together? (Elem.Ok) -/
def okw (e : Nat) : Bool := (!decide (0 < wt 1 e) || decide (0 < wt 2 e)) && (!decide (0 < wt 2 e) || decide (0 < wt 3 e)) && (!isVar e || decide (0 < wt 1 e))
/-- Is a number a sign? -/
def isSign (c : Int) : Bool := (decide (0 ≤ c) && decide (c < 55296)) || (decide (57344 ≤ c) && decide (c < 1114112)) || (decide (1114240 ≤ c) && decide (c ≤ 1114367))
/-- A mark's second weight. -/
def markW (c : Int) : Nat := if c = 776 then 43 else if c = 778 then 41 else if c = 768 then 37 else if c = 769 then 36 else if c = 770 then 39 else if c = 771 then 45 else if c = 772 then 47 else 48
def letterW (c : Int) (t : Nat) : Nat := mkw (256 + 8 * (c - 97).toNat) 32 t false
/-- A sign's small one. -/
def foldS (c : Int) : Int := if (65 ≤ c ∧ c ≤ 90) ∨ (192 ≤ c ∧ c ≤ 222 ∧ c ≠ 215) ∨ (913 ≤ c ∧ c ≤ 937 ∧ c ≠ 930) ∨ (1040 ≤ c ∧ c ≤ 1071) then c + 32 else if 1024 ≤ c ∧ c ≤ 1039 then c + 80 else c
def mostW (l : Int) : Int := if l = 1 then 64255 else if l = 2 then 255 else 127
def specialS (c : Int) : Bool := c == 32 || c == 10 || c == 38 || c == 60 || c == 61 || c == 47 || c == 92
end Go.Proofs.YtccdkchmeelkfaaGreatDoor

/- (M0) Memory read as plain lists: slices. Of no program. -/
namespace Go.Proofs.YtccdkchmeelkfaaGreatDoor
open Go.RowKit

theorem Below.drewN {B : Nat} {a w : World} (h : Below B a w) (n : Nat) : Below B a (w.drewN n) := ⟨h.os, h.tape, h.output, h.size, h.block⟩
theorem Below.of_heap {B : Nat} {a w w' : World} (h : Below B a w) (ho : w'.os = w.os) (ht : w'.tape = w.tape) (hu : w'.output = w.output) (hh : w'.heap = w.heap) : Below B a w' :=
  ⟨ho.trans h.os, ht.trans h.tape, hu.trans h.output, by rw [hh]; exact h.size, fun k hk => by rw [hh]; exact h.block k hk⟩
theorem Below.next {w w1 w2 : World} (h : Below w.heap.size w w1) (k : Below w1.heap.size w1 w2) : Below w.heap.size w w2 := h.trans (k.mono h.size)

/-- A slice value of n elements of k cells each; its cells read xs. -/
def Sl (w : World) (k : Nat) (v : Value) (n : Nat) (xs : List Value) : Prop :=
  xs.length = n * k ∧ ∃ a c, v = .slice a n c ∧ n ≤ c ∧ (a = none → c = 0) ∧ (0 < n → ∃ b o, a = some ⟨b, o, none⟩ ∧ b < w.heap.size ∧ ∀ j x, xs[j]? = some x → w.cell? ⟨b, o + j, none⟩ = some x)

theorem Sl.nil (w : World) (k c : Nat) (a : Option Addr) (hc : a = none → c = 0) : Sl w k (.slice a 0 c) 0 [] := ⟨by simp, a, c, rfl, Nat.zero_le _, hc, fun h => by omega⟩

theorem Sl.below {w w' : World} {k n : Nat} {v : Value} {xs : List Value} (h : Sl w k v n xs) (hb : Below w.heap.size w w') : Sl w' k v n xs := by
  obtain ⟨h1, a, c, h2, h3, h3', h4⟩ := h
  refine ⟨h1, a, c, h2, h3, h3', fun hn => ?_⟩
  obtain ⟨b, o, h5, h6, h7⟩ := h4 hn
  exact ⟨b, o, h5, Nat.lt_of_lt_of_le h6 hb.size, fun j x hj => (hb.cell (p := ⟨b, o + j, none⟩) h6).trans (h7 j x hj)⟩

theorem Sl.grown {w w' : World} {k n : Nat} {v : Value} {xs : List Value} {row : Option Nat} (h : Sl w k v n xs) (hg : w.grownBy w' row) (hne : v.ownBlock = none ∨ v.ownBlock ≠ row) : Sl w' k v n xs := by
  obtain ⟨h1, a, c, h2, h3, h3', h4⟩ := h
  refine ⟨h1, a, c, h2, h3, h3', fun hn => ?_⟩
  obtain ⟨b, o, h5, h6, h7⟩ := h4 hn
  subst h2; subst h5
  exact ⟨b, o, rfl, Nat.lt_of_lt_of_le h6 hg.size, fun j x hj => hg.cell (h7 j x hj) (by simpa [Value.ownBlock] using hne)⟩

theorem Sl.heap {w w' : World} {k n : Nat} {v : Value} {xs : List Value} (h : Sl w k v n xs) (hh : w'.heap = w.heap) : Sl w' k v n xs := by
  obtain ⟨h1, a, c, h2, h3, h3', h4⟩ := h
  refine ⟨h1, a, c, h2, h3, h3', fun hn => ?_⟩
  obtain ⟨b, o, h5, h6, h7⟩ := h4 hn
  refine ⟨b, o, h5, by rw [hh]; exact h6, fun j x hj => ?_⟩
  rw [World.cell?_of_block (w := w) (by rw [hh])]; exact h7 j x hj

theorem grown_below {w w' : World} (h : Below w.heap.size w w') : w.grownBy w' none := ⟨h.os, h.tape, h.output, h.size, fun k hk _ => h.block k hk⟩
theorem owns_below {w w' : World} {base : Nat} {e : TypeId} {k n : Nat} {v : Value} {xs : List Value} (h : w.ownsRow base e k v n xs) (hb : Below w.heap.size w w') : w'.ownsRow base e k v n xs := by
  refine h.kept (grown_below hb) ?_
  cases v.ownBlock with
  | none => exact .inl rfl
  | some x => exact .inr (by simp)
theorem owns_slice {w : World} {base : Nat} {e : TypeId} {k n : Nat} {v : Value} {xs : List Value} (h : w.ownsRow base e k v n xs) : ∃ a c, v = .slice a n c ∧ n ≤ c ∧ (a = none → c = 0) := by
  rcases h.2 with ⟨rfl, rfl⟩ | ⟨g, cap, cur, rfl, _, _, hn, _⟩
  · exact ⟨none, 0, rfl, Nat.le_refl _, fun _ => rfl⟩
  · exact ⟨_, cap, rfl, hn, fun h => by cases h⟩
/-- .. behind a step of the call's own row: still below. -/
theorem below_grown {w wr w' : World} {e : TypeId} {k n : Nat} {v : Value} {xs : List Value} (h : Below w.heap.size w wr) (hown : wr.ownsRow w.heap.size e k v n xs) (hg : wr.grownBy w' v.ownBlock) : Below w.heap.size w w' :=
  h.grown hg h.size (fun k hk => (hown.lt k hk).1)

/-- What a call owns reads as a slice. -/
theorem Sl.of_owns {w : World} {base : Nat} {e : TypeId} {k n : Nat} {v : Value} {xs : List Value} (h : w.ownsRow base e k v n xs) : Sl w k v n xs := by
  obtain ⟨h1, h2⟩ := h
  refine ⟨h1, ?_⟩
  rcases h2 with ⟨rfl, rfl⟩ | ⟨g, cap, cur, rfl, hg, hh, hn, hc, hs, ht⟩
  · exact ⟨none, 0, rfl, Nat.le_refl _, fun _ => rfl, fun h => by omega⟩
  · refine ⟨_, cap, rfl, hn, (fun h => by cases h), fun _ => ⟨g, 0, rfl, (Array.getElem?_eq_some_iff.1 hh).1, fun j x hj => ?_⟩⟩
    have hj' : j < n * k := by rw [← h1]; exact (List.getElem?_eq_some_iff.1 hj).1
    simp only [World.cell?, hh, Option.isSome_none, Bool.false_eq_true, if_false, Nat.zero_add]
    rw [← ht, List.getElem?_take_of_lt hj'] at hj
    simpa using hj

/-- 's[lo:hi]' of k cells an element. -/
theorem Sl.cut {w : World} {k n : Nat} {a : Option Addr} {c : Nat} {xs : List Value} (h : Sl w k (.slice a n c) n xs) (lo hi m : Nat) (h1 : lo ≤ hi) (h2 : hi ≤ n) (h3 : hi ≤ m) (h4 : m ≤ c) (hk : 0 < k) :
    Sl w k (.slice (if m = lo then a else a.map (·.add (lo * k))) (hi - lo) (m - lo)) (hi - lo) ((xs.drop (lo * k)).take ((hi - lo) * k)) := by
  obtain ⟨g1, a', c', g2, g3, g3', g4⟩ := h
  cases g2
  have hl : (hi - lo) * k + lo * k = hi * k := by rw [← Nat.add_mul]; congr 1; omega
  have hle : hi * k ≤ n * k := Nat.mul_le_mul_right _ h2
  refine ⟨by rw [List.length_take, List.length_drop, g1]; omega, _, _, rfl, by omega, (fun h0 => ?_), fun hn => ?_⟩
  · split at h0
    · omega
    · have : a = none := by cases a with | none => rfl | some x => cases h0
      have := g3' this; omega
  have hn0 : 0 < n := by omega
  obtain ⟨b, o, g5, g6, g7⟩ := g4 hn0
  subst g5
  have hml : ¬ m = lo := by omega
  rw [if_neg hml]
  by_cases h0 : lo = 0
  · subst h0
    refine ⟨b, o, by simp [Addr.add], g6, fun j x hj => g7 j x ?_⟩
    rw [List.getElem?_take] at hj
    split at hj <;> simp_all
  · have : lo * k ≠ 0 := Nat.mul_ne_zero h0 (by omega)
    refine ⟨b, o + lo * k, by simp [Addr.add, this], g6, fun j x hj => ?_⟩
    rw [Nat.add_assoc]
    refine g7 _ x ?_
    rw [List.getElem?_take] at hj
    split at hj
    · rw [List.getElem?_drop] at hj; exact hj
    · cases hj

/-- Slices of ints; of words. -/
def SlI (w : World) (v : Value) (l : List Int) : Prop := Sl w 1 v l.length (l.map (Value.int .i64))
def SlE (w : World) (v : Value) (l : List Nat) : Prop := Sl w 1 v l.length (l.map fun n : Nat => Value.int .u32 (n : Int)) ∧ ∀ e ∈ l, e < 4294967296

theorem SlI.below {w w' : World} {v : Value} {l : List Int} (h : SlI w v l) (hb : Below w.heap.size w w') : SlI w' v l := Sl.below h hb
theorem SlE.below {w w' : World} {v : Value} {l : List Nat} (h : SlE w v l) (hb : Below w.heap.size w w') : SlE w' v l := ⟨Sl.below h.1 hb, h.2⟩
theorem SlI.nil (w : World) : SlI w (.slice none 0 0) [] := Sl.nil w 1 0 none fun _ => rfl
theorem SlE.nil (w : World) : SlE w (.slice none 0 0) [] := ⟨Sl.nil w 1 0 none fun _ => rfl, by simp⟩

/-- A slice of ints opened: its value, and its cells where there are any. -/
theorem SlI.open {w : World} {v : Value} {l : List Int} (h : SlI w v l) : ∃ a c, v = .slice a l.length c ∧ l.length ≤ c ∧ (a = none → c = 0) ∧ (0 < l.length → ∃ b o, a = some ⟨b, o, none⟩ ∧ b < w.heap.size ∧ ∀ j x, l[j]? = some x → w.cell? ⟨b, o + j, none⟩ = some (.int .i64 x)) := by
  obtain ⟨_, a, c, h2, h3, h3', h4⟩ := h
  refine ⟨a, c, h2, h3, h3', fun hn => ?_⟩
  obtain ⟨b, o, h5, h6, h7⟩ := h4 hn
  exact ⟨b, o, h5, h6, fun j x hj => h7 j _ (by rw [List.getElem?_map, hj]; rfl)⟩
theorem SlE.open {w : World} {v : Value} {l : List Nat} (h : SlE w v l) : ∃ a c, v = .slice a l.length c ∧ l.length ≤ c ∧ (a = none → c = 0) ∧ (0 < l.length → ∃ b o, a = some ⟨b, o, none⟩ ∧ b < w.heap.size ∧ ∀ j x, l[j]? = some x → w.cell? ⟨b, o + j, none⟩ = some (.int .u32 (x : Nat))) := by
  obtain ⟨⟨_, a, c, h2, h3, h3', h4⟩, _⟩ := h
  refine ⟨a, c, h2, h3, h3', fun hn => ?_⟩
  obtain ⟨b, o, h5, h6, h7⟩ := h4 hn
  exact ⟨b, o, h5, h6, fun j x hj => h7 j _ (by rw [List.getElem?_map, hj]; rfl)⟩

/-- 'append(out, xs...)': out is the call's own, xs is whatever reads as a slice. -/
theorem wpList_append_sl {P : Program} {w : World} {ops : Array Oper} {rest : List Oper} {o : Oper} {a : Act} {Q : Exit → Act → World → Prop} (hgd : o.guard = none) (s x : Operand) (t : TypeId)
    (ho : o.op = .call { callee := .builtin .append, args := #[s, x], argTypes := #[t, t] })
    (base : Nat) (e : TypeId) (i : TypeInfo) (z : Value) (k bytes : Nat) (ht : P.underlying t = some (.slice e)) (hi : P.info? e = some i) (hz : i.zero = some z)
    (hsize : i.size = k) (hby : i.bytes = bytes) (hzs : z.cells.size = k) (hsz : 0 < k)
    (v : Value) (n : Nat) (xs : List Value) (hs : a.eval s = v) (hown : w.ownsRow base e k v n xs)
    (sv : Value) (m : Nat) (news : List Value) (hx : a.eval x = sv) (hsl : Sl w k sv m news) (h1 : ∀ u ∈ news, u.oneCell' = true)
    (h63 : n + m ≤ maxLen) (hbytes : (n + m) * bytes ≤ 140737488355328) (hbase : base ≤ w.heap.size)
    (h : ∀ v' w', w'.ownsRow base e k v' (n + m) (xs ++ news) → w.grownBy w' v.ownBlock → wpList P ops Q rest (a.put o.dst v') w') : wpList P ops Q (o :: rest) a w := by
  obtain ⟨g1, ad, c, rfl, g2, g3, g4⟩ := hsl
  cases ad with
  | some ad =>
    refine wpList_append_own w hgd s x t ho base e i z k bytes ht hi hz hsize hby hzs hsz v n xs hs hown ad m c news hx g1 (fun j u hj => ?_) h1 h63 hbytes hbase (fun v' w' h2 h3 _ => h v' w' h2 h3)
    by_cases hm : m = 0
    · subst hm; rw [Nat.zero_mul] at g1; rw [List.eq_nil_of_length_eq_zero g1] at hj; simp at hj
    · obtain ⟨b, of, e1, _, e2⟩ := g4 (by omega)
      cases e1
      rw [Addr.add_lit]
      exact e2 j u hj
  | none =>
    have hm : m = 0 := by
      by_cases hm : m = 0
      · exact hm
      · obtain ⟨b, of, e1, _⟩ := g4 (by omega); cases e1
    subst hm
    have hc := g3 rfl
    subst hc
    rw [Nat.zero_mul] at g1
    have hn : news = [] := List.eq_nil_of_length_eq_zero g1
    subst hn
    refine wpList_append_own_none hgd s x t ho base e i k ht hi v n xs hs hown hx ?_
    have := h v w (by simpa using hown) (World.grownBy.refl _ _)
    exact this
end Go.Proofs.YtccdkchmeelkfaaGreatDoor

/- (M1) Maps in memory read as lists of keys and values, in the order in which the keys came. Of no program. -/
namespace Go.Proofs.YtccdkchmeelkfaaGreatDoor
open Go.RowKit
open Go.ChangeMaps (setBlock)

section
variable {α β : Type} [DecidableEq α]
/-- What a key leads to. -/
def alook : List (α × β) → α → Option β
  | [], _ => none
  | p :: r, k => if p.1 = k then some p.2 else alook r k
/-- A key's value put: in its place, or behind all. -/
def aput : List (α × β) → α → β → List (α × β)
  | [], k, v => [(k, v)]
  | p :: r, k, v => if p.1 = k then (k, v) :: r else p :: aput r k v
theorem alook_none {m : List (α × β)} {k : α} (h : ∀ p ∈ m, p.1 ≠ k) : alook m k = none := by
  induction m with
  | nil => rfl
  | cons p r ih => rw [alook, if_neg (h p (by simp))]; exact ih fun q hq => h q (by simp [hq])
theorem alook_mem {m : List (α × β)} {k : α} {v : β} (h : alook m k = some v) : (k, v) ∈ m := by
  induction m with
  | nil => cases h
  | cons p r ih =>
    rw [alook] at h
    split at h
    · rename_i e; cases h; subst e; exact List.mem_cons_self ..
    · exact List.mem_cons_of_mem _ (ih h)
theorem alook_none_iff {m : List (α × β)} {k : α} : alook m k = none ↔ ∀ p ∈ m, p.1 ≠ k := by
  refine ⟨fun h => ?_, alook_none⟩
  induction m with
  | nil => simp
  | cons p r ih =>
    rw [alook] at h
    split at h
    · cases h
    · rename_i e
      intro q hq
      rcases List.mem_cons.1 hq with rfl | hq
      · exact e
      · exact ih h q hq
end

/-- What the laws need of a key's type and its reading. -/
structure KL (P : Program) (kt : TypeId) {α : Type} (enc : α → Value) (ok : α → Prop) : Prop where
  check : ∀ (w : World) (em : Bool) {k : α}, ok k → (Instr.checkKey em 10000 kt (enc k)).run P w = .ok () w
  find : ∀ (w : World) {k : α}, ok k → ∀ es : List MapEntry, (∀ e ∈ es, ∃ k', ok k' ∧ e.key = enc k') →
    ((Instr.findKey kt (enc k) es).run P w = .ok none w ∧ ∀ e ∈ es, e.key ≠ enc k) ∨ ∃ j e, (Instr.findKey kt (enc k) es).run P w = .ok (some (j, e.val)) w ∧ es[j]? = some e ∧ e.key = enc k
  stays : ∀ (w : World) {k : α}, ok k → (Instr.keyThatStays (enc k) (enc k)).run P w = .ok (enc k) w
  inj : ∀ {a b : α}, ok a → ok b → enc a = enc b → a = b

theorem KL.of_keyed {P : Program} {kt : TypeId} {α : Type} {enc : α → Value} {ok : α → Prop} (K : Maps.Keyed P kt) (hk : ∀ k, ok k → ∃ l, keyOf P kt (enc k) = some l) (hi : ∀ {a b : α}, ok a → ok b → enc a = enc b → a = b) : KL P kt enc ok where
  check w em k h := by obtain ⟨l, hl⟩ := hk k h; exact K.check w em hl
  find w k h es hes := by
    obtain ⟨l, hl⟩ := hk k h
    exact K.find w hl es fun e he => by obtain ⟨k', hk', e'⟩ := hes e he; rw [e']; exact hk k' hk'
  stays w k h := by obtain ⟨l, hl⟩ := hk k h; exact K.stays w hl
  inj := hi

/-- Block r is a map with these keys and values, in the order in which they came. -/
def MapAt {α : Type} (enc : α → Value) (w : World) (r : Nat) (m : List (α × Value)) : Prop :=
  ∃ es clock, w.heap[r]? = some (.map es clock) ∧ es.toList.map (fun e => (e.key, e.val)) = m.map (fun p => (enc p.1, p.2)) ∧ es.toList.Pairwise (fun x y => x.born < y.born) ∧ ∀ e ∈ es.toList, e.born < clock

section
variable {P : Program} {kt et t : TypeId} {α : Type} {enc : α → Value} {ok : α → Prop} {w : World} {r : Nat} {m : List (α × Value)}

theorem MapAt.lt (h : MapAt enc w r m) : r < w.heap.size := by
  obtain ⟨es, clock, h1, _⟩ := h
  exact (Array.getElem?_eq_some_iff.1 h1).1

theorem MapAt.of_block {w' : World} (h : MapAt enc w r m) (hb : w'.heap[r]? = w.heap[r]?) : MapAt enc w' r m := by
  obtain ⟨es, clock, h1, h2⟩ := h
  exact ⟨es, clock, hb.trans h1, h2⟩
theorem MapAt.below {w' : World} (h : MapAt enc w r m) (hb : Below w.heap.size w w') : MapAt enc w' r m := h.of_block (hb.block r h.lt)
theorem MapAt.grown {w' : World} {row : Option Nat} (h : MapAt enc w r m) (hg : w.grownBy w' row) (hne : some r ≠ row) : MapAt enc w' r m := h.of_block (hg.block r h.lt hne)
theorem MapAt.made (w : World) (enc : α → Value) : MapAt enc (w.alloc (.map #[] 0)) w.heap.size [] := ⟨#[], 0, heap_alloc_new w _, by simp, by simp, by simp⟩

theorem entries_ok {es : List MapEntry} (h : es.map (fun e => (e.key, e.val)) = m.map (fun p => (enc p.1, p.2))) (hok : ∀ p ∈ m, ok p.1) : ∀ e ∈ es, ∃ k', ok k' ∧ e.key = enc k' := by
  intro e he
  have h1 : (e.key, e.val) ∈ m.map (fun p => (enc p.1, p.2)) := by rw [← h]; exact List.mem_map.2 ⟨e, he, rfl⟩
  obtain ⟨p, hp, e1⟩ := List.mem_map.1 h1
  exact ⟨p.1, hok p hp, (Prod.mk.inj e1).1.symm⟩

variable [DecidableEq α]
/-- The two ways of a look-up: not there; there, at place j, ahead of which the key is not. -/
theorem MapAt.find_cases (K : KL P kt enc ok) (hok : ∀ p ∈ m, ok p.1) (hnd : (m.map (·.1)).Nodup) {es : List MapEntry} (h : es.map (fun e => (e.key, e.val)) = m.map (fun p => (enc p.1, p.2))) {k : α} (hk : ok k) (w : World) :
    ((Instr.findKey kt (enc k) es).run P w = .ok none w ∧ alook m k = none ∧ ∀ p ∈ m, p.1 ≠ k) ∨
    ∃ j v, (Instr.findKey kt (enc k) es).run P w = .ok (some (j, v)) w ∧ m[j]? = some (k, v) ∧ alook m k = some v := by
  rcases K.find w hk es (entries_ok h hok) with ⟨h1, h2⟩ | ⟨j, e, h1, h2, h3⟩
  · have h4 : ∀ p ∈ m, p.1 ≠ k := by
      intro p hp e
      have h5 : (enc p.1, p.2) ∈ es.map (fun e => (e.key, e.val)) := by rw [h]; exact List.mem_map.2 ⟨p, hp, rfl⟩
      obtain ⟨x, hx, e1⟩ := List.mem_map.1 h5
      exact h2 x hx (by rw [(Prod.mk.inj e1).1, e])
    exact .inl ⟨h1, alook_none h4, h4⟩
  · refine .inr ⟨j, e.val, h1, ?_⟩
    have h4 : (es.map (fun e => (e.key, e.val)))[j]? = some (e.key, e.val) := by rw [List.getElem?_map, h2]; rfl
    rw [h, List.getElem?_map] at h4
    cases hm : m[j]? with
    | none => rw [hm] at h4; cases h4
    | some p =>
      rw [hm] at h4
      have h5 := Option.some.inj h4
      have e1 := (Prod.mk.inj h5).1
      have e2 := (Prod.mk.inj h5).2
      have e3 : p.1 = k := K.inj (hok p (List.mem_of_getElem? hm)) hk (e1.trans h3)
      have ep : p = (k, e.val) := by cases p; simp_all
      refine ⟨by rw [ep], ?_⟩
      have : ∀ (m : List (α × Value)) (j : Nat), (m.map (·.1)).Nodup → m[j]? = some (k, e.val) → alook m k = some e.val := by
        intro m
        induction m with
        | nil => intro j _ h; simp at h
        | cons q r ih =>
          intro j hn hj
          rw [List.map_cons, List.nodup_cons] at hn
          cases j with
          | zero => simp at hj; rw [alook, hj, if_pos rfl]
          | succ j =>
            simp at hj
            have : q.1 ≠ k := fun e' => hn.1 (by rw [e']; exact List.mem_map.2 ⟨_, List.mem_of_getElem? hj, rfl⟩)
            rw [alook, if_neg this]
            exact ih j hn.2 hj
      exact this m j hnd (by rw [hm, ep])

theorem MapAt.run_look (K : KL P kt enc ok) (ht : P.underlying t = some (.map kt et)) (hok : ∀ p ∈ m, ok p.1) (hnd : (m.map (·.1)).Nodup) (h : MapAt enc w r m) {k : α} (hk : ok k) {z : Value} (hz : ∀ w, (zeroValue et).run P w = .ok z w) (c : Bool) :
    (Instr.lookup t (.map (some r)) (enc k) c).run P w = .ok (if c then .tuple #[(alook m k).getD z, .bool (alook m k).isSome] else (alook m k).getD z) w := by
  obtain ⟨es, clock, h1, h2, _⟩ := h
  rcases MapAt.find_cases K hok hnd h2 hk w with ⟨h3, h4, _⟩ | ⟨j, v, h3, _, h4⟩
  · simp [Instr.lookup, run_underlying ht, MapKept.run_getObj_map h1, K.check w es.isEmpty hk, h3, h4, hz, Result.andThen]
    try (cases c <;> rfl)
  · simp [Instr.lookup, run_underlying ht, MapKept.run_getObj_map h1, K.check w es.isEmpty hk, h3, h4, Result.andThen]
    try (cases c <;> rfl)

theorem aput_none {m : List (α × Value)} {k : α} {v : Value} (h : ∀ p ∈ m, p.1 ≠ k) : aput m k v = m ++ [(k, v)] := by
  induction m with
  | nil => rfl
  | cons p r ih => rw [aput, if_neg (h p (by simp)), ih fun q hq => h q (by simp [hq])]; rfl
theorem aput_at {k : α} {v v' : Value} : ∀ {m : List (α × Value)} {j : Nat}, (m.map (·.1)).Nodup → m[j]? = some (k, v') → aput m k v = m.modify j (fun _ => (k, v))
  | [], j, _, h => by simp at h
  | p :: r, 0, _, h => by simp at h; rw [aput, h, if_pos rfl]; rfl
  | p :: r, j + 1, hn, h => by
    rw [List.map_cons, List.nodup_cons] at hn
    simp at h
    have : p.1 ≠ k := fun e' => hn.1 (by rw [e']; exact List.mem_map.2 ⟨_, List.mem_of_getElem? h, rfl⟩)
    rw [aput, if_neg this, aput_at hn.2 h]; rfl

theorem MapAt.run_put (K : KL P kt enc ok) (ht : P.underlying t = some (.map kt et)) (hok : ∀ p ∈ m, ok p.1) (hnd : (m.map (·.1)).Nodup) (h : MapAt enc w r m) {k : α} (hk : ok k) (v : Value) :
    ∃ w', (Instr.mapUpdate t (.map (some r)) (enc k) v).run P w = .ok () w' ∧ MapAt enc w' r (aput m k v) ∧ w.grownBy w' (some r) ∧ w'.heap.size = w.heap.size ∧ w'.drawn = w.drawn := by
  obtain ⟨es, clock, h1, h2, h5, h6⟩ := h
  have hr : r < w.heap.size := (Array.getElem?_eq_some_iff.1 h1).1
  have grow : ∀ o, w.grownBy { w with heap := w.heap.setIfInBounds r o } (some r) := fun o => ⟨rfl, rfl, rfl, by simp, fun k hk hne => by
    simp only [Array.getElem?_setIfInBounds]; rw [if_neg (fun e => hne (by rw [e]))]⟩
  rcases MapAt.find_cases K hok hnd h2 hk w with ⟨h3, _, h4⟩ | ⟨j, v', h3, h4, _⟩
  · refine ⟨{ w with heap := w.heap.setIfInBounds r (.map (es.push { key := enc k, val := v, born := clock }) (clock + 1)) }, ?_, ⟨es.push { key := enc k, val := v, born := clock }, clock + 1, ?_, ?_, ?_, ?_⟩, grow _, by simp, rfl⟩
    · simp [Instr.mapUpdate, run_underlying ht, MapKept.run_getObj_map h1, K.check w false hk, h3, MapKept.run_setObj_map _ h1, Result.andThen]
    · show (w.heap.setIfInBounds r _)[r]? = _
      simp [hr]
    · rw [aput_none h4]; simp [h2]
    · rw [Array.toList_push, List.pairwise_append]
      exact ⟨h5, by simp, fun x hx y hy => by simp at hy; subst hy; exact h6 x hx⟩
    · intro e he
      rw [Array.toList_push, List.mem_append] at he
      rcases he with he | he
      · have := h6 e he; omega
      · simp at he; subst he; simp
  · have hj2 : (es.toList.map (fun e => (e.key, e.val)))[j]? = some (enc k, v') := by rw [h2, List.getElem?_map, h4]; rfl
    rw [List.getElem?_map] at hj2
    cases he : es.toList[j]? with
    | none => rw [he] at hj2; cases hj2
    | some e0 =>
      rw [he] at hj2
      have hek : e0.key = enc k := (Prod.mk.inj (Option.some.inj hj2)).1
      have he' : es[j]? = some e0 := by simpa using he
      refine ⟨{ w with heap := w.heap.setIfInBounds r (.map (es.modify j fun e => { e with key := enc k, val := v }) clock) }, ?_, ⟨es.modify j fun e => { e with key := enc k, val := v }, clock, ?_, ?_, ?_, ?_⟩, grow _, by simp, rfl⟩
      · simp [Instr.mapUpdate, run_underlying ht, MapKept.run_getObj_map h1, K.check w false hk, h3, he', hek, K.stays w hk, MapKept.run_setObj_map _ h1, Result.andThen]
      · show (w.heap.setIfInBounds r _)[r]? = _
        simp [hr]
      · rw [aput_at hnd h4, Array.toList_modify]
        apply List.ext_getElem?
        intro i
        have := congrArg (fun l => l[i]?) h2
        simp only [List.getElem?_map] at this
        simp only [List.getElem?_map, List.getElem?_modify]
        by_cases hij : j = i
        · subst hij; simp [he, h4]
        · simp only [hij, if_false] at this ⊢
          simpa using this
      · rw [Array.toList_modify]
        have : (es.toList.modify j fun e => { e with key := enc k, val := v }).map MapEntry.born = es.toList.map MapEntry.born := by
          apply List.ext_getElem?
          intro i
          simp only [List.getElem?_map, List.getElem?_modify]
          by_cases hij : j = i
          · subst hij; cases es.toList[j]? <;> simp
          · simp [hij]
        have h7 : (es.toList.map MapEntry.born).Pairwise (· < ·) := List.pairwise_map.2 h5
        exact List.pairwise_map.1 (by rw [this]; exact h7)
      · intro e hm
        rw [Array.toList_modify] at hm
        obtain ⟨i, hi⟩ := List.getElem?_of_mem hm
        rw [List.getElem?_modify] at hi
        cases hx : es.toList[i]? with
        | none => rw [hx] at hi; cases hi
        | some x =>
          rw [hx] at hi
          have := h6 x (List.mem_of_getElem? hx)
          by_cases hij : j = i
          · simp [hij] at hi; subst hi; exact this
          · simp [hij] at hi; subst hi; exact this
end
end Go.Proofs.YtccdkchmeelkfaaGreatDoor

/- (M2) Ranging over a map: the entries come in whatever order; each comes once. Of no program. -/
namespace Go.Proofs.YtccdkchmeelkfaaGreatDoor
open Go.RowKit Go.Maps

/-- Block ib goes over map r, whose entries are m; left: those that are still to come. -/
def IterAt {α : Type} (enc : α → Value) (w : World) (ib r : Nat) (m left : List (α × Value)) : Prop :=
  ∃ es clock seen, w.heap[r]? = some (.map es clock) ∧ es.toList.map (fun e => (e.key, e.val)) = m.map (fun p => (enc p.1, p.2)) ∧ es.toList.Pairwise (fun x y => x.born < y.born) ∧ (∀ e ∈ es.toList, e.born < clock) ∧
    w.heap[ib]? = some (.mapIter (some r) clock seen clock) ∧ (es.toList.filter fun e => !seen.contains e.born).map (fun e => (e.key, e.val)) = left.map (fun p => (enc p.1, p.2))

section
variable {P : Program} {t kt et : TypeId} {α : Type} {enc : α → Value} {w : World} {ib r : Nat} {m left : List (α × Value)}

theorem IterAt.map (h : IterAt enc w ib r m left) : MapAt enc w r m := by
  obtain ⟨es, clock, seen, h1, h2, h3, h4, _⟩ := h
  exact ⟨es, clock, h1, h2, h3, h4⟩
theorem IterAt.of_blocks {w' : World} (h : IterAt enc w ib r m left) (hr : w'.heap[r]? = w.heap[r]?) (hi : w'.heap[ib]? = w.heap[ib]?) : IterAt enc w' ib r m left := by
  obtain ⟨es, clock, seen, h1, h2, h3, h4, h5, h6⟩ := h
  exact ⟨es, clock, seen, hr.trans h1, h2, h3, h4, hi.trans h5, h6⟩
theorem IterAt.lt (h : IterAt enc w ib r m left) : ib < w.heap.size := by
  obtain ⟨es, clock, seen, h1, h2, h3, h4, h5, h6⟩ := h
  exact (Array.getElem?_eq_some_iff.1 h5).1
theorem IterAt.below {w' : World} (h : IterAt enc w ib r m left) (hb : Below w.heap.size w w') : IterAt enc w' ib r m left := h.of_blocks (hb.block r h.map.lt) (hb.block ib h.lt)
theorem IterAt.grown {w' : World} {row : Option Nat} (h : IterAt enc w ib r m left) (hg : w.grownBy w' row) (h1 : some r ≠ row) (h2 : some ib ≠ row) : IterAt enc w' ib r m left := h.of_blocks (hg.block r h.map.lt h1) (hg.block ib h.lt h2)

theorem MapAt.run_range (ht : P.underlying t = some (.map kt et)) (h : MapAt enc w r m) :
    ∃ w', (Instr.range t (.map (some r))).run P w = .ok (.pointer (some ⟨w.heap.size, 0, none⟩)) w' ∧ IterAt enc w' w.heap.size r m m ∧ w.grownBy w' none ∧ w'.heap.size = w.heap.size + 1 := by
  obtain ⟨es, clock, h1, h2, h3, h4⟩ := h
  have hr : r < w.heap.size := (Array.getElem?_eq_some_iff.1 h1).1
  refine ⟨w.alloc (.mapIter (some r) clock #[] clock), ?_, ⟨es, clock, #[], ?_, h2, h3, h4, heap_alloc_new w _, ?_⟩, World.grownBy_alloc _ _ _, by simp⟩
  · simp [Instr.range, run_underlying ht, MapKept.run_getObj_map h1, Result.andThen]
  · rw [Below.heap_alloc _ _ _ hr]; exact h1
  · rw [List.filter_eq_self.2 (by simp)]; exact h2

theorem pairwise_inj {l : List MapEntry} (h : l.Pairwise (fun x y => x.born < y.born)) {i j : Nat} {x y : MapEntry} (hi : l[i]? = some x) (hj : l[j]? = some y) (e : x.born = y.born) : i = j := by
  obtain ⟨hi', rfl⟩ := List.getElem?_eq_some_iff.1 hi
  obtain ⟨hj', rfl⟩ := List.getElem?_eq_some_iff.1 hj
  rcases Nat.lt_trichotomy i j with h1 | h1 | h1
  · have := List.pairwise_iff_getElem.1 h i j hi' hj' h1; omega
  · exact h1
  · have := List.pairwise_iff_getElem.1 h j i hj' hi' h1; omega

theorem map_erase {α β : Type} (f : α → β) : ∀ (l : List α) (i : Nat), (l.eraseIdx i).map f = (l.map f).eraseIdx i
  | [], i => by simp
  | x :: r, 0 => by simp
  | x :: r, i + 1 => by simp [map_erase f r i]

theorem filter_erase {l : List MapEntry} (h : l.Pairwise (fun x y => x.born < y.born)) : ∀ {i : Nat} {e : MapEntry}, l[i]? = some e → l.filter (fun x => !(x.born == e.born)) = l.eraseIdx i := by
  induction l with
  | nil => intro i e hi; simp at hi
  | cons x r ih =>
    obtain ⟨h1, h2⟩ := List.pairwise_cons.1 h
    intro i e hi
    cases i with
    | zero =>
      simp at hi; subst hi
      simp only [List.filter_cons, beq_self_eq_true, Bool.not_true, Bool.false_eq_true, if_false, List.eraseIdx_zero, List.tail_cons]
      exact List.filter_eq_self.2 fun y hy => by have := h1 y hy; simp; omega
    | succ i =>
      simp at hi
      have : x.born ≠ e.born := by have := h1 e (List.mem_of_getElem? hi); omega
      simp only [List.filter_cons, List.eraseIdx_cons_succ]
      rw [if_pos (by simp [this]), ih h2 hi]

theorem IterAt.run_next (h : IterAt enc w ib r m left) (ty : TypeId) :
    (left = [] ∧ (Instr.next (.pointer (some ⟨ib, 0, none⟩)) false ty).run P w = .ok (.tuple #[.bool false]) w) ∨
    ∃ i k v w', left[i]? = some (k, v) ∧ (Instr.next (.pointer (some ⟨ib, 0, none⟩)) false ty).run P w = .ok (.tuple #[.bool true, enc k, v]) w' ∧ IterAt enc w' ib r m (left.eraseIdx i) ∧ w.grownBy w' (some ib) ∧ w'.heap.size = w.heap.size ∧
      (Instr.entry (.pointer (some ⟨ib, 0, none⟩))).run P w' = .ok (.tuple #[enc k, v]) w' := by
  obtain ⟨es, clock, seen, h1, h2, h3, h4, h5, h6⟩ := h
  have hib : ib < w.heap.size := (Array.getElem?_eq_some_iff.1 h5).1
  have hne : r ≠ ib := fun e => by rw [e, h5] at h1; cases h1
  have hLl : (leftOf es seen).toList = es.toList.filter fun e => !seen.contains e.born := by simp [leftOf]
  rcases run_next_at (P := P) w ty ib r clock clock seen es clock h5 h1 h4 (Nat.le_refl _) with ⟨h7, h8⟩ | ⟨e, he, w1, hw1, h8⟩
  · refine .inl ⟨?_, h8⟩
    have := congrArg List.length h6
    rw [← hLl] at this
    simp only [List.length_map] at this
    have hz : (leftOf es seen).toList.length = (leftOf es seen).size := by simp
    exact List.eq_nil_of_length_eq_zero (by omega)
  · refine .inr ?_
    rw [hLl] at he
    have hes : e ∈ es.toList := (List.mem_filter.1 he).1
    obtain ⟨i, hi⟩ := List.getElem?_of_mem he
    have hl : (left.map (fun p => (enc p.1, p.2)))[i]? = some (e.key, e.val) := by rw [← h6, List.getElem?_map, hi]; rfl
    rw [List.getElem?_map] at hl
    cases hp : left[i]? with
    | none => rw [hp] at hl; cases hl
    | some p =>
      rw [hp] at hl
      have hl' := Option.some.inj hl
      have ek := (Prod.mk.inj hl').1
      have ev := (Prod.mk.inj hl').2
      have hw1h : w1.heap = w.heap := by rcases hw1 with rfl | rfl <;> rfl
      have hgen : ∀ ob, (ChangeMaps.setBlock w1 ib ob).heap = w.heap.setIfInBounds ib ob := fun ob => by simp [ChangeMaps.setBlock, hw1h]
      have hg : w.grownBy (ChangeMaps.setBlock w1 ib (.mapIter (some r) clock (seen.push e.born) clock)) (some ib) := by
        refine ⟨?_, ?_, ?_, ?_, fun k hk hne => ?_⟩
        · rcases hw1 with rfl | rfl <;> rfl
        · rcases hw1 with rfl | rfl <;> rfl
        · rcases hw1 with rfl | rfl <;> rfl
        · rw [hgen]; simp
        · rw [hgen, Array.getElem?_setIfInBounds, if_neg (fun e => hne (by rw [e]))]
      have hb1 : (ChangeMaps.setBlock w1 ib (.mapIter (some r) clock (seen.push e.born) clock)).heap[ib]? = some (.mapIter (some r) clock (seen.push e.born) clock) := by
        simp [ChangeMaps.setBlock, hw1h, hib]
      have hb2 : (ChangeMaps.setBlock w1 ib (.mapIter (some r) clock (seen.push e.born) clock)).heap[r]? = some (.map es clock) := by
        rw [← h1]; exact hg.block r (Array.getElem?_eq_some_iff.1 h1).1 (by simpa using hne)
      refine ⟨i, p.1, p.2, ChangeMaps.setBlock w1 ib (.mapIter (some r) clock (seen.push e.born) clock), hp, ?_, ⟨es, clock, seen.push e.born, hb2, h2, h3, h4, hb1, ?_⟩, hg, ?_, ?_⟩
      · rw [ek, ev]; exact h8
      · have hf : (es.toList.filter fun x => !(seen.push e.born).contains x.born) = (es.toList.filter fun x => !seen.contains x.born).eraseIdx i := by
          rw [← filter_erase (h3.filter _) hi, List.filter_filter]
          congr 1
          funext x
          by_cases h1 : x.born = e.born <;> by_cases h2 : x.born ∈ seen <;> simp [h1, h2]
        rw [hf, map_erase, h6, map_erase]
      · simp [ChangeMaps.setBlock, hw1h]
      · rw [ek, ev]
        refine run_entry_at _ ib r clock seen es clock e hb1 hb2 hes ?_
        exact (List.pairwise_map.2 h3).imp (fun h => Nat.ne_of_lt h)

/-- THE LAWS AT THE OPERATIONS. -/
theorem wpList_range_at {ops : Array Oper} {rest : List Oper} {o : Oper} {a : Act} {Q : Exit → Act → World → Prop} (hg : o.guard = none) (x : Operand) (hop : o.op = Op.range t x) (ht : P.underlying t = some (.map kt et)) (hx : a.eval x = .map (some r)) (h : MapAt enc w r m)
    (hK : ∀ w', IterAt enc w' w.heap.size r m m → w.grownBy w' none → w'.heap.size = w.heap.size + 1 → wpList P ops Q rest (a.put o.dst (.pointer (some ⟨w.heap.size, 0, none⟩))) w') : wpList P ops Q (o :: rest) a w := by
  refine wpList_plain hg fun K' hK' => ?_
  obtain ⟨w', hrun, h1, h2, h3⟩ := h.run_range (P := P) ht
  unfold Oper.wp
  simp [execOp, hop, hx, hrun, Result.andThen]
  exact hK' _ _ (hK w' h1 h2 h3)

theorem wpList_next_at {ops : Array Oper} {rest : List Oper} {o : Oper} {a : Act} {Q : Exit → Act → World → Prop} (hg : o.guard = none) (x : Operand) (hop : o.op = Op.next x false) (hx : a.eval x = .pointer (some ⟨ib, 0, none⟩)) (h : IterAt enc w ib r m left)
    (hD : left = [] → wpList P ops Q rest (a.put o.dst (.tuple #[.bool false])) w)
    (hM : ∀ i k v w', left[i]? = some (k, v) → IterAt enc w' ib r m (left.eraseIdx i) → w.grownBy w' (some ib) → w'.heap.size = w.heap.size → (Instr.entry (.pointer (some ⟨ib, 0, none⟩))).run P w' = .ok (.tuple #[enc k, v]) w' → wpList P ops Q rest (a.put o.dst (.tuple #[.bool true, enc k, v])) w') : wpList P ops Q (o :: rest) a w := by
  refine wpList_plain hg fun K' hK' => ?_
  unfold Oper.wp
  rcases h.run_next (P := P) o.type with ⟨h0, hrun⟩ | ⟨i, k, v, w', hi, hrun, h1, h2, h3, h4⟩
  · simp [execOp, hop, hx, hrun, Result.andThen]
    exact hK' _ _ (hD h0)
  · simp [execOp, hop, hx, hrun, Result.andThen]
    exact hK' _ _ (hM i k v w' hi h1 h2 h3 h4)
end
end Go.Proofs.YtccdkchmeelkfaaGreatDoor

/- (M3) The keys of this program's maps. -/
namespace Go.Proofs.YtccdkchmeelkfaaGreatDoor
open Go.RowKit Go.Maps

theorem laidOut : laidOutB Tryz.prog = true := by kernel_rfl

/-- An array of n ints of kind q reads as a key. -/
theorem keyOf_arr {P : Program} {k e : TypeId} {n : Nat} {q : IntKind} (hk : P.underlying k = some (.array n e)) (he : P.underlying e = some (.int q)) (hc : P.cellsOf k = n) (hce : P.cellsOf e = 1) (hkt : P.keyType k = true) (hsz : 0 < P.types.size)
    (ns : List Int) (hn : ns.length = n) (hw : ∀ x ∈ ns, (Lit.int q x).wf = true) : ∃ l, keyOf P k (.agg (ns.map (Value.int q)).toArray) = some l := by
  have hform : Value.formed P k (.agg (ns.map (Value.int q)).toArray) = true := by simp [Value.formed, hk, hc, hn]
  have hlits : ∃ ls, P.keyLits (P.types.size + 1) k (ns.map (Value.int q)) = some ls := by
    obtain ⟨s, hs⟩ : ∃ s, P.types.size = s + 1 := ⟨P.types.size - 1, by omega⟩
    rw [hs]
    have h1 : ∀ i, i ∈ List.range n → ∃ l, P.keyLits (s + 1) e (((ns.map (Value.int q)).drop (i * P.cellsOf e)).take (P.cellsOf e)) = some l := by
      intro i hi
      have hi' : i < ns.length := by rw [hn]; exact List.mem_range.1 hi
      rw [hce, Nat.mul_one, List.drop_eq_getElem_cons (by simpa using hi')]
      have := hw ns[i] (List.getElem_mem hi')
      simp only [List.take_succ_cons, List.take_zero, List.getElem_map]
      exact ⟨[.int q ns[i]], by simp [Program.keyLits, he, this]⟩
    have h2 : ∀ (l : List Nat), (∀ i ∈ l, ∃ r, P.keyLits (s + 1) e (((ns.map (Value.int q)).drop (i * P.cellsOf e)).take (P.cellsOf e)) = some r) → ∃ r, (l.mapM fun i => P.keyLits (s + 1) e (((ns.map (Value.int q)).drop (i * P.cellsOf e)).take (P.cellsOf e))) = some r := by
      intro l
      induction l with
      | nil => intro _; exact ⟨[], rfl⟩
      | cons i l ih =>
        intro h
        obtain ⟨r, hr⟩ := h i (by simp)
        obtain ⟨rs, hrs⟩ := ih fun j hj => h j (by simp [hj])
        exact ⟨r :: rs, by simp [List.mapM_cons, hr, hrs]⟩
    obtain ⟨r, hr⟩ := h2 _ h1
    refine ⟨r.flatten, ?_⟩
    unfold Program.keyLits
    simp only [hk, List.length_map, hn, hc, if_true, hr, Option.map_some]
  obtain ⟨ls, hls⟩ := hlits
  refine ⟨.string (keyBytes ls), ?_⟩
  unfold keyOf
  simp only [hk, hkt, hform, Bool.and_true, if_true, Value.cells, hls, Option.map_some]

/-- i64's numbers; i32's. -/
def i64ok (n : Int) : Prop := -9223372036854775808 ≤ n ∧ n ≤ 9223372036854775807
def i32ok (n : Int) : Prop := -2147483648 ≤ n ∧ n ≤ 2147483647
theorem i64ok.wf {n : Int} (h : i64ok n) : (Lit.int .i64 n).wf = true := WalkArith.wf_i64 h
theorem i32ok.wf {n : Int} (h : i32ok n) : (Lit.int .i32 n).wf = true := by
  have := IntKind.wrap_i32 n
  unfold i32ok at h
  simp [Lit.wf, IntKind.min, IntKind.max, IntKind.bits, IntKind.signed]; omega

theorem kl_int : KL Tryz.prog 3 (Value.int .i64) i64ok :=
  KL.of_keyed (int_keyed Tryz.underlying3) (fun k hk => ⟨_, keyOf_int_mk Tryz.underlying3 hk.wf⟩) (fun _ _ h => by cases h; rfl)

/-- A table's key: three numbers. -/
abbrev K3 := Int × Int × Int
def encK (k : K3) : Value := .agg #[.int .i64 k.1, .int .i64 k.2.1, .int .i64 k.2.2]
def ok3 (k : K3) : Prop := i64ok k.1 ∧ i64ok k.2.1 ∧ i64ok k.2.2
theorem encK_inj {a b : K3} (h : encK a = encK b) : a = b := by
  obtain ⟨a1, a2, a3⟩ := a
  obtain ⟨b1, b2, b3⟩ := b
  simp [encK] at h
  simp [h]

theorem wpList_next_seq {P : Program} {w : World} {ib r : Nat} {m left : List (K3 × Value)} {ops : Array Oper} {rest : List Oper} {o : Oper} {a : Act} {Q : Exit → Act → World → Prop} (hg : o.guard = none) (x : Operand) (hop : o.op = Op.next x false) (hx : a.eval x = .pointer (some ⟨ib, 0, none⟩)) (h : IterAt encK w ib r m left)
    (hD : left = [] → wpList P ops Q rest (a.put o.dst (.tuple #[.bool false])) w)
    (hM : ∀ i x1 x2 x3 v w', left[i]? = some ((x1, x2, x3), v) → IterAt encK w' ib r m (left.eraseIdx i) → w.grownBy w' (some ib) → w'.heap.size = w.heap.size →
      (Instr.entry (.pointer (some ⟨ib, 0, none⟩))).run P w' = .ok (.tuple #[.agg #[.int .i64 x1, .int .i64 x2, .int .i64 x3], v]) w' → wpList P ops Q rest (a.put o.dst (.tuple #[.bool true, .agg #[.int .i64 x1, .int .i64 x2, .int .i64 x3], v])) w') : wpList P ops Q (o :: rest) a w :=
  wpList_next_at hg x hop hx h hD fun i k v w' => hM i k.1 k.2.1 k.2.2 v w'

theorem law_seq : Keyed Tryz.prog 93 := Keyed.of_law (deep_law_laid laidOut (m := 3) (by omega) (of_decide_eq_true (by kernel_rfl)) (by kernel_rfl) (by kernel_rfl))
theorem law_blk : Keyed Tryz.prog 201 := Keyed.of_law (deep_law_laid laidOut (m := 3) (by omega) (of_decide_eq_true (by kernel_rfl)) (by kernel_rfl) (by kernel_rfl))
theorem kl_seq : KL Tryz.prog 93 encK ok3 :=
  KL.of_keyed law_seq (fun k hk => by
    obtain ⟨a, b, c⟩ := k
    exact keyOf_arr (q := .i64) (n := 3) (e := 3) (by kernel_rfl) (by kernel_rfl) (by kernel_rfl) (by kernel_rfl) (by kernel_rfl) (of_decide_eq_true (by kernel_rfl)) [a, b, c] rfl (by
      intro x hx
      simp at hx
      rcases hx with rfl | rfl | rfl
      · exact hk.1.wf
      · exact hk.2.1.wf
      · exact hk.2.2.wf)) (fun _ _ h => encK_inj h)

theorem map_inj {α β : Type} {f : α → β} (hf : ∀ x y, f x = f y → x = y) : ∀ {a b : List α}, a.map f = b.map f → a = b
  | [], [], _ => rfl
  | [], _ :: _, h => by simp at h
  | _ :: _, [], h => by simp at h
  | x :: a, y :: b, h => by
    simp only [List.map_cons, List.cons.injEq] at h
    rw [hf _ _ h.1, map_inj hf h.2]

/-- A block of a trie: 64 numbers. -/
def encB (l : List Int) : Value := .agg (l.map (Value.int .i32)).toArray
def okB (l : List Int) : Prop := l.length = 64 ∧ ∀ x ∈ l, i32ok x
theorem encB_inj {a b : List Int} (h : encB a = encB b) : a = b := by
  simp only [encB, Value.agg.injEq] at h
  have h2 : a.map (Value.int .i32) = b.map (Value.int .i32) := by simpa using h
  exact map_inj (fun x y h => by cases h; rfl) h2
theorem kl_blk : KL Tryz.prog 201 encB okB :=
  KL.of_keyed law_blk (fun k hk => keyOf_arr (q := .i32) (n := 64) (e := 21) (by kernel_rfl) (by kernel_rfl) (by kernel_rfl) (by kernel_rfl) (by kernel_rfl) (of_decide_eq_true (by kernel_rfl)) k hk.1 (fun x hx => (hk.2 x hx).wf)) (fun _ _ h => encB_inj h)
end Go.Proofs.YtccdkchmeelkfaaGreatDoor

/- (S0) Tables as lists: what the program's table functions answer, in plain words. No memory. -/
namespace Go.Proofs.YtccdkchmeelkfaaGreatDoor

/-- Entries: signs that stand together, and their elements. -/
abbrev Tab (ε : Type) := List (List Int × List ε)

def okKey (k : List Int) : Prop := 1 ≤ k.length ∧ k.length ≤ 3 ∧ ∀ c ∈ k, isSign c = true
instance (k : List Int) : Decidable (okKey k) := by unfold okKey; infer_instance
def k3 (k : List Int) : K3 := ((k[0]?.map (· + 1)).getD 0, (k[1]?.map (· + 1)).getD 0, (k[2]?.map (· + 1)).getD 0)

theorem isSign_bd {c : Int} (h : isSign c = true) : 0 ≤ c ∧ c ≤ 1114367 := by unfold isSign at h; simp at h; omega

theorem k3_ok {k : List Int} (h : okKey k) : ok3 (k3 k) := by
  obtain ⟨h1, h2, h3⟩ := h
  have b : ∀ c ∈ k, 0 ≤ c ∧ c ≤ 1114367 := fun c hc => isSign_bd (h3 c hc)
  have g : ∀ i : Nat, i64ok ((k[i]?.map (· + 1)).getD 0) := by
    intro i
    cases hk : k[i]? with
    | none => simp [i64ok]
    | some c => have := b c (List.mem_of_getElem? hk); simp [i64ok]; omega
  exact ⟨g 0, g 1, g 2⟩

theorem k3_inj {a b : List Int} (ha : okKey a) (hb : okKey b) (h : k3 a = k3 b) : a = b := by
  have ba : ∀ c ∈ a, 0 ≤ c := fun c hc => (isSign_bd (ha.2.2 c hc)).1
  have bb : ∀ c ∈ b, 0 ≤ c := fun c hc => (isSign_bd (hb.2.2 c hc)).1
  obtain ⟨ha1, ha2, _⟩ := ha
  obtain ⟨hb1, hb2, _⟩ := hb
  match a, b, ha1, ha2, hb1, hb2, ba, bb, h with
  | [x], [y], _, _, _, _, _, _, h => simp [k3] at h; simp; omega
  | [x], [y, z], _, _, _, _, _, bb, h => simp [k3] at h; simp at bb; omega
  | [x], [y, z, u], _, _, _, _, _, bb, h => simp [k3] at h; simp at bb; omega
  | [x, v], [y], _, _, _, _, ba, _, h => simp [k3] at h; simp at ba; omega
  | [x, v], [y, z], _, _, _, _, _, _, h => simp [k3] at h; simp; omega
  | [x, v], [y, z, u], _, _, _, _, _, bb, h => simp [k3] at h; simp at bb; omega
  | [x, v, s], [y], _, _, _, _, ba, _, h => simp [k3] at h; simp at ba; omega
  | [x, v, s], [y, z], _, _, _, _, ba, _, h => simp [k3] at h; simp at ba; omega
  | [x, v, s], [y, z, u], _, _, _, _, _, _, h => simp [k3] at h; simp; omega

/-- The elements of a sign that is no entry. -/
def implW (c : Int) : List Nat := if isSign c then [mkw (64256 + c.toNat / 32768) 32 2 false, mkw (32768 + c.toNat % 32768) 32 2 false] else []

section
variable {ε : Type}
/-- The longest entry of at most n signs with which s begins. -/
def tryS (T : Tab ε) (s : List Int) : Nat → Option (List ε × Nat)
  | 0 => none
  | n + 1 => match alook T (s.take (n + 1)) with
    | some l => some (l, n + 1)
    | none => tryS T s n
/-- An entry's elements, or a sign's: those of the signs' begin, and how many signs. -/
def atS (imp : Int → List ε) (T : Tab ε) (s : List Int) : List ε × Nat := match s with
  | [] => ([], 0)
  | c :: _ => (tryS T s (min 3 s.length)).getD (imp c, 1)
def ofN (imp : Int → List ε) (T : Tab ε) : Nat → List Int → List ε
  | 0, _ => []
  | n + 1, s => if s = [] then [] else (atS imp T s).1 ++ ofN imp T n (s.drop (atS imp T s).2)
/-- The elements of signs. -/
def ofS (imp : Int → List ε) (T : Tab ε) (s : List Int) : List ε := ofN imp T s.length s

theorem tryS_pos {T : Tab ε} {s : List Int} : ∀ {n : Nat} {r : List ε × Nat}, tryS T s n = some r → 1 ≤ r.2 ∧ r.2 ≤ n
  | 0, _, h => by simp [tryS] at h
  | n + 1, r, h => by
    unfold tryS at h
    split at h
    · cases h; simp
    · have := tryS_pos h; omega
theorem atS_pos (imp : Int → List ε) (T : Tab ε) {s : List Int} (h : s ≠ []) : 1 ≤ (atS imp T s).2 ∧ (atS imp T s).2 ≤ s.length := by
  cases s with
  | nil => exact absurd rfl h
  | cons c r =>
    unfold atS
    simp only
    cases hr : tryS T (c :: r) (min 3 (c :: r).length) with
    | none => simp
    | some x => have := tryS_pos hr; simp at this ⊢; omega
theorem ofN_of_le (imp : Int → List ε) (T : Tab ε) : ∀ (n m : Nat) (s : List Int), s.length ≤ n → s.length ≤ m → ofN imp T n s = ofN imp T m s
  | 0, m, s, hn, _ => by
    have : s = [] := List.eq_nil_of_length_eq_zero (by omega)
    subst this; cases m <;> simp [ofN]
  | n + 1, 0, s, _, hm => by
    have : s = [] := List.eq_nil_of_length_eq_zero (by omega)
    subst this; simp [ofN]
  | n + 1, m + 1, s, hn, hm => by
    unfold ofN
    split
    · rfl
    · rename_i h
      have := atS_pos imp T h
      rw [ofN_of_le imp T n m _ (by rw [List.length_drop]; omega) (by rw [List.length_drop]; omega)]
theorem ofS_nil (imp : Int → List ε) (T : Tab ε) : ofS imp T [] = [] := rfl
theorem ofS_cons (imp : Int → List ε) (T : Tab ε) {s : List Int} (h : s ≠ []) : ofS imp T s = (atS imp T s).1 ++ ofS imp T (s.drop (atS imp T s).2) := by
  have := atS_pos imp T h
  obtain ⟨n, hn⟩ : ∃ n, s.length = n + 1 := ⟨s.length - 1, by omega⟩
  unfold ofS
  rw [hn, ofN, if_neg h, ofN_of_le imp T n _ _ (by rw [List.length_drop]; omega) (Nat.le_refl _)]

/-- How long the longest entry is that begins with a sign. -/
def longS (T : Tab ε) (c : Int) : Nat := (T.filter fun e => e.1.head? == some c).foldl (fun n e => max n e.1.length) 0
end
end Go.Proofs.YtccdkchmeelkfaaGreatDoor

/- (M4) Tries and tables in memory. -/
namespace Go.Proofs.YtccdkchmeelkfaaGreatDoor
open Go.RowKit

/-- A trie in memory whose Get is f. -/
def TrieAt (w : World) (p : Value) (f : Int → Nat) : Prop :=
  ∃ tb bv n bs mb, ∃ m : List (Int × Value), p = .pointer (some ⟨tb, 0, none⟩) ∧ tb < w.heap.size ∧ w.cell? ⟨tb, 0, none⟩ = some bv ∧ w.cell? ⟨tb, 1, none⟩ = some (.map (some mb)) ∧ n ≤ 100000 ∧ Sl w 64 bv n bs ∧
    MapAt (Value.int .i64) w mb m ∧ (m.map (·.1)).Nodup ∧ (∀ q ∈ m, i64ok q.1) ∧
    (∀ i v, alook m i = some v → ∃ k : Nat, k < n ∧ v = .int .i64 k ∧ ∀ j : Nat, j < 64 → 0 ≤ i ∧ bs[k * 64 + j]? = some (.int .i32 (f (i * 64 + j) : Nat))) ∧
    (∀ c, (c < 0 ∨ 1114367 < c ∨ alook m (c / 64) = none) → f c = 0) ∧ ∀ c, f c ≤ 3

theorem TrieAt.below {w w' : World} {p : Value} {f : Int → Nat} (h : TrieAt w p f) (hb : Below w.heap.size w w') : TrieAt w' p f := by
  obtain ⟨tb, bv, n, bs, mb, m, h1, h2, h3, h4, h5, h6, h7, h8⟩ := h
  exact ⟨tb, bv, n, bs, mb, m, h1, Nat.lt_of_lt_of_le h2 hb.size, (hb.cell (p := ⟨tb, 0, none⟩) h2).trans h3, (hb.cell (p := ⟨tb, 1, none⟩) h2).trans h4, h5, h6.below hb, h7.below hb, h8⟩

/-- A map in memory that holds just these entries. -/
def EntsAt (w : World) (mb : Nat) (T : Tab Nat) : Prop :=
  ∃ m : List (K3 × Value), MapAt encK w mb m ∧ m.map (·.1) = T.map (fun e => k3 e.1) ∧ ∀ (i : Nat) (q : K3 × Value) (e : List Int × List Nat), m[i]? = some q → T[i]? = some e → SlE w q.2 e.2

/-- Keys are keys, none twice; not too many. -/
def okTab {ε : Type} (T : Tab ε) : Prop := (∀ e ∈ T, okKey e.1) ∧ (T.map (·.1)).Nodup ∧ T.length ≤ 500 ∧ ∀ e ∈ T, e.2.length ≤ 8

/-- A table in memory: its entries are those of T, in whatever order. -/
def TableAt (w : World) (p : Value) (T : Tab Nat) : Prop :=
  ∃ tb mb tp T', p = .pointer (some ⟨tb, 0, none⟩) ∧ tb < w.heap.size ∧ w.cell? ⟨tb, 0, none⟩ = some (.map (some mb)) ∧ w.cell? ⟨tb, 1, none⟩ = some tp ∧ TrieAt w tp (longS T) ∧ EntsAt w mb T' ∧ T'.Perm T ∧ okTab T

theorem EntsAt.below {w w' : World} {mb : Nat} {T : Tab Nat} (h : EntsAt w mb T) (hb : Below w.heap.size w w') : EntsAt w' mb T := by
  obtain ⟨m, h1, h2, h3⟩ := h
  exact ⟨m, h1.below hb, h2, fun i q e hq he => (h3 i q e hq he).below hb⟩
theorem TableAt.below {w w' : World} {p : Value} {T : Tab Nat} (h : TableAt w p T) (hb : Below w.heap.size w w') : TableAt w' p T := by
  obtain ⟨tb, mb, tp, T', h1, h2, h3, h4, h5, h6, h7, h8⟩ := h
  exact ⟨tb, mb, tp, T', h1, Nat.lt_of_lt_of_le h2 hb.size, (hb.cell (p := ⟨tb, 0, none⟩) h2).trans h3, (hb.cell (p := ⟨tb, 1, none⟩) h2).trans h4, h5.below hb, h6.below hb, h7, h8⟩

theorem k3_map_nodup {ε : Type} {T : Tab ε} (hk : ∀ e ∈ T, okKey e.1) (hn : (T.map (·.1)).Nodup) : (T.map fun e => k3 e.1).Nodup := by
  induction T with
  | nil => simp
  | cons e r ih =>
    rw [List.map_cons, List.nodup_cons] at hn ⊢
    refine ⟨fun hm => hn.1 ?_, ih (fun x hx => hk x (by simp [hx])) hn.2⟩
    obtain ⟨x, hx, e1⟩ := List.mem_map.1 hm
    rw [← k3_inj (hk x (by simp [hx])) (hk e (by simp)) e1]
    exact List.mem_map.2 ⟨x, hx, rfl⟩

section
variable {ε : Type}
theorem alook_perm {α β : Type} [DecidableEq α] {m m' : List (α × β)} (hp : m.Perm m') (hn : (m.map (·.1)).Nodup) (k : α) : alook m k = alook m' k := by
  induction hp with
  | nil => rfl
  | cons x _ ih => rw [List.map_cons, List.nodup_cons] at hn; rw [alook, alook, ih hn.2]
  | swap x y l =>
    rw [List.map_cons, List.map_cons, List.nodup_cons, List.mem_cons, not_or] at hn
    rw [alook, alook, alook, alook]
    by_cases h1 : x.1 = k
    · have : y.1 ≠ k := fun h2 => hn.1.1 (by rw [h1, h2])
      simp [h1, this]
    · simp [h1]
  | trans h1 _ ih1 ih2 => rw [ih1 hn, ih2 ((h1.map _).nodup_iff.1 hn)]

/-- Looking up in memory and in the list. -/
theorem ents_look {w : World} {T : Tab Nat} {m : List (K3 × Value)} (h2 : m.map (·.1) = T.map (fun e => k3 e.1)) (h3 : ∀ (i : Nat) (q : K3 × Value) (e : List Int × List Nat), m[i]? = some q → T[i]? = some e → SlE w q.2 e.2) (hk : ∀ e ∈ T, okKey e.1) {k : List Int} (hok : okKey k) :
    (alook T k = none ∧ alook m (k3 k) = none) ∨ ∃ l v, alook T k = some l ∧ alook m (k3 k) = some v ∧ SlE w v l := by
  induction m generalizing T with
  | nil =>
    cases T with
    | nil => exact .inl ⟨rfl, rfl⟩
    | cons e r => simp at h2
  | cons q r ih =>
    cases T with
    | nil => simp at h2
    | cons e s =>
      simp only [List.map_cons, List.cons.injEq] at h2
      by_cases he : e.1 = k
      · refine .inr ⟨e.2, q.2, by rw [alook, if_pos he], by rw [alook, if_pos (by rw [h2.1, he])], h3 0 q e rfl rfl⟩
      · have hq : q.1 ≠ k3 k := fun h => he (k3_inj (hk e (by simp)) hok (by rw [← h2.1, h]))
        rw [alook, alook, if_neg he, if_neg hq]
        exact ih h2.2 (fun i q' e' hq' he' => h3 (i + 1) q' e' hq' he') (fun x hx => hk x (by simp [hx]))
end
end Go.Proofs.YtccdkchmeelkfaaGreatDoor

/- (S1) Laws on tables as lists. No memory. -/
namespace Go.Proofs.YtccdkchmeelkfaaGreatDoor

section
variable {ε : Type}
theorem foldl_max_le {α : Type} (f : α → Nat) : ∀ (l : List α) (n : Nat) (b : Nat), n ≤ b → (∀ x ∈ l, f x ≤ b) → l.foldl (fun n x => max n (f x)) n ≤ b
  | [], n, b, h, _ => h
  | x :: r, n, b, h, hx => foldl_max_le f r _ b (Nat.max_le.2 ⟨h, hx x (by simp)⟩) (fun y hy => hx y (by simp [hy]))
theorem le_foldl_max {α : Type} (f : α → Nat) : ∀ (l : List α) (n : Nat), n ≤ l.foldl (fun n x => max n (f x)) n ∧ ∀ x ∈ l, f x ≤ l.foldl (fun n x => max n (f x)) n
  | [], n => ⟨Nat.le_refl _, by simp⟩
  | x :: r, n => by
    have h := le_foldl_max f r (max n (f x))
    refine ⟨Nat.le_trans (Nat.le_max_left _ _) h.1, fun y hy => ?_⟩
    rcases List.mem_cons.1 hy with rfl | hy
    · exact Nat.le_trans (Nat.le_max_right _ _) h.1
    · exact h.2 y hy

theorem longS_le {T : Tab ε} (h : okTab T) (c : Int) : longS T c ≤ 3 :=
  foldl_max_le _ _ _ _ (by omega) (fun e he => (h.1 e (List.mem_filter.1 he).1).2.1)
theorem le_longS {T : Tab ε} {e : List Int × List ε} (he : e ∈ T) {c : Int} (hc : e.1.head? = some c) : e.1.length ≤ longS T c :=
  (le_foldl_max (fun e : List Int × List ε => e.1.length) (T.filter fun e => e.1.head? == some c) 0).2 e (List.mem_filter.2 ⟨he, by simp [hc]⟩)

/-- Beyond the longest entry there is none. -/
theorem tryS_long {T : Tab ε} (h : okTab T) {c : Int} {r : List Int} : tryS T (c :: r) (min 3 (c :: r).length) = tryS T (c :: r) (min (longS T c) (c :: r).length) := by
  have key : ∀ n, longS T c ≤ n → n ≤ (c :: r).length → tryS T (c :: r) n = tryS T (c :: r) (longS T c) := by
    intro n
    induction n with
    | zero => intro h1 _; rw [show longS T c = 0 by omega]
    | succ n ih =>
      intro h1 h2
      by_cases he : longS T c = n + 1
      · rw [he]
      · rw [tryS]
        have : alook T ((c :: r).take (n + 1)) = none := by
          cases ha : alook T ((c :: r).take (n + 1)) with
          | none => rfl
          | some l =>
            have := le_longS (alook_mem ha) (c := c) (by simp)
            rw [List.length_take] at this; omega
        rw [this]
        exact ih (by omega) (by omega)
  have hl := longS_le h c
  by_cases hle : longS T c ≤ (c :: r).length
  · rw [key (min 3 (c :: r).length) (by omega) (by omega), show min (longS T c) (c :: r).length = longS T c by omega]
  · rw [show min 3 (c :: r).length = min (longS T c) (c :: r).length by omega]
end
end Go.Proofs.YtccdkchmeelkfaaGreatDoor

/- (D1) Words of tailoring: what is sound, raised, there. No memory. -/
namespace Go.Proofs.YtccdkchmeelkfaaGreatDoor

/-- An element that no sound table holds. -/
def badW (x : Nat) : Bool := !okw x || decide (64256 ≤ wt 1 x)
/-- An element whose weight of a level, above p, is one more. -/
def upW (l : Int) (p : Nat) (x : Nat) : Nat := if p < wt l x ∧ (1 < l ∨ wt l x ≤ 64255) then setw l x (wt l x + 1) else x
/-- Is an entry sound? -/
def soundE (T : Tab Nat) (e : List Int × List Nat) : Bool := ((List.range e.1.length).all fun n => n == 0 || (alook T (e.1.take n)).isSome) && !e.2.any badW
/-- What is wrong with a table: 0, or 3. -/
def checkS (T : Tab Nat) : Int := if T.all (soundE T) then 0 else 3
/-- Has an element of a table this weight? -/
def hasS (T : Tab Nat) (l m : Int) : Bool := T.any fun e => e.2.any fun x => (wt l x : Int) == m
end Go.Proofs.YtccdkchmeelkfaaGreatDoor
