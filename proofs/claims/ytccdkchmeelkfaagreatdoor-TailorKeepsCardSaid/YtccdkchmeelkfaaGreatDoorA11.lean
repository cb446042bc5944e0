/- Texts: their signs, and signs put into a text. -/
import Derived.Test.YtccdkchmeelkfaaGreatDoorL0
import Derived.Test.YtccdkchmeelkfaaGreatDoorA5
import Derived.Test.YtccdkchmeelkfaaGreatDoorA2
import Derived.WalkSpells
import Derived.Lib.SlBytesRow

/- (U1) The signs of a text: utext.sign, Signs. -/
namespace Go.Proofs.YtccdkchmeelkfaaGreatDoor
open Go.RowKit

/-- Go's tables of bytes that begin a sign lie where the program's start laid them. -/
def U8 (w : World) : Prop := Lib.Utf8Tabs 0 1 w ∧ 2 ≤ w.heap.size
theorem U8.below {w w' : World} (h : U8 w) (hb : Below w.heap.size w w') : U8 w' := by
  obtain ⟨⟨h1, h2⟩, h3⟩ := h
  refine ⟨⟨fun c hc => ?_, fun i hi => ⟨?_, ?_⟩⟩, Nat.le_trans h3 hb.size⟩
  · exact (hb.cell (p := ⟨_, c, none⟩) (Nat.lt_of_lt_of_le (show (0 : Nat) < 2 by decide) h3)).trans (h1 c hc)
  · exact (hb.cell (p := ⟨_, 2 * i, none⟩) (Nat.lt_of_lt_of_le (show (1 : Nat) < 2 by decide) h3)).trans (h2 i hi).1
  · exact (hb.cell (p := ⟨_, 2 * i + 1, none⟩) (Nat.lt_of_lt_of_le (show (1 : Nat) < 2 by decide) h3)).trans (h2 i hi).2
theorem U8.grown {w w' : World} {row : Option Nat} (h : U8 w) (hg : w.grownBy w' row) (hr : ∀ k, row = some k → 2 ≤ k) : U8 w' := by
  have hb : Below 2 w w' := ⟨hg.os, hg.tape, hg.output, hg.size, fun k hk => hg.block k (Nat.lt_of_lt_of_le hk h.2) (fun e => by have := hr k e.symm; omega)⟩
  obtain ⟨⟨h1, h2⟩, h3⟩ := h
  refine ⟨⟨fun c hc => ?_, fun i hi => ⟨?_, ?_⟩⟩, Nat.le_trans h3 hg.size⟩
  · exact (hb.cell (p := ⟨_, c, none⟩) (show (0 : Nat) < 2 by decide)).trans (h1 c hc)
  · exact (hb.cell (p := ⟨_, 2 * i, none⟩) (show (1 : Nat) < 2 by decide)).trans (h2 i hi).1
  · exact (hb.cell (p := ⟨_, 2 * i + 1, none⟩) (show (1 : Nat) < 2 by decide)).trans (h2 i hi).2

theorem decode_any (s : ByteArray) (w : World) (hs : 0 < s.size) (hT : U8 w) :
    Calls Tryz.prog 163 #[.string s] w fun e w' => e = .returned (.tuple #[.int .i32 (Lib.decodeL s.data.toList).1, .int .i64 (Lib.decodeL s.data.toList).2]) ∧ Below w.heap.size w w' := by
  have h := Any.utf8_DecodeRuneInString Tryz.lays197 s w hT.1
  have e : Lib.decodeGo s = Lib.decodeL s.data.toList := by unfold Lib.decodeGo Lib.decodeL; rw [if_neg (by omega)]
  rw [e] at h
  exact h

set_option maxRecDepth 100000 in
set_option maxHeartbeats 2000000 in
theorem csign_any (s : ByteArray) (w : World) (hs : 0 < s.size) (hT : U8 w) :
    Calls Tryz.prog 127 #[.string s] w fun e w' => e = .returned (.tuple #[.int .i64 (signL s.data.toList).1, .int .i64 (signL s.data.toList).2]) ∧ Below w.heap.size w w' := by
  have hd := decode_any s w hs hT
  have hr := decodeL_rune s.data.toList
  have hne : s.data.toList ≠ [] := by intro h; rw [Lib.size_eq, h] at hs; simp at hs
  have hp := decodeL_pos hne
  have hlen : s.data.toList.length = s.size := (Lib.size_eq s).symm
  obtain ⟨x0, hx0⟩ : ∃ x0, s[0]'hs = x0 := ⟨_, rfl⟩
  have hg : s.data.toList.getD 0 0 = x0 := by
    rw [← hx0, List.getD_eq_getElem?_getD]
    have : s.data.toList[0]? = some (s[0]'hs) := by
      rw [List.getElem?_eq_getElem (by rw [hlen]; exact hs)]; rfl
    rw [this]; rfl
  have hxb := UInt8.toNat_lt x0
  unfold signL
  rw [hg]
  obtain ⟨r, hr1⟩ : ∃ r, (Lib.decodeL s.data.toList).1 = r := ⟨_, rfl⟩
  obtain ⟨k, hk⟩ : ∃ k, (Lib.decodeL s.data.toList).2 = k := ⟨_, rfl⟩
  rw [hr1, hk] at hd
  rw [hr1] at hr
  rw [hk] at hp
  rw [hr1, hk]
  have hr9 : r ≤ 1114111 := by omega
  have hk9 : k ≤ s.size := by omega
  clear hg hr hp hne hr1 hk hlen
  by_cases hc : r = 65533 ∧ k = 1
  · rw [if_pos hc]
    obtain ⟨rfl, rfl⟩ := hc
    go_enter Tryz.func127, Tryz.ntmps127
    go_wp2_with fail
    refine hd.mono ?_
    rintro e w1 ⟨rfl, hb⟩
    go_wp2_with fail
    go_ret2
    exact ⟨rfl, hb⟩
  · rw [if_neg hc]
    by_cases hr : r = 65533
    · subst hr
      have hk1 : ((k : Int) == 1) = false := by simp; omega
      clear hc
      go_enter Tryz.func127, Tryz.ntmps127
      go_wp2_with fail
      refine hd.mono ?_
      rintro e w1 ⟨rfl, hb⟩
      go_wp2_with fail
      go_ret2
      exact ⟨rfl, hb⟩
    · have hr1 : ((r : Int) == 65533) = false := by simp; omega
      clear hc hr
      go_enter Tryz.func127, Tryz.ntmps127
      go_wp2_with fail
      refine hd.mono ?_
      rintro e w1 ⟨rfl, hb⟩
      go_wp2_with fail
      go_ret2
      exact ⟨rfl, hb⟩

set_option maxRecDepth 100000 in
set_option maxHeartbeats 2000000 in
/-- Signs: a text's. -/
theorem csigns_any (s : ByteArray) (w : World) (hs : s.size ≤ 1000000) (hT : U8 w) :
    Calls Tryz.prog 86 #[.string s] w fun e w' => ∃ v, e = .returned v ∧ BlkI w' w.heap.size v (signsT s.data.toList) ∧ Below w.heap.size w w' := by
  obtain ⟨ii, hi, hz0, hz1, hz2⟩ := info_parts infoInt
  have HT := Lib.hid hT
  clear hT
  go_enter Tryz.func86, Tryz.ntmps86
  go_wp2_with fail
  go_loopg [0, 3] s.size (fun gg b o wr => ∃ (b' : ByteArray) (out : List Int), b = .string b' ∧ wr.ownsRow w.heap.size 3 1 o out.length (cellsI out) ∧ Below w.heap.size w wr ∧ b'.size ≤ gg ∧ b'.size ≤ 1000000 ∧ out.length + b'.size ≤ s.size ∧ Hid (signsT s.data.toList = out ++ signsT b'.data.toList))
  case atStart => exact ⟨s, [], rfl, World.ownsRow_nil _ _ _ _, Below.refl _ _, Nat.le_refl _, hs, by simp, Lib.hid rfl⟩
  case round =>
    obtain ⟨b', out, rfl, hown, hnx, hgg, hb6, hob, hI⟩ := hrel
    obtain ⟨oa, oc, rfl, hocn, hon⟩ := owns_slice hown
    clear hon
    have hws := hnx.size
    by_cases h0 : 0 < b'.size
    · have hsg := csign_any b' wr h0 (HT.out.below hnx)
      have hne : b'.data.toList ≠ [] := by intro h; rw [Lib.size_eq, h] at h0; simp at h0
      have hp := signL_pos hne
      have hbd := signL_bd b'.data.toList
      have hcs := signsT_cons hne
      rw [← Lib.size_eq] at hp
      obtain ⟨k, hk⟩ : ∃ k, (signL b'.data.toList).2 = k := ⟨_, rfl⟩
      obtain ⟨c, hc⟩ : ∃ c, (signL b'.data.toList).1 = c := ⟨_, rfl⟩
      rw [hk] at hp
      rw [hc] at hbd
      rw [hk, hc] at hsg hcs
      obtain ⟨hk1, hk2⟩ := hp
      obtain ⟨hc1, hc2⟩ := hbd
      rw [← Lib.extract_to_end] at hcs
      have hsz : (b'.extract k b'.size).size = b'.size - k := by simp [ByteArray.size_extract]
      have HC := Lib.hid (And.intro hcs hsz)
      clear hcs hsz hne hk hc
      go_wp2_with fail
      refine hsg.mono ?_
      rintro e w1 ⟨rfl, hb⟩
      have hown1 := owns_below hown hb
      have hnx1 := Below.next hnx hb
      have hsz1 := hnx1.size
      clear hown hb hnx hsg
      go_wp2_with (at_builtin; refine wpList_append_sl rfl _ _ 22 rfl w.heap.size 3 ii (.int .i64 0) 1 8 Tryz.underlying22 hi hz0 hz1 hz2 rfl (by decide) _ _ _ rfl (owns_below hown1 ((Below.refl _ _).alloc (Nat.le_refl _) _)) _ 1 [.int .i64 c] rfl (SlNew1 _ _ _ _ (by simp)) (by intro u hu; simp at hu; subst hu; rfl) (by unfold maxLen; omega) (by omega) (by simp; omega) ?_; intro v6 w6 hown6 hg6)
      have b1 := (Below.refl w1.heap.size w1).alloc (Nat.le_refl _) (.cells #[.int .i64 c] 3)
      have hnx6 := below_grown (Below.next hnx1 b1) (owns_below hown1 b1) hg6
      have hown7 : w6.ownsRow w.heap.size 3 1 v6 (out ++ [c]).length (cellsI (out ++ [c])) := by rw [cellsI_append, List.length_append]; exact hown6
      clear hown1 hown6 hg6 b1 hnx1
      go_roundg (b'.size - k)
      case measure => omega
      case rel => exact ⟨b'.extract k b'.size, out ++ [c], rfl, hown7, hnx6, by rw [HC.out.2]; omega, by rw [HC.out.2]; omega, by rw [HC.out.2, List.length_append, List.length_singleton]; omega, Lib.hid (by rw [hI.out, HC.out.1]; simp)⟩
    · have he : b'.data.toList = [] := List.eq_nil_of_length_eq_zero (by rw [← Lib.size_eq]; omega)
      have hb := BlkI.own rfl hown
      have hfin : signsT s.data.toList = out := by rw [hI.out, he, signsT_nil, List.append_nil]
      have H := Lib.hid (And.intro hb hfin)
      have hn0 : decide (0 < b'.size) = false := by simpa using h0
      clear hb hfin he hown h0
      go_wp2_with (go_at_call 125; refine (clipI_any _ _ _ _ hocn (by omega)).mono ?_; rintro e' w' ⟨rfl, rfl⟩)
      go_ret
      exact ⟨_, rfl, by rw [H.out.2]; exact H.out.1.clip, hnx⟩
end Go.Proofs.YtccdkchmeelkfaaGreatDoor

/- (U2) Signs as bytes: utext.put, Put. -/
namespace Go.Proofs.YtccdkchmeelkfaaGreatDoor
open Go.RowKit

/-- A sign's bytes. -/
def putI (c : Int) : List Int :=
  if 1114112 ≤ c then [c % 256] else if c < 128 then [c] else if c < 2048 then [192 + c / 64, 128 + c % 64]
  else if c < 65536 then [224 + c / 4096, 128 + c / 64 % 64, 128 + c % 64]
  else [240 + c / 262144, 128 + c / 4096 % 64, 128 + c / 64 % 64, 128 + c % 64]
def cellsU (l : List Int) : List Value := l.map (Value.int .u8)
theorem cellsU_append (a b : List Int) : cellsU (a ++ b) = cellsU a ++ cellsU b := by simp [cellsU]
theorem putI_len (c : Int) : (putI c).length = putLen c := by
  unfold putI putLen
  repeat' split
  all_goals first | rfl | omega

theorem infoU8 : (Tryz.prog.info? 5).map (fun i => (i.zero, i.size, i.bytes)) = some (some (.int .u8 0), 1, 1) := by kernel_rfl
set_option maxRecDepth 100000 in
set_option maxHeartbeats 4000000 in
theorem put_any (w : World) (base : Nat) (v : Value) (n : Nat) (xs : List Value) (hown : w.ownsRow base 5 1 v n xs) (hb : base ≤ w.heap.size) (hn : n ≤ 100000000) (c : Int) (h0 : 0 ≤ c) (h1 : c ≤ 1114367) :
    Calls Tryz.prog 128 #[v, .int .i64 c] w fun e w' => ∃ v', e = .returned v' ∧ w'.ownsRow base 5 1 v' (n + (putI c).length) (xs ++ cellsU (putI c)) ∧ (∀ w0, Below base w0 w → Below base w0 w') := by
  obtain ⟨ii, hi, hz0, hz1, hz2⟩ := info_parts infoU8
  obtain ⟨a, cc, rfl, hnc, hon⟩ := owns_slice hown
  clear hon
  by_cases hc1 : 1114112 ≤ c
  · have hd1 : decide (1114112 ≤ c) = true := by simpa using hc1
    have HP := Lib.hid (show putI c = [c % 256] by unfold putI; rw [if_pos hc1])
    go_enter Tryz.func128, Tryz.ntmps128
    go_wp2_with (at_builtin; refine wpList_append_sl rfl _ _ 24 rfl base 5 ii (.int .u8 0) 1 1 Tryz.underlying24 hi hz0 hz1 hz2 rfl (by decide) _ _ _ rfl (owns_below hown ((Below.refl _ _).alloc (Nat.le_refl _) _)) _ _ _ rfl (Sl.new w _ _ _ (by simp)) (by intro u hu; simp only [List.mem_cons, List.not_mem_nil, or_false] at hu; subst hu; rfl) (by simp; unfold maxLen; omega) (by simp; omega) (by simp; omega) ?_; intro v6 w6 hown6 hg6)
    go_ret
    refine ⟨v6, rfl, ?_, fun w0 hb0 => ((hb0.alloc hb _).grown hg6 (by simp; omega) (fun k hk => (hown.lt k hk).1))⟩
    rw [HP.out]
    exact hown6
  have hc1' : decide (1114112 ≤ c) = false := by simpa using hc1
  by_cases hc2 : c < 128
  · have HP := Lib.hid (show putI c = [c] by unfold putI; rw [if_neg hc1, if_pos hc2])
    go_enter Tryz.func128, Tryz.ntmps128
    go_wp2_with (at_builtin; refine wpList_append_sl rfl _ _ 24 rfl base 5 ii (.int .u8 0) 1 1 Tryz.underlying24 hi hz0 hz1 hz2 rfl (by decide) _ _ _ rfl (owns_below hown ((Below.refl _ _).alloc (Nat.le_refl _) _)) _ _ _ rfl (Sl.new w _ _ _ (by simp)) (by intro u hu; simp only [List.mem_cons, List.not_mem_nil, or_false] at hu; subst hu; rfl) (by simp; unfold maxLen; omega) (by simp; omega) (by simp; omega) ?_; intro v6 w6 hown6 hg6)
    go_ret
    refine ⟨v6, rfl, ?_, fun w0 hb0 => ((hb0.alloc hb _).grown hg6 (by simp; omega) (fun k hk => (hown.lt k hk).1))⟩
    rw [HP.out]
    exact hown6
  have hc2' : decide (c < 128) = false := by simpa using hc2
  by_cases hc3 : c < 2048
  · have HP := Lib.hid (show putI c = [192 + c / 64, 128 + c % 64] by unfold putI; rw [if_neg hc1, if_neg hc2, if_pos hc3])
    go_enter Tryz.func128, Tryz.ntmps128
    go_wp2_with (at_builtin; refine wpList_append_sl rfl _ _ 24 rfl base 5 ii (.int .u8 0) 1 1 Tryz.underlying24 hi hz0 hz1 hz2 rfl (by decide) _ _ _ rfl (owns_below hown ((Below.refl _ _).alloc (Nat.le_refl _) _)) _ _ _ rfl (Sl.new w _ _ _ (by simp)) (by intro u hu; simp only [List.mem_cons, List.not_mem_nil, or_false] at hu; rcases hu with rfl | rfl <;> rfl) (by simp; unfold maxLen; omega) (by simp; omega) (by simp; omega) ?_; intro v6 w6 hown6 hg6)
    go_ret
    refine ⟨v6, rfl, ?_, fun w0 hb0 => ((hb0.alloc hb _).grown hg6 (by simp; omega) (fun k hk => (hown.lt k hk).1))⟩
    rw [HP.out]
    exact hown6
  have hc3' : decide (c < 2048) = false := by simpa using hc3
  by_cases hc4 : c < 65536
  · have HP := Lib.hid (show putI c = [224 + c / 4096, 128 + c / 64 % 64, 128 + c % 64] by unfold putI; rw [if_neg hc1, if_neg hc2, if_neg hc3, if_pos hc4])
    go_enter Tryz.func128, Tryz.ntmps128
    go_wp2_with (at_builtin; refine wpList_append_sl rfl _ _ 24 rfl base 5 ii (.int .u8 0) 1 1 Tryz.underlying24 hi hz0 hz1 hz2 rfl (by decide) _ _ _ rfl (owns_below hown ((Below.refl _ _).alloc (Nat.le_refl _) _)) _ _ _ rfl (Sl.new w _ _ _ (by simp)) (by intro u hu; simp only [List.mem_cons, List.not_mem_nil, or_false] at hu; rcases hu with rfl | rfl | rfl <;> rfl) (by simp; unfold maxLen; omega) (by simp; omega) (by simp; omega) ?_; intro v6 w6 hown6 hg6)
    go_ret
    refine ⟨v6, rfl, ?_, fun w0 hb0 => ((hb0.alloc hb _).grown hg6 (by simp; omega) (fun k hk => (hown.lt k hk).1))⟩
    rw [HP.out]
    exact hown6
  have hc4' : decide (c < 65536) = false := by simpa using hc4
  have HP := Lib.hid (show putI c = [240 + c / 262144, 128 + c / 4096 % 64, 128 + c / 64 % 64, 128 + c % 64] by unfold putI; rw [if_neg hc1, if_neg hc2, if_neg hc3, if_neg hc4])
  go_enter Tryz.func128, Tryz.ntmps128
  go_wp2_with (at_builtin; refine wpList_append_sl rfl _ _ 24 rfl base 5 ii (.int .u8 0) 1 1 Tryz.underlying24 hi hz0 hz1 hz2 rfl (by decide) _ _ _ rfl (owns_below hown ((Below.refl _ _).alloc (Nat.le_refl _) _)) _ _ _ rfl (Sl.new w _ _ _ (by simp)) (by intro u hu; simp only [List.mem_cons, List.not_mem_nil, or_false] at hu; rcases hu with rfl | rfl | rfl | rfl <;> rfl) (by simp; unfold maxLen; omega) (by simp; omega) (by simp; omega) ?_; intro v6 w6 hown6 hg6)
  go_ret
  refine ⟨v6, rfl, ?_, fun w0 hb0 => ((hb0.alloc hb _).grown hg6 (by simp; omega) (fun k hk => (hown.lt k hk).1))⟩
  rw [HP.out]
  exact hown6
end Go.Proofs.YtccdkchmeelkfaaGreatDoor

/- (U3) utext.Put: signs as a text. -/
namespace Go.Proofs.YtccdkchmeelkfaaGreatDoor
open Go.RowKit

theorem putI_len4 (c : Int) : 1 ≤ (putI c).length ∧ (putI c).length ≤ 4 := by
  rw [putI_len]; unfold putLen; repeat' split
  all_goals omega

theorem putI_bd {c : Int} (h0 : 0 ≤ c) (h1 : c ≤ 1114367) : ∀ x ∈ putI c, 0 ≤ x ∧ x < 256 := by
  unfold putI
  repeat' split
  all_goals
    intro x hx
    simp only [List.mem_cons, List.not_mem_nil, or_false] at hx
    omega
theorem conv_row {w : World} {base n c : Nat} {a : Option Addr} {xs : List Int} (h : w.ownsRow base 5 1 (.slice a n c) n (cellsU xs)) :
    (convert 24 9 (.slice a n c)).run Tryz.prog w = .ok (.string (strOfNums xs)) w := by
  have hl : xs.length = n := by have := h.1; simpa [cellsU] using this
  have hs := Sl.of_owns h
  obtain ⟨g1, a', c', g2, g3, g4, g5⟩ := hs
  cases g2
  by_cases h0 : n = 0
  · subst h0
    have hx : xs = [] := List.eq_nil_of_length_eq_zero hl
    subst hx
    cases a with
    | none => exact run_convert_bytes_nil w 24 5 Tryz.underlying24 Tryz.underlying5 0 c 9 Tryz.underlying9
    | some ad =>
      obtain ⟨_, hr⟩ := h
      rcases hr with ⟨hn, _⟩ | ⟨g, cap, cur, hv, _⟩
      · cases hn
      · cases hv
        exact run_convert_bytes_arg w 24 5 Tryz.underlying24 Tryz.underlying5 g 0 0 c [] rfl (fun i hi => absurd hi (by omega)) 9 Tryz.underlying9
  · obtain ⟨b, o, rfl, _, hc⟩ := g5 (by omega)
    refine run_convert_bytes_arg w 24 5 Tryz.underlying24 Tryz.underlying5 b o n c xs hl (fun i hi => hc i _ ?_) 9 Tryz.underlying9
    rw [cellsU, List.getElem?_map, List.getElem?_eq_getElem (by omega), Option.map_some, List.getD_eq_getElem?_getD, List.getElem?_eq_getElem (by omega)]
    rfl
theorem strOf_map {xs : List Int} (h : ∀ x ∈ xs, 0 ≤ x ∧ x < 256) : (strOfNums xs).data.toList.map (fun x => (x.toNat : Int)) = xs := by
  rw [strOfNums_data, List.map_map]
  conv => rhs; rw [← List.map_id xs]
  apply List.map_congr_left
  intro x hx
  have := h x hx
  simp only [Function.comp, id, UInt8.toNat_ofNat']
  omega

set_option maxRecDepth 100000 in
set_option maxHeartbeats 4000000 in
theorem puts_any (w : World) (v : Value) (l : List Int) (hl : SlI w v l) (hn : l.length ≤ 1000000) (hb : ∀ c ∈ l, 0 ≤ c ∧ c ≤ 1114367) :
    Calls Tryz.prog 87 #[v] w fun e w' => ∃ s : ByteArray, e = .returned (.string s) ∧ s.data.toList.map (fun x => (x.toNat : Int)) = l.flatMap putI ∧ Below w.heap.size w w' := by
  obtain ⟨a, c, rfl, _, _, hop⟩ := hl.open
  have H := Lib.hid (And.intro hop hb)
  clear hop hb hl
  go_enter Tryz.func87, Tryz.ntmps87
  go_wp2_with fail
  go_loopw [3, 8] (fun o i wr => ∃ (q : Nat) (n : Nat), q ≤ l.length ∧ i = .int .i64 q ∧ n ≤ 4 * q ∧ wr.ownsRow w.heap.size 5 1 o n (cellsU ((l.take q).flatMap putI)) ∧ Below w.heap.size w wr) (fun _ i _ => l.length - (RowKit.intOf i).toNat)
  case atStart => exact ⟨0, 0, Nat.zero_le _, rfl, Nat.le_refl _, by simpa [cellsU] using World.ownsRow_nil _ _ _ _, Below.refl _ _⟩
  case round =>
    obtain ⟨q, n, hq, rfl, hn4, hown, hnx⟩ := hrel
    by_cases hq1 : q < l.length
    · obtain ⟨b, o, rfl, hbb, hcell⟩ := H.out.1 (by omega)
      have hx : l[q]? = some l[q] := List.getElem?_eq_getElem hq1
      obtain ⟨x, hx1⟩ : ∃ x, l[q] = x := ⟨_, rfl⟩
      rw [hx1] at hx
      have hc := (hnx.cell (p := ⟨b, o + q, none⟩) hbb).trans (hcell q x hx)
      obtain ⟨hx0, hx9⟩ := H.out.2 x (List.mem_of_getElem? hx)
      have hws := hnx.size
      have hp := put_any wr w.heap.size _ n _ hown hws (by omega) x hx0 hx9
      have hp4 := putI_len4 x
      obtain ⟨k, hk⟩ : ∃ k, (putI x).length = k := ⟨_, rfl⟩
      rw [hk] at hp hp4
      obtain ⟨hk1, hk4⟩ := hp4
      have HX := Lib.hid hx
      clear hx hx1 hcell hown hk
      go_wp2_with fail
      refine hp.mono ?_
      rintro e w1 ⟨v1, rfl, hown1, hnx1⟩
      have HN := Lib.hid (hnx1 w hnx)
      clear hnx1 hp
      go_wp2_with fail
      go_roundw
      case rel => exact ⟨q + 1, n + k, by omega, by go_num, by omega, by rw [List.take_add_one, HX.out, List.flatMap_append, cellsU_append]; simpa using hown1, HN.out⟩
      case measure => simp [RowKit.intOf]; omega
    · obtain rfl : q = l.length := by omega
      obtain ⟨a3, c3, rfl, hc3, hn3⟩ := owns_slice hown
      clear hn3
      rw [List.take_length] at hown
      have hcv := conv_row hown
      have hbd : ∀ x ∈ l.flatMap putI, 0 ≤ x ∧ x < 256 := by
        intro x hx
        obtain ⟨c, hc, hx⟩ := List.mem_flatMap.1 hx
        have := H.out.2 c hc
        exact putI_bd this.1 this.2 x hx
      have HM := Lib.hid (strOf_map hbd)
      clear hbd hown
      go_wp2_with fail
      go_ret
      exact ⟨_, rfl, HM.out, hnx⟩
end Go.Proofs.YtccdkchmeelkfaaGreatDoor
