/- The rules' reader: its parts. -/
import Derived.Test.YtccdkchmeelkfaaGreatDoorA4
import Derived.Test.YtccdkchmeelkfaaGreatDoorA5
import Derived.Test.YtccdkchmeelkfaaGreatDoorA2
import Derived.Deep.LoopGhost

/- (R1) The reader of rules in memory: sign, blank. -/
namespace Go.Proofs.YtccdkchmeelkfaaGreatDoor
open Go.RowKit

/-- A reader in memory at the signs l of s; av: its places. -/
structure RdAt (w : World) (rb : Nat) (v av : Value) (s l : List Int) : Prop where
  blk : w.heap[rb]? = some (.cells #[v, av, .int .i64 ((s.length - l.length : Nat) : Int)] 150 (0, 0))
  sl : SlI w v s
  ne : v.ownBlock ≠ some rb
  suf : l <:+ s
  len : s.length ≤ 1000000
  sg : ∀ c ∈ s, 0 ≤ c ∧ c ≤ 1114367

theorem grown_drewN (w : World) (n : Nat) (row : Option Nat) : w.grownBy (w.drewN n) row := (grown_below (Below.drewN (Below.refl _ _) n)).but row
theorem RdAt.le {w : World} {rb : Nat} {v av : Value} {s l : List Int} (h : RdAt w rb v av s l) : l.length ≤ s.length := h.suf.length_le
theorem RdAt.below {w w' : World} {rb : Nat} {v av : Value} {s l : List Int} (h : RdAt w rb v av s l) (hb : Below w.heap.size w w') : RdAt w' rb v av s l :=
  ⟨(hb.block _ (Array.getElem?_eq_some_iff.1 h.blk).1).trans h.blk, h.sl.below hb, h.ne, h.suf, h.len, h.sg⟩
theorem RdAt.drewN {w : World} {rb : Nat} {v av : Value} {s l : List Int} (h : RdAt w rb v av s l) (n : Nat) : RdAt (w.drewN n) rb v av s l := h.below (Below.drewN (Below.refl _ _) n)
theorem RdAt.put {w w' : World} {rb k : Nat} {v av av' : Value} {s l l' : List Int} (h : RdAt w rb v av s l) (hb : w'.heap[rb]? = some (.cells #[v, av', .int .i64 (k : Nat)] 150 (0, 0))) (hg : w.grownBy w' (some rb)) (hl : l' <:+ s) (hk : k = s.length - l'.length) : RdAt w' rb v av' s l' :=
  ⟨by rw [hb, hk], Sl.grown h.sl hg (.inr h.ne), h.ne, hl, h.len, h.sg⟩
theorem suf_at {s l : List Int} (h : l <:+ s) {c : Int} {r : List Int} (hl : l = c :: r) : s[s.length - l.length]? = some c := by
  obtain ⟨p, rfl⟩ := h
  rw [List.length_append, Nat.add_sub_cancel, List.getElem?_append_right (Nat.le_refl _), Nat.sub_self, hl]; rfl

set_option maxHeartbeats 1000000 in
theorem rsign_any (w : World) (rb : Nat) (v av : Value) (s l : List Int) (h : RdAt w rb v av s l) :
    Calls Tryz.prog 89 #[.pointer (some ⟨rb, 0, none⟩)] w fun e w' => e = .returned (.int .i64 (sgnL l)) ∧ ∃ n, w' = w.drewN n := by
  have hle := h.le
  have hlen := h.len
  have c0 : w.cell? ⟨rb, 0, none⟩ = some v := cell_of_block h.blk rfl
  have c2 : w.cell? ⟨rb, 2, none⟩ = some (.int .i64 ((s.length - l.length : Nat) : Int)) := cell_of_block h.blk rfl
  obtain ⟨a, c, rfl, hc, _, hop⟩ := h.sl.open
  cases l with
  | nil =>
    simp only [List.length_nil, Nat.sub_zero] at c2
    clear hop h
    go_enter Tryz.func89, Tryz.ntmps89
    go_wp2_with fail
    go_quiet (fail)
    go_wp2_with fail
    go_ret
    exact ⟨rfl, _, rfl⟩
  | cons x r =>
    have hx := suf_at h.suf rfl
    obtain ⟨k, hk⟩ : ∃ k, s.length - (x :: r).length = k := ⟨_, rfl⟩
    have hks : k < s.length := by simp at hk hle; omega
    rw [hk] at c2 hx
    obtain ⟨b, o, rfl, hb, hcell⟩ := hop (by omega)
    have hcx := hcell k x hx
    have hne : ¬ ((k : Int) = (s.length : Int)) := by omega
    clear hop h hcell hk hx hle
    go_enter Tryz.func89, Tryz.ntmps89
    go_wp2_with fail
    go_quiet (fail)
    go_wp2_with fail
    go_quiet (fail)
    go_wp2_with fail
    go_ret
    exact ⟨rfl, _, World.drewN_drewN ..⟩

/-- What has become of a reader. -/
def RdGo (w : World) (rb : Nat) (v av : Value) (s l : List Int) (w' : World) : Prop := RdAt w' rb v av s l ∧ w.grownBy w' (some rb)

set_option maxRecDepth 100000 in
set_option maxHeartbeats 2000000 in
theorem rblank_any (w : World) (rb : Nat) (v av : Value) (s l : List Int) (h : RdAt w rb v av s l) :
    Calls Tryz.prog 88 #[.pointer (some ⟨rb, 0, none⟩)] w fun e w' => e = .returned (.tuple #[]) ∧ RdGo w rb v av s (blankL l) w' := by
  obtain ⟨ii, hi, hz0, hz1, hz2⟩ := info_parts infoInt
  have hs := rsign_any w rb v av s l h
  go_enter Tryz.func88, Tryz.ntmps88
  go_wp2_with fail
  refine hs.mono ?_
  rintro e w1 ⟨rfl, n, rfl⟩
  clear hs
  have hr := h.drewN n
  have hg := grown_drewN w n (some rb)
  go_wp2_with fail
  go_loopg [2] l.length (fun gg t wr => ∃ l', t = .int .i64 (sgnL l') ∧ RdAt wr rb v av s l' ∧ w.grownBy wr (some rb) ∧ l'.length ≤ gg ∧ Hid (blankL l' = blankL l))
  case atStart => exact ⟨l, rfl, hr, hg, Nat.le_refl _, Lib.hid rfl⟩
  case round =>
    clear hr hg h
    obtain ⟨l', rfl, hr, hg, hgg, hI⟩ := hrel
    have hsx : ∀ c r, l' = c :: r → 0 ≤ c ∧ c ≤ 1114367 := fun c r e => hr.sg c (hr.suf.subset (by rw [e]; simp))
    have hlen := hr.len
    have hle := hr.le
    cases l' with
    | nil =>
      rw [show sgnL [] = -1 from rfl]
      have hb : blankL l = [] := hI.out.symm
      have HB := Lib.hid hb
      clear hb hsx
      go_wp2_with fail
      go_end0
      exact ⟨rfl, by rw [HB.out]; exact ⟨hr, hg⟩⟩
    | cons c r =>
      obtain ⟨hc0, hc1⟩ := hsx c r rfl
      rw [show sgnL (c :: r) = c from rfl]
      clear hsx
      by_cases hc : c = 32 ∨ c = 10
      · have hsuf := (List.suffix_cons c r).trans hr.suf
        have hn : blankL r = blankL l := by have := hI.out; rwa [blankL, if_pos hc] at this
        have HN := Lib.hid (And.intro hsuf hn)
        have hb := hr.blk
        have hc2 : wr.cell? ⟨rb, 2, none⟩ = some (.int .i64 ((s.length - (c :: r).length : Nat) : Int)) := cell_of_block hr.blk rfl
        obtain ⟨k, hk⟩ : ∃ k, s.length - (c :: r).length = k := ⟨_, rfl⟩
        rw [hk] at hc2 hb
        have hk1 : k ≤ 999999 := by simp at hk hle; omega
        have hf2 : wr.frozen? ⟨rb, 2, none⟩ = false := frozen_of_block hr.blk
        have hr2 : RdAt (wr.setCell ⟨rb, 2, none⟩ (.int .i64 ((k : Int) + 1))) rb v av s r := by
          refine hr.put (k := k + 1) (heap_setCell _ hb) (grownBy_setCell _ _ _ _) hsuf ?_
          rw [List.length_cons] at hk hle; omega
        have hg2 := hg.trans (grownBy_setCell wr rb 2 (.int .i64 ((k : Int) + 1)))
        have hs := rsign_any _ rb v av s r hr2
        have HR := Lib.hid (And.intro hr2 hg2)
        clear hk hn hsuf hle hr hg hr2 hg2
        rcases hc with rfl | rfl
        all_goals
          go_wp2_with fail
          refine hs.mono ?_
          rintro e w3 ⟨rfl, n3, rfl⟩
          go_wp2_with fail
          go_roundg r.length
          case measure => rw [List.length_cons] at hgg; omega
          case rel => exact ⟨r, rfl, HR.out.1.drewN n3, HR.out.2.trans (grown_drewN _ _ _), Nat.le_refl _, Lib.hid HN.out.2⟩
      · have hb : blankL l = c :: r := by rw [← hI.out, blankL, if_neg hc]
        have HB := Lib.hid hb
        have h32 : (c == 32) = false := by simp; exact fun e => hc (.inl e)
        have h10 : (c == 10) = false := by simp; exact fun e => hc (.inr e)
        clear hb hle hc
        go_wp2_with fail
        go_end0
        exact ⟨rfl, by rw [HB.out]; exact ⟨hr, hg⟩⟩
end Go.Proofs.YtccdkchmeelkfaaGreatDoor

/- (R2) The reader of rules in memory: relation. -/
namespace Go.Proofs.YtccdkchmeelkfaaGreatDoor
open Go.RowKit

/-- One sign further. -/
theorem RdAt.inc {w : World} {rb : Nat} {v av : Value} {s r : List Int} {c : Int} (h : RdAt w rb v av s (c :: r)) :
    ∃ k : Nat, k ≤ 999999 ∧ w.cell? ⟨rb, 2, none⟩ = some (.int .i64 k) ∧ w.frozen? ⟨rb, 2, none⟩ = false ∧ RdAt (w.setCell ⟨rb, 2, none⟩ (.int .i64 ((k : Int) + 1))) rb v av s r ∧ w.grownBy (w.setCell ⟨rb, 2, none⟩ (.int .i64 ((k : Int) + 1))) (some rb) := by
  have hle := h.le
  have hlen := h.len
  have hsuf := (List.suffix_cons c r).trans h.suf
  have hb := h.blk
  rw [List.length_cons] at hle
  obtain ⟨k, hk⟩ : ∃ k, s.length - (c :: r).length = k := ⟨_, rfl⟩
  rw [hk] at hb
  rw [List.length_cons] at hk
  exact ⟨k, by omega, cell_of_block hb rfl, frozen_of_block hb, h.put (k := k + 1) (heap_setCell _ hb) (grownBy_setCell _ _ _ _) hsuf (by omega), grownBy_setCell _ _ _ _⟩
theorem sgnL_ne {l : List Int} {c : Int} (h : sgnL l = c) (hc : 0 ≤ c) : ∃ r, l = c :: r := by
  cases l with
  | nil => simp [sgnL] at h; omega
  | cons x r => simp [sgnL] at h; subst h; exact ⟨r, rfl⟩
/-- What a function of the reader's tells and leaves. -/
def RdRet (x : Value) (w : World) (rb : Nat) (v av : Value) (s l : List Int) (e : Ending) (w' : World) : Prop := e = .returned x ∧ RdGo w rb v av s l w'

set_option maxRecDepth 100000 in
set_option maxHeartbeats 2000000 in
theorem rrel_any (w : World) (rb : Nat) (v av : Value) (s l : List Int) (h : RdAt w rb v av s l) :
    Calls Tryz.prog 129 #[.pointer (some ⟨rb, 0, none⟩)] w (RdRet (.int .i64 (relL l).1) w rb v av s (relL l).2) := by
  have hs := rsign_any w rb v av s l h
  by_cases h38 : sgnL l = 38
  · obtain ⟨r, rfl⟩ := sgnL_ne h38 (by decide)
    rw [show sgnL (38 :: r) = 38 from rfl] at hs
    rw [show relL (38 :: r) = (1, r) from rfl]
    clear h38
    go_enter Tryz.func129, Tryz.ntmps129
    go_wp2_with fail
    refine hs.mono ?_
    rintro e w1 ⟨rfl, n, rfl⟩
    obtain ⟨k, hk, c2, f2, hr2, hg2⟩ := (h.drewN n).inc
    have HR := Lib.hid (And.intro hr2 hg2)
    clear hr2 hg2 hs h
    go_wp2_with fail
    go_ret
    exact ⟨rfl, HR.out.1, (grown_drewN _ _ _).trans HR.out.2⟩
  by_cases h61 : sgnL l = 61
  · obtain ⟨r, rfl⟩ := sgnL_ne h61 (by decide)
    rw [show sgnL (61 :: r) = 61 from rfl] at hs
    rw [show relL (61 :: r) = (5, r) from rfl]
    clear h61 h38
    go_enter Tryz.func129, Tryz.ntmps129
    go_wp2_with fail
    refine hs.mono ?_
    rintro e w1 ⟨rfl, n, rfl⟩
    obtain ⟨k, hk, c2, f2, hr2, hg2⟩ := (h.drewN n).inc
    have HR := Lib.hid (And.intro hr2 hg2)
    clear hr2 hg2 hs h
    go_wp2_with fail
    go_ret
    exact ⟨rfl, HR.out.1, (grown_drewN _ _ _).trans HR.out.2⟩
  have hrel : relL l = if (ltL 3 l).1 = 0 then (0, l) else (1 + ((ltL 3 l).1 : Int), (ltL 3 l).2) := by rw [relL, if_neg h38, if_neg h61]
  have HREL := Lib.hid hrel
  obtain ⟨sl, hsl⟩ : ∃ sl, sgnL l = sl := ⟨_, rfl⟩
  rw [hsl] at hs h38 h61
  have h38' : (sl == 38) = false := by simpa using h38
  have h61' : (sl == 61) = false := by simpa using h61
  clear hrel h38 h61 hsl
  go_enter Tryz.func129, Tryz.ntmps129
  go_wp2_with fail
  refine hs.mono ?_
  rintro e w1 ⟨rfl, n, rfl⟩
  have hr := h.drewN n
  have hg := grown_drewN w n (some rb)
  go_wp2_with fail
  clear hs h h38' h61'
  go_loopw [3] (fun t wr => ∃ (k : Nat) (l' : List Int), t = .int .i64 k ∧ k ≤ 3 ∧ RdAt wr rb v av s l' ∧ w.grownBy wr (some rb) ∧ Hid ((ltL (3 - k) l').1 + k = (ltL 3 l).1 ∧ (ltL (3 - k) l').2 = (ltL 3 l).2)) (fun t _ => 3 - (RowKit.intOf t).toNat)
  case atStart => exact ⟨0, l, rfl, by omega, hr, hg, Lib.hid ⟨rfl, rfl⟩⟩
  case round =>
    clear hr hg
    obtain ⟨k, l', rfl, hk, hr, hg, hI⟩ := hrel
    have hs := rsign_any wr rb v av s l' hr
    have hend : ∀ wf, RdAt wf rb v av s l' → w.grownBy wf (some rb) → (ltL (3 - k) l').1 = 0 → (ltL (3 - k) l').2 = l' → RdRet (.int .i64 (relL l).1) w rb v av s (relL l).2 (.returned (.int .i64 (if k = 0 then 0 else 1 + (k : Int)))) wf := by
      intro wf h1 h2 h3 h4
      have e1 := hI.out.1
      have e2 := hI.out.2
      rw [h3] at e1
      rw [h4] at e2
      have hR : relL l = (if k = 0 then 0 else 1 + (k : Int), l') := by
        rw [HREL.out, ← e1, ← e2]
        by_cases h0 : k = 0
        · subst h0
          simp
          have := e1; simp at this
          have hz : ltL 3 l = (0, l) ∨ ltL 3 l ≠ (0, l) := Decidable.em _
          rw [e2]
          cases l with
          | nil => simp [ltL]
          | cons c r =>
            rw [ltL] at this ⊢
            split at this
            · simp at this
            · rename_i hc; rw [if_neg hc]
        · simp [h0]
      rw [hR]
      exact ⟨rfl, h1, h2⟩
    have HE := Lib.hid hend
    clear hend
    by_cases hk3 : k < 3
    · by_cases hc : sgnL l' = 60
      · obtain ⟨r, rfl⟩ := sgnL_ne hc (by decide)
        rw [show sgnL (60 :: r) = 60 from rfl] at hs
        have hlt : (ltL (3 - (k + 1)) r).1 + (k + 1) = (ltL 3 l).1 ∧ (ltL (3 - (k + 1)) r).2 = (ltL 3 l).2 := by
          rw [← hI.out.1, ← hI.out.2, show 3 - k = (3 - (k + 1)) + 1 by omega, ltL, if_pos rfl]
          simp; omega
        have HL := Lib.hid hlt
        clear hc hlt HE
        go_wp2_with fail
        refine hs.mono ?_
        rintro e w3 ⟨rfl, n3, rfl⟩
        obtain ⟨k2, hk2, c2, f2, hr2, hg2⟩ := (hr.drewN n3).inc
        have HR := Lib.hid (And.intro hr2 hg2)
        clear hr2 hg2 hs
        go_wp2_with fail
        go_roundw
        case rel => exact ⟨k + 1, r, by go_num, by omega, HR.out.1, hg.trans ((grown_drewN _ _ _).trans HR.out.2), HL⟩
        case measure => simp [RowKit.intOf]; omega
      · have hz : (ltL (3 - k) l').1 = 0 ∧ (ltL (3 - k) l').2 = l' := by
          rw [show 3 - k = (3 - (k + 1)) + 1 by omega]
          cases l' with
          | nil => exact ⟨rfl, rfl⟩
          | cons c r => rw [ltL, if_neg (show ¬ c = 60 from hc)]; exact ⟨rfl, rfl⟩
        have HZ := Lib.hid hz
        obtain ⟨sl', hsl⟩ : ∃ sl', sgnL l' = sl' := ⟨_, rfl⟩
        rw [hsl] at hs hc
        have hc' : (sl' == 60) = false := by simpa using hc
        clear hz hsl hc
        by_cases h0 : k = 0
        · subst h0
          go_wp2_with fail
          refine hs.mono ?_
          rintro e w3 ⟨rfl, n3, rfl⟩
          go_wp2_with fail
          go_ret
          exact HE.out _ (hr.drewN n3) (hg.trans (grown_drewN _ _ _)) HZ.out.1 HZ.out.2
        · go_wp2_with fail
          refine hs.mono ?_
          rintro e w3 ⟨rfl, n3, rfl⟩
          go_wp2_with fail
          go_ret
          have := HE.out _ (hr.drewN n3) (hg.trans (grown_drewN _ _ _)) HZ.out.1 HZ.out.2
          rw [if_neg h0] at this
          rw [show (2 : Int) + (k : Int) - 1 = 1 + (k : Int) by omega]
          exact this
    · obtain rfl : k = 3 := by omega
      clear hs
      go_wp2_with fail
      go_ret
      exact HE.out _ hr hg rfl rfl
end Go.Proofs.YtccdkchmeelkfaaGreatDoor

/- (R3) The reader of rules in memory: seq. -/
namespace Go.Proofs.YtccdkchmeelkfaaGreatDoor
open Go.RowKit

/-- What seq tells. -/
def SeqRet (q : Option (List Int)) (w : World) (rb : Nat) (v av : Value) (s l : List Int) (e : Ending) (w' : World) : Prop :=
  RdGo w rb v av s l w' ∧ ∃ o, e = .returned (.tuple #[o, .bool q.isSome]) ∧ (∃ a n c, o = .slice a n c) ∧ ∀ sq, q = some sq → BlkI w' w.heap.size o sq

theorem RdAt.ob {w : World} {rb : Nat} {v av : Value} {s l : List Int} (h : RdAt w rb v av s l) : ∃ cur, w.heap[rb]? = some (.cells cur 150 (0, 0)) := ⟨_, h.blk⟩

theorem SlI.low {w : World} {v : Value} {s : List Int} (h : SlI w v s) : s = [] ∨ ∃ b, v.ownBlock = some b ∧ b < w.heap.size := by
  obtain ⟨_, a, c, rfl, _, _, h4⟩ := h
  by_cases h0 : s = []
  · exact .inl h0
  · obtain ⟨b, o, rfl, hb, _⟩ := h4 (by cases s with | nil => exact absurd rfl h0 | cons => simp)
    exact .inr ⟨b, rfl, hb⟩
theorem RdAt.same {w w' : World} {rb : Nat} {v av : Value} {s l : List Int} (h : RdAt w rb v av s l) (hd : ∃ n, w' = w.drewN n) : RdAt w' rb v av s l ∧ Below w.heap.size w w' := by
  obtain ⟨n, rfl⟩ := hd
  exact ⟨h.drewN n, Below.drewN (Below.refl _ _) n⟩
/-- A row grows that is not the reader's. -/
theorem RdAt.app {w wr w' : World} {rb : Nat} {v av : Value} {s l : List Int} {row : Option Nat} (h : RdAt wr rb v av s l) (hg : wr.grownBy w' row) (hlow : s = [] ∨ ∃ b, v.ownBlock = some b ∧ b < w.heap.size) (hrow : ∀ k, row = some k → w.heap.size ≤ k) (hrb : rb < w.heap.size) : RdAt w' rb v av s l :=
  ⟨(hg.block _ (Array.getElem?_eq_some_iff.1 h.blk).1 (fun e => by have := hrow rb e.symm; omega)).trans h.blk, by
    rcases hlow with h0 | ⟨b, hb, hlt⟩
    · subst h0
      obtain ⟨g1, a, c, g2, g3, g4, _⟩ := h.sl
      exact ⟨g1, a, c, g2, g3, g4, fun hn => absurd hn (by simp)⟩
    · exact Sl.grown h.sl hg (.inr (fun e => by have := hrow b (by rw [← e, hb]); omega)), h.ne, h.suf, h.len, h.sg⟩

theorem seqRet_end {w wf : World} {rb : Nat} {v av : Value} {s l out rest : List Int} {a : Option Addr} {c : Nat} {b : Bool} (hI : seqGo [] (blankL l) = (some out, rest)) (hr : RdAt wf rb v av s rest) (hg : w.grownBy wf (some rb)) (hb : BlkI wf w.heap.size (.slice a out.length c) out) (hbb : b = !decide (out = [])) :
    SeqRet (seqL l).1 w rb v av s (seqL l).2 (.returned (.tuple #[.slice a out.length out.length, .bool b])) wf := by
  have e : seqL l = (if out = [] then none else some out, rest) := by unfold seqL; rw [hI]
  rw [e]
  refine ⟨⟨hr, hg⟩, .slice a out.length out.length, ?_, ⟨_, _, _, rfl⟩, fun sq hsq => ?_⟩
  · subst hbb; by_cases h0 : out = [] <;> simp [h0]
  · by_cases h0 : out = []
    · rw [if_pos h0] at hsq; cases hsq
    · rw [if_neg h0] at hsq; cases hsq; exact hb.clip
theorem seqRet_none {w wf : World} {rb : Nat} {v av : Value} {s l rest : List Int} (hI : seqGo [] (blankL l) = (none, rest)) (hr : RdAt wf rb v av s rest) (hg : w.grownBy wf (some rb)) :
    SeqRet (seqL l).1 w rb v av s (seqL l).2 (.returned (.tuple #[.slice none 0 0, .bool false])) wf := by
  have e : seqL l = (none, rest) := by unfold seqL; rw [hI]
  rw [e]
  exact ⟨⟨hr, hg⟩, _, rfl, ⟨_, _, _, rfl⟩, fun sq hsq => by cases hsq⟩

set_option maxRecDepth 100000 in
set_option maxHeartbeats 4000000 in
theorem rseq_any (w : World) (rb : Nat) (v av : Value) (s l : List Int) (h : RdAt w rb v av s l) :
    Calls Tryz.prog 130 #[.pointer (some ⟨rb, 0, none⟩)] w (SeqRet (seqL l).1 w rb v av s (seqL l).2) := by
  obtain ⟨ii, hi, hz0, hz1, hz2⟩ := info_parts infoInt
  have hb := rblank_any w rb v av s l h
  have hrbw := (Array.getElem?_eq_some_iff.1 h.blk).1
  have HLOW := Lib.hid h.sl.low
  go_enter Tryz.func130, Tryz.ntmps130
  go_wp2_with fail
  refine hb.mono ?_
  rintro e w1 ⟨rfl, hr, hg⟩
  have hs := rsign_any _ rb v av s _ hr
  clear hb h
  go_wp2_with fail
  refine hs.mono ?_
  rintro e w2 ⟨rfl, n, rfl⟩
  have hr2 := hr.drewN n
  have hg2 := hg.trans (grown_drewN w1 n (some rb))
  clear hs hr hg
  go_wp2_with fail
  go_loopg [5, 6] (blankL l).length (fun gg o t wr => ∃ out l', t = .int .i64 (sgnL l') ∧ wr.ownsRow w.heap.size 3 1 o out.length (cellsI out) ∧ out.length ≤ 3 ∧ RdAt wr rb v av s l' ∧ w.grownBy wr (some rb) ∧ l'.length ≤ gg ∧ Hid (seqGo out l' = seqGo [] (blankL l)))
  case atStart => exact ⟨[], _, rfl, World.ownsRow_nil _ _ _ _, by simp, hr2, hg2, Nat.le_refl _, Lib.hid rfl⟩
  case round =>
    clear hr2 hg2
    obtain ⟨out, l', rfl, hown, ho3, hr, hg, hgg, hI⟩ := hrel
    have hsx : ∀ c r, l' = c :: r → 0 ≤ c ∧ c ≤ 1114367 := fun c r e => hr.sg c (hr.suf.subset (by rw [e]; simp))
    have hws := hg.size
    have hbk := BlkI.own rfl hown
    obtain ⟨oa, oc, rfl, hocn, hon⟩ := owns_slice hown
    clear hon
    cases l' with
    | nil =>
      have he : seqGo [] (blankL l) = (some out, []) := by rw [← hI.out]; rfl
      have HE := Lib.hid (And.intro he hbk)
      rw [show sgnL [] = -1 from rfl]
      clear he hI hsx hbk
      by_cases h0 : out.length = 0
      · have hp : decide (0 < out.length) = false := by simp [h0]
        have H0 := Lib.hid h0
        clear h0
        go_wp2_with (go_at_call 125; refine (clipI_any _ _ _ _ hocn (by omega)).mono ?_; rintro e' w' ⟨rfl, rfl⟩)
        go_ret2
        exact seqRet_end HE.out.1 hr hg HE.out.2 (by simp [List.eq_nil_of_length_eq_zero H0.out])
      · have hp : 0 < out.length := by omega
        go_wp2_with (go_at_call 125; refine (clipI_any _ _ _ _ hocn (by omega)).mono ?_; rintro e' w' ⟨rfl, rfl⟩)
        go_ret2
        exact seqRet_end HE.out.1 hr hg HE.out.2 (by cases out <;> simp at h0 ⊢)
    | cons c r =>
      obtain ⟨hc0, hc1⟩ := hsx c r rfl
      rw [show sgnL (c :: r) = c from rfl]
      have hsp := special_any wr c
      clear hsx
      by_cases hx : specialS c = true ∧ c ≠ 92
      · have he : seqGo [] (blankL l) = (some out, c :: r) := by rw [← hI.out, seqGo_cons, if_pos hx]
        have HE := Lib.hid (And.intro he hbk)
        rw [hx.1] at hsp
        have h92 : (c == 92) = false := by simpa using hx.2
        clear he hI hbk hx
        by_cases h0 : out.length = 0
        · have hp : decide (0 < out.length) = false := by simp [h0]
          have H0 := Lib.hid h0
          clear h0
          go_wp2_with (first | (go_at_call 164; refine hsp.mono ?_; rintro e' w' ⟨rfl, rfl⟩) | (go_at_call 125; refine (clipI_any _ _ _ _ hocn (by omega)).mono ?_; rintro e' w' ⟨rfl, rfl⟩))
          go_ret2
          exact seqRet_end HE.out.1 hr hg HE.out.2 (by simp [List.eq_nil_of_length_eq_zero H0.out])
        · have hp : 0 < out.length := by omega
          go_wp2_with (first | (go_at_call 164; refine hsp.mono ?_; rintro e' w' ⟨rfl, rfl⟩) | (go_at_call 125; refine (clipI_any _ _ _ _ hocn (by omega)).mono ?_; rintro e' w' ⟨rfl, rfl⟩))
          go_ret2
          exact seqRet_end HE.out.1 hr hg HE.out.2 (by cases out <;> simp at h0 ⊢)
      · by_cases h3 : out.length = 3
        · have he : seqGo [] (blankL l) = (none, c :: r) := by rw [← hI.out, seqGo_cons, if_neg hx, if_pos h3]
          have HE := Lib.hid he
          clear he hI hbk hown
          have hgo : specialS c = false ∨ c = 92 := by
            by_cases h : c = 92
            · exact .inr h
            · exact .inl (by cases hs : specialS c with | false => rfl | true => exact absurd ⟨hs, h⟩ hx)
          clear hx
          rcases hgo with hgo | rfl
          · rw [hgo] at hsp
            go_wp2_with (go_at_call 164; refine hsp.mono ?_; rintro e' w' ⟨rfl, rfl⟩)
            go_ret2
            exact seqRet_none HE.out hr hg
          · rw [show specialS 92 = true from rfl] at hsp
            go_wp2_with (go_at_call 164; refine hsp.mono ?_; rintro e' w' ⟨rfl, rfl⟩)
            go_ret2
            exact seqRet_none HE.out hr hg
        · have h3' : ¬ ((out.length : Int) = 3) := by omega
          have hlen3 : out.length ≤ 2 := by omega
          have hst : seqGo out (c :: r) = if c = 92 then escL out r else seqGo (out ++ [c]) r := by rw [seqGo_cons, if_neg hx, if_neg h3]
          have hI2 := hst.symm.trans hI.out
          clear hst hI hbk h3 ho3
          by_cases h92 : c = 92
          · subst h92
            rw [if_pos rfl] at hI2
            rw [show specialS 92 = true from rfl] at hsp
            clear hx
            obtain ⟨k, hk, c2, f2, hr2, hg2⟩ := hr.inc
            have hs2 := rsign_any _ rb v av s _ hr2
            have hob := hr.ob
            cases r with
            | nil =>
              have HE := Lib.hid (And.intro hI2 (And.intro hr2 hg2))
              rw [show sgnL [] = -1 from rfl] at hs2
              clear hI2 hr2 hg2 hob
              go_wp2_with (go_at_call 164; refine hsp.mono ?_; rintro e' w' ⟨rfl, rfl⟩)
              refine hs2.mono ?_
              rintro e w3 ⟨rfl, n3, rfl⟩
              go_wp2_with fail
              go_ret2
              exact seqRet_none HE.out.1.symm (HE.out.2.1.drewN n3) (hg.trans (HE.out.2.2.trans (grown_drewN _ _ _)))
            | cons d r' =>
              rw [show sgnL (d :: r') = d from rfl] at hs2
              have hd := hr2.sg d (hr2.suf.subset (by simp))
              have hown2 := hown.kept hg2 (ownsRow_ne_a hown hob.choose_spec (fun _ e => by cases e))
              have hr1 := hr2
              have hgg2 := hg.trans hg2
              have HI := Lib.hid hI2
              clear hI2 hr2 hg2 hob hown hr hg
              go_wp2_with (go_at_call 164; refine hsp.mono ?_; rintro e' w' ⟨rfl, rfl⟩)
              refine hs2.mono ?_
              rintro e w3 ⟨rfl, hd3⟩
              obtain ⟨hr3a, hb3⟩ := hr1.same hd3
              obtain ⟨hd0, hd1⟩ := hd
              obtain ⟨k3, hk3, c3, f3, hr3, hg3⟩ := hr3a.inc
              have hown3 := (owns_below hown2 hb3).kept hg3 (ownsRow_ne_a (owns_below hown2 hb3) hr3a.ob.choose_spec (fun _ e => by cases e))
              have hg4 := hgg2.trans (((grown_below hb3).but (some rb)).trans hg3)
              have hsz4 := hg4.size
              clear hr1 hgg2 hown2 hg3 hs2 hsp c2 f2 hr3a hb3 hd3
              go_wp2_with (at_builtin; refine wpList_append_sl rfl _ _ 22 rfl w.heap.size 3 ii (.int .i64 0) 1 8 Tryz.underlying22 hi hz0 hz1 hz2 rfl (by decide) _ _ _ rfl (owns_below hown3 ((Below.refl _ _).alloc (Nat.le_refl _) _)) _ 1 [.int .i64 d] rfl (SlNew1 _ _ _ _ (by simp)) (by intro u hu; simp at hu; subst hu; rfl) (by unfold maxLen; omega) (by omega) (by simp at hsz4 ⊢; omega) ?_; intro v6 w6 hown6 hg6)
              have hr6 := (hr3.below ((Below.refl _ _).alloc (Nat.le_refl _) (.cells #[.int .i64 d] 3))).app hg6 HLOW.out (fun k hk => (hown3.lt k hk).1) hrbw
              have hg7 : w.grownBy w6 (some rb) := (hg4.trans (World.grownBy_alloc _ _ _)).andThen hg6 (fun j hj => .inl (hown3.lt j hj).1)
              have hs6 := rsign_any _ rb v av s _ hr6
              have hown7 : w6.ownsRow w.heap.size 3 1 v6 (out ++ [d]).length (cellsI (out ++ [d])) := by rw [cellsI_append, List.length_append]; exact hown6
              clear hr3 hown3 hown6 hg6 hg4 c3 f3
              refine hs6.mono ?_
              rintro e w7 ⟨rfl, n7, rfl⟩
              go_wp2_with fail
              go_roundg r'.length
              case measure => simp only [List.length_cons] at hgg; omega
              case rel => exact ⟨out ++ [d], r', rfl, owns_below hown7 (Below.drewN (Below.refl _ _) n7), by simp; omega, hr6.drewN n7, hg7.trans (grown_drewN _ _ _), Nat.le_refl _, Lib.hid HI.out⟩
          · rw [if_neg h92] at hI2
            have hcs : specialS c = false := by cases hs : specialS c with | false => rfl | true => exact absurd ⟨hs, h92⟩ hx
            rw [hcs] at hsp
            have h92' : (c == 92) = false := by simpa using h92
            clear hx hcs h92
            obtain ⟨k3, hk3, c3, f3, hr3, hg3⟩ := hr.inc
            have hown3 := hown.kept hg3 (ownsRow_ne_a hown hr.ob.choose_spec (fun _ e => by cases e))
            have hg4 := hg.trans hg3
            have hsz4 := hg4.size
            have HI := Lib.hid hI2
            clear hI2 hg3 hr hown hg
            go_wp2_with (first
              | (go_at_call 164; refine hsp.mono ?_; rintro e' w' ⟨rfl, rfl⟩)
              | (at_builtin; refine wpList_append_sl rfl _ _ 22 rfl w.heap.size 3 ii (.int .i64 0) 1 8 Tryz.underlying22 hi hz0 hz1 hz2 rfl (by decide) _ _ _ rfl (owns_below hown3 ((Below.refl _ _).alloc (Nat.le_refl _) _)) _ 1 [.int .i64 c] rfl (SlNew1 _ _ _ _ (by simp)) (by intro u hu; simp at hu; subst hu; rfl) (by unfold maxLen; omega) (by omega) (by simp at hsz4 ⊢; omega) ?_; intro v6 w6 hown6 hg6))
            have hr6 := (hr3.below ((Below.refl _ _).alloc (Nat.le_refl _) (.cells #[.int .i64 c] 3))).app hg6 HLOW.out (fun k hk => (hown3.lt k hk).1) hrbw
            have hg7 : w.grownBy w6 (some rb) := (hg4.trans (World.grownBy_alloc _ _ _)).andThen hg6 (fun j hj => .inl (hown3.lt j hj).1)
            have hs6 := rsign_any _ rb v av s _ hr6
            have hown7 : w6.ownsRow w.heap.size 3 1 v6 (out ++ [c]).length (cellsI (out ++ [c])) := by rw [cellsI_append, List.length_append]; exact hown6
            clear hr3 hown3 hown6 hg6 hg4 c3 f3
            refine hs6.mono ?_
            rintro e w7 ⟨rfl, n7, rfl⟩
            go_wp2_with fail
            go_roundg r.length
            case measure => simp only [List.length_cons] at hgg; omega
            case rel => exact ⟨out ++ [c], r, rfl, owns_below hown7 (Below.drewN (Below.refl _ _) n7), by simp; omega, hr6.drewN n7, hg7.trans (grown_drewN _ _ _), Nat.le_refl _, Lib.hid HI.out⟩
end Go.Proofs.YtccdkchmeelkfaaGreatDoor
