/- Tables made, and made with an entry more. -/
import Derived.Test.YtccdkchmeelkfaaGreatDoorA8
import Derived.Test.YtccdkchmeelkfaaGreatDoorA2
import Derived.StillTailTactics
import Derived.Deep.LoopGhost
import Derived.Shelf.SlMaps.Clone
import Derived.Ground.SlmcProg
import Derived.Deep.RegionWith
import Derived.Test.YtccdkchmeelkfaaGreatDoorL0

/- (W17) trie.Build. -/
namespace Go.Proofs.YtccdkchmeelkfaaGreatDoor
open Go.RowKit Go.Maps

set_option maxRecDepth 100000 in
set_option maxHeartbeats 4000000 in
theorem build_any (w : World) (v : Value) (L : List (Int × Nat)) (h : SlP w v L) (hok : okPairs L) :
    Calls Tryz.prog 97 #[v] w fun e w' => ∃ p, e = .returned (.tuple #[p, .int .i64 0]) ∧ TrieAt w' p (fun c => (alook L c).getD 0) ∧ Below w.heap.size w w' := by
  have hbad := noBad_any w v L h hok
  have hh := h
  obtain ⟨a, c, rfl, _, _, hop⟩ := h.open
  have HH := Lib.hid (And.intro hh hok)
  have HO := Lib.hid hop
  have hl : L.length ≤ 10000 := hok.2.2
  clear hop hh h hok
  have hmm := @run_makeMap Tryz.prog
  go_enter Tryz.func97, Tryz.ntmps97
  go_wp2_with fail
  refine hbad.mono ?_
  rintro e w1 ⟨rfl, hb1⟩
  clear hbad
  have hs : MapAt (Value.int .i64) ((w1.alloc (.map #[] 0)).alloc (.map #[] 0)) w1.heap.size [] := (MapAt.made w1 _).below ((Below.refl _ _).alloc (Nat.le_refl _) _)
  have ho : MapAt (Value.int .i64) ((w1.alloc (.map #[] 0)).alloc (.map #[] 0)) (w1.heap.size + 1) [] := by have := MapAt.made (w1.alloc (.map #[] 0)) (Value.int .i64); simpa using this
  have hz : w1.heap.size + 2 ≤ ((w1.alloc (.map #[] 0)).alloc (.map #[] 0)).heap.size := by simp
  have hb : Below w.heap.size w ((w1.alloc (.map #[] 0)).alloc (.map #[] 0)) := (hb1.alloc hb1.size _).alloc (by have := hb1.size; simp; omega) _
  have hw1 := hb1.size
  obtain ⟨w2, hw2⟩ : ∃ w2, (w1.alloc (.map #[] 0)).alloc (.map #[] 0) = w2 := ⟨_, rfl⟩
  go_wp2_with fail
  rw [hw2] at hs ho hz hb
  try rw [hw2]
  clear hw2 hb1
  go_loopw [21] (fun i wr => ∃ (q : Nat) (ms : List (Int × Value)) (own : List (Int × List Int)), i = .int .i64 q ∧ q ≤ L.length ∧ MapAt (Value.int .i64) wr w1.heap.size ms ∧ MapAt (Value.int .i64) wr (w1.heap.size + 1) (own.map fun p => (p.1, encB p.2)) ∧ w1.heap.size + 2 ≤ wr.heap.size ∧ Below w.heap.size w wr ∧ Hid (ms.map (·.1) = (L.take q).map (·.1) ∧ OwnOk (L.take q) own)) (fun i _ => L.length - (intOf i).toNat)
  case atStart => exact ⟨0, [], [], rfl, Nat.zero_le _, hs, ho, hz, hb, Lib.hid ⟨by simp, by simpa using OwnOk.nil⟩⟩
  case round =>
    clear hs ho hz hb
    obtain ⟨q, ms, own, rfl, hq, hs, ho, hz, hb, hI⟩ := hrel
    by_cases hq1 : q < L.length
    · obtain ⟨b, o, rfl, hbb, hcell⟩ := HO.out (by omega)
      obtain ⟨x, hx⟩ : ∃ x, L[q]? = some x := ⟨L[q], List.getElem?_eq_getElem hq1⟩
      obtain ⟨hc1, hc2⟩ := hcell q x hx
      have hc1 := (hb.cell (p := ⟨b, o + q * 2, none⟩) hbb).trans hc1
      have hc2 := (hb.cell (p := ⟨b, o + q * 2 + 1, none⟩) hbb).trans hc2
      obtain ⟨hx1, hx2, hx3⟩ := HH.out.2.1 x (List.mem_of_getElem? hx)
      have hsok : ∀ p ∈ ms, i64ok p.1 := by
        intro p hp
        have : p.1 ∈ (L.take q).map (·.1) := by rw [← hI.out.1]; exact List.mem_map.2 ⟨p, hp, rfl⟩
        obtain ⟨y, hy, e⟩ := List.mem_map.1 this
        have := HH.out.2.1 y (List.mem_of_mem_take hy)
        rw [← e]; unfold i64ok; omega
      have hsnd : (ms.map (·.1)).Nodup := by
        rw [hI.out.1, List.map_take]; exact HH.out.2.2.1.sublist (List.take_sublist _ _)
      have hnew : alook ms x.1 = none := by
        refine alook_none fun p hp e => ?_
        have : p.1 ∈ (L.take q).map (·.1) := by rw [← hI.out.1]; exact List.mem_map.2 ⟨p, hp, rfl⟩
        obtain ⟨i, hi⟩ := List.getElem?_of_mem this
        rw [List.map_take, List.getElem?_take] at hi
        split at hi
        · rename_i hiq
          have h2 : (L.map (·.1))[q]? = some p.1 := by rw [List.getElem?_map, hx, e]; rfl
          have := (List.getElem?_inj (List.getElem?_eq_some_iff.1 hi).1 HH.out.2.2.1).1 (hi.trans h2.symm); omega
        · cases hi
      have hkx : i64ok x.1 := by unfold i64ok; omega
      have hkq : i64ok (x.1 / 64) := by unfold i64ok; omega
      have hook : ∀ p ∈ own.map (fun p => (p.1, encB p.2)), i64ok p.1 := by
        intro p hp
        obtain ⟨y, hy, rfl⟩ := List.mem_map.1 hp
        have := hI.out.2.ok y hy
        unfold i64ok; simp only; omega
      have hond : ((own.map (fun p => (p.1, encB p.2))).map (·.1)).Nodup := by rw [keys_map]; exact hI.out.2.nd
      have hl1 : (alook ms x.1).getD (.bool false) = .bool false := by rw [hnew]; rfl
      have hblk : ∀ k, (alook (own.map (fun p => (p.1, encB p.2))) k).getD (encB zeroB) = .agg (cellsB ((alook own k).getD zeroB)).toArray := by
        intro k; rw [alook_map]; cases alook own k <;> rfl
      obtain ⟨blk, hblk0⟩ : ∃ blk, (alook own (x.1 / 64)).getD zeroB = blk := ⟨_, rfl⟩
      have hblk := hblk (x.1 / 64)
      rw [hblk0] at hblk
      have hblkl : blk.length = 64 := by rw [← hblk0]; exact (hI.out.2.blk _).1
      have hcl : (cellsB blk).length = 64 := by simp [cellsB, hblkl]
      have hm1 : 0 ≤ x.1 % 64 := by omega
      have hm2 : x.1 % 64 < 64 := by omega
      obtain ⟨ov, hov⟩ : ∃ ov, (cellsB blk)[(x.1 % 64).toNat]? = some ov := ⟨(cellsB blk)[(x.1 % 64).toNat]'(by omega), List.getElem?_eq_getElem _⟩
      have HB := Lib.hid (And.intro hblk0 (And.intro hblkl (And.intro hcl hblk)))
      clear hblk0 hblkl hcl hblk
      have HS := Lib.hid (And.intro hsok (And.intro hsnd (And.intro hnew (And.intro hkx (And.intro hkq (And.intro hook (And.intro hond (And.intro hx hl1))))))))
      clear hsok hsnd hnew hkx hkq hook hond hcell hx hl1
      have hs1 := hs.below ((Below.refl _ _).alloc (Nat.le_refl _) (.cells #[.int .i64 x.1, .int .i64 (x.2 : Nat)] 165))
      have ho1 := ho.below ((Below.refl _ _).alloc (Nat.le_refl _) (.cells #[.int .i64 x.1, .int .i64 (x.2 : Nat)] 165))
      clear hs ho
      go_wp2_with (first
        | (at_lookup; refine wpList_look_at rfl _ _ false rfl kl_int Tryz.underlying198 rfl (k := x.1) rfl hs1 HS.out.1 HS.out.2.1 HS.out.2.2.2.1 zeroBool HS.out.2.2.2.2.2.2.2.2 ?_)
        | (at_mapUpdate; (refine wpList_put_at rfl _ _ _ rfl kl_int Tryz.underlying198 rfl (k := x.1) rfl rfl hs1 HS.out.1 HS.out.2.1 HS.out.2.2.2.1 ?_; intro w3 hs3 hg3 hz3; have ho3 := ho1.grown hg3 (by simp); have hp1 : w3.cell? ⟨wr.heap.size, 0, none⟩ = some (.int .i64 x.1) := (grown_cell hg3 (by simp) (by simp; omega)).trans (by simp); have hp2 : w3.cell? ⟨wr.heap.size, 1, none⟩ = some (.int .i64 (x.2 : Nat)) := (grown_cell hg3 (by simp) (by simp; omega)).trans (by simp); have hz3 : w3.heap.size = wr.heap.size + 1 := (by rw [hz3]; simp); have hb3 : Below w.heap.size w w3 := (hb.alloc hb.size _).grown hg3 (by have := hb.size; simp; omega) (fun k hk => by simp at hk; omega); clear hs1 hg3 ho1 hb hc1 hc2))
        | (at_lookup; refine wpList_look_at rfl _ _ false rfl kl_int Tryz.underlying199 rfl (k := x.1 / 64) rfl ho3 HS.out.2.2.2.2.2.1 HS.out.2.2.2.2.2.2.1 HS.out.2.2.2.2.1 zeroBlk HB.out.2.2.2 ?_)
        | (refine wpList_storeN rfl 201 _ _ rfl (wr.heap.size + 1) _ (cellsB blk).toArray rfl hz3.symm rfl (infoBlkS.trans (by simp [HB.out.2.2.1])) (by simp [HB.out.2.2.1]) (by rw [Array.all_eq_true_iff_forall_mem]; intro u hu; exact cellsB_one blk u (by simpa using hu)) ?_)
        | (refine wpList_loadN rfl 201 _ rfl (wr.heap.size + 1) _ rfl hz3.symm 64 21 (by kernel_rfl) (infoBlkS.trans (by simp [HB.out.2.2.1])) ?_)
        | (at_mapUpdate; (refine wpList_put_at rfl _ _ _ rfl kl_int Tryz.underlying199 rfl (k := x.1 / 64) rfl rfl (ho3.below ((Below.refl _ _).alloc (Nat.le_refl _) _)) HS.out.2.2.2.2.2.1 HS.out.2.2.2.2.2.2.1 HS.out.2.2.2.2.1 ?_; intro w5 ho5 hg5 hz5; have hs5 := (hs3.below ((Below.refl _ _).alloc (Nat.le_refl _) _)).grown hg5 (by simp); have hb5 : Below w.heap.size w w5 := (hb3.alloc hb3.size _).grown hg5 (by have := hb3.size; simp; omega) (fun k hk => by simp at hk; omega); have hz5 : w5.heap.size = wr.heap.size + 2 := (by rw [hz5]; simp [hz3]); clear hs3 hb3 hp1 hp2 ho3 hg5 hz3)))
      go_roundw
      case rel =>
        refine ⟨q + 1, aput ms x.1 (.bool true), ownAdd own x.1 x.2, by go_num, by omega, hs5, ?_, by omega, hb5, Lib.hid ⟨?_, ?_⟩⟩
        · have e : (ownAdd own x.1 x.2).map (fun p => (p.1, encB p.2)) = aput (own.map fun p => (p.1, encB p.2)) (x.1 / 64) (.agg ((cellsB blk).set (x.1 % 64).toNat (.int .i32 (x.2 : Nat))).toArray) := by
            unfold ownAdd
            rw [HB.out.1, ← aput_map]
            congr 1
            simp [encB, cellsB, List.map_set]
          rw [e]; exact ho5
        · rw [aput_new HS.out.2.2.1, List.map_append, hI.out.1, List.take_add_one, HS.out.2.2.2.2.2.2.2.1]; simp
        · rw [List.take_add_one, HS.out.2.2.2.2.2.2.2.1]
          refine hI.out.2.add hx1 hx2 hx3 ?_
          refine alook_none fun p hp e => ?_
          have h1 : p.1 ∈ ms.map (·.1) := by rw [hI.out.1]; exact List.mem_map.2 ⟨p, hp, rfl⟩
          obtain ⟨y, hy, e2⟩ := List.mem_map.1 h1
          exact alook_none_iff.1 HS.out.2.2.1 y hy (by rw [e2, e])
      case measure => simp [intOf]; omega
    · obtain rfl : q = L.length := by omega
      have hown1 : Hid (OwnOk L own) := Lib.hid (by have := hI.out.2; rwa [List.take_length] at this)
      clear hs hI
      obtain ⟨i0, hi, hz0, hz1, hz2⟩ := info_parts infoBlk
      have hol : own.length ≤ 10000 := by have := hown1.out.len; omega
      have hook : ∀ p ∈ own.map (fun p => (p.1, encB p.2)), i64ok p.1 := by
        intro p hp
        obtain ⟨y, hy, rfl⟩ := List.mem_map.1 hp
        have := hown1.out.ok y hy
        unfold i64ok; simp only; omega
      have hond : ((own.map (fun p => (p.1, encB p.2))).map (·.1)).Nodup := by rw [keys_map]; exact hown1.out.nd
      have HS := Lib.hid (And.intro hook hond)
      clear hook hond
      obtain ⟨wz, rfl⟩ : ∃ wz : World, wz = wr := ⟨_, rfl⟩
      have hB := BSt.made (own := own) ho hb (by omega) (by omega)
      have HOK := Lib.hid (And.intro zeroBlk zeroInt)
      obtain ⟨i1, hi1, _, hs1, _⟩ := info_parts infoBlks
      clear ho hb
      go_wp2_with (first
        | (at_len; refine wpList_len_at rfl _ rfl Tryz.underlying199 rfl hB.own ?_)
        | (at_builtin; (refine wpList_append_sl rfl _ _ 202 rfl w.heap.size 201 i0 (encB zeroB) 64 256 Tryz.underlying202 hi hz0 hz1 hz2 rfl (by decide) _ _ _ rfl (owns_below hB.row ((Below.refl _ _).alloc (Nat.le_refl _) _)) _ 1 (cellsB zeroB) rfl (SlBlk _ zeroB rfl _ (by simp)) (cellsB_one zeroB) (by unfold maxLen; decide) (by decide) (by have := hB.below.size; simp; omega) ?_; intro v4 w4 hown4 hg4; have hB4 := (hB.next ((Below.refl _ _).alloc (Nat.le_refl _) _)).app (b := zeroB) rfl rfl hown4 hg4; obtain ⟨a4, c4, rfl, hc4, hn4⟩ := owns_slice hown4; clear hown4 hg4 hB))
        | ((refine wpList_storeC rfl 202 _ _ rfl (b := wz.heap.size + 1) (i := 0) rfl hB4.tb (by simp) rfl rfl hi1 hs1 ?_); intro w5 h5 hg5 hz5; have hB5 := hB4.store rfl h5 hg5; clear hB4 h5 hg5 hz5)
        | (at_mapUpdate; (refine wpList_put_at rfl _ _ _ rfl kl_blk Tryz.underlying205 rfl (k := zeroB) rfl (v := .int .i64 (0 : Nat)) rfl hB5.fd (by simp) (by simp) okB_zero ?_; intro w6 h6 hg6 hz6; have hB6 := hB5.putF h6 hg6; clear hB5 h6 hg6 hz6)))
      refine (keysB_any _ _).mono ?_
      rintro e w7 ⟨rfl, rfl⟩
      have hB7 := hB6.next ((Below.refl _ _).alloc (Nat.le_refl _) (.cells #[.map (some (w1.heap.size + 1))] 199))
      have hcs := sortedB_any (w6.alloc (.cells #[.map (some (w1.heap.size + 1))] 199)) (w1.heap.size + 1) w6.heap.size _ hB7.own HS.out.1 HS.out.2 (by rw [List.length_map]; omega) (by simp) (by simp)
      go_wp2_with fail
      refine hcs.mono ?_
      rintro e w8 ⟨kv, ss, rfl, hperm, hkey, hb8⟩
      have hB8 := hB7.next hb8
      have hB9 : BSt w w8 wz.heap.size (w1.heap.size + 1) kv ss own (.slice a4 1 c4) (.slice a4 1 c4) [zeroB] [(zeroB, 0)] [] := { hB8 with key := ownsRow_base_a hkey hB7.below.size }
      rw [keys_map] at hperm
      have hsn : ss.Nodup := hperm.nodup_iff.2 hown1.out.nd
      have hsl : ss.length ≤ 10000 := by rw [hperm.length_eq, List.length_map]; omega
      have HP := Lib.hid (And.intro hperm hsn)
      obtain ⟨ka, kc, rfl, hkc, hkn⟩ := owns_slice hkey
      clear hB7 hB6 hB8 hcs hb8 hkey hperm hsn hc4 hn4 hkc hkn
      go_wp2_with fail
      go_loopw [73] (fun i wr => ∃ (q : Nat) (bl : List (List Int)) (fl : List (List Int × Nat)) (il : List (Int × Nat)) (bv : Value), i = .int .i64 q ∧ q ≤ ss.length ∧ BSt w wr wz.heap.size (w1.heap.size + 1) (.slice ka ss.length kc) ss own bv bv bl fl il ∧ Hid (TrOk own ss q bl fl il)) (fun i _ => ss.length - (intOf i).toNat)
      case atStart => exact ⟨0, _, _, _, _, rfl, Nat.zero_le _, hB9, Lib.hid (TrOk.start own ss)⟩
      case round =>
        clear hB9
        obtain ⟨q, bl, fl, il, bv, rfl, hq, hB, hI⟩ := hrel
        by_cases hq1 : q < ss.length
        · obtain ⟨k, hk⟩ : ∃ k, ss[q]? = some k := ⟨ss[q], List.getElem?_eq_getElem hq1⟩
          have hkm : k ∈ own.map (·.1) := HP.out.1.mem_iff.1 (List.mem_of_getElem? hk)
          obtain ⟨b, hb⟩ : ∃ b, alook own k = some b := by
            cases ha : alook own k with
            | some b => exact ⟨b, rfl⟩
            | none =>
              obtain ⟨p, hp, e⟩ := List.mem_map.1 hkm
              exact absurd e (alook_none_iff.1 ha p hp)
          have hbok : okB b := by have := hown1.out.okB k; rwa [hb] at this
          have hki : i64ok k := by
            obtain ⟨p, hp, e⟩ := List.mem_map.1 hkm
            have := hown1.out.ok p hp
            rw [← e]; unfold i64ok; omega
          have hksl : SlI wr (.slice ka ss.length kc) ss := by have := Sl.of_owns hB.key; exact this
          obtain ⟨_, _, e1, _, _, hko⟩ := hksl.open
          cases e1
          obtain ⟨kb, ko, rfl, hkb, hkcell⟩ := hko (by omega)
          have hkc := hkcell q k hk
          have hc1 := cell_of_block hB.tb (i := 1) rfl
          have hc0 := cell_of_block hB.tb (i := 0) rfl
          have hv1 : (alook (own.map (fun p => (p.1, encB p.2))) k).getD (encB zeroB) = .agg (cellsB b).toArray := by rw [alook_map, hb]; rfl
          have hfok : ∀ p ∈ fl.map (fun p => (p.1, Value.int .i64 (p.2 : Nat))), okB p.1 := by
            intro p hp
            obtain ⟨y, hy, rfl⟩ := List.mem_map.1 hp
            exact (hI.out.fok y hy).1
          have hfnd : ((fl.map (fun p => (p.1, Value.int .i64 (p.2 : Nat)))).map (·.1)).Nodup := by rw [keys_map (fun i : Nat => Value.int .i64 (i : Nat))]; exact hI.out.fnd
          have hiok : ∀ p ∈ il.map (fun p => (p.1, Value.int .i64 (p.2 : Nat))), i64ok p.1 := by
            intro p hp
            obtain ⟨y, hy, rfl⟩ := List.mem_map.1 hp
            obtain ⟨b', h1, _⟩ := hI.out.iok y hy
            have := hown1.out.ok _ (alook_mem h1)
            unfold i64ok; simp only at this ⊢; omega
          have hind : ((il.map (fun p => (p.1, Value.int .i64 (p.2 : Nat)))).map (·.1)).Nodup := by
            rw [keys_map (fun i : Nat => Value.int .i64 (i : Nat)), hI.out.ikeys]; exact HP.out.2.sublist (List.take_sublist _ _)
          have HQ := Lib.hid (And.intro hbok (And.intro hki (And.intro hv1 (And.intro hfok (And.intro hfnd (And.intro hiok (And.intro hind (And.intro hk hb))))))))
          clear hbok hki hv1 hfok hfnd hiok hind hk hb hkm hksl hko hkcell
          have hbll := hI.out.blen
          obtain ⟨ba, bc, rfl, hbc, hbn⟩ := owns_slice hB.row
          cases hf : alook fl b with
          | some i =>
            have hv2 : (if true then Value.tuple #[(alook (fl.map fun p => (p.1, Value.int .i64 (p.2 : Nat))) b).getD (.int .i64 0), .bool (alook (fl.map fun p => (p.1, Value.int .i64 (p.2 : Nat))) b).isSome] else (alook (fl.map fun p => (p.1, Value.int .i64 (p.2 : Nat))) b).getD (.int .i64 0)) = .tuple #[.int .i64 (i : Nat), .bool true] := by rw [alook_map (fun i : Nat => Value.int .i64 (i : Nat)), hf]; rfl
            have HF := Lib.hid (And.intro hf hv2)
            clear hf hv2
            go_wp2_with (first
              | (at_lookup; refine wpList_look_at rfl _ _ false rfl kl_int Tryz.underlying199 rfl (k := k) rfl hB.own HS.out.1 HS.out.2 HQ.out.2.1 zeroBlk HQ.out.2.2.1 ?_)
              | (at_lookup; refine wpList_look_at rfl _ _ true rfl kl_blk Tryz.underlying205 rfl (k := b) rfl hB.fd HQ.out.2.2.2.1 HQ.out.2.2.2.2.1 HQ.out.1 zeroInt HF.out.2 ?_)
              | (at_mapUpdate; refine wpList_put_at rfl _ _ _ rfl kl_int Tryz.underlying162 rfl (k := k) rfl (v := .int .i64 (i : Nat)) rfl hB.ix HQ.out.2.2.2.2.2.1 HQ.out.2.2.2.2.2.2.1 HQ.out.2.1 ?_; intro w6 h6 hg6 hz6; have hB2 := hB.putI h6 hg6; clear hB h6 hg6 hz6))
            go_roundw
            case rel => exact ⟨q + 1, _, _, _, _, by go_num, by omega, hB2, Lib.hid (hI.out.old HP.out.2 HQ.out.2.2.2.2.2.2.2.1 HQ.out.2.2.2.2.2.2.2.2 HF.out.1)⟩
            case measure => simp [intOf]; omega
          | none =>
            have hv2 : (if true then Value.tuple #[(alook (fl.map fun p => (p.1, Value.int .i64 (p.2 : Nat))) b).getD (.int .i64 0), .bool (alook (fl.map fun p => (p.1, Value.int .i64 (p.2 : Nat))) b).isSome] else (alook (fl.map fun p => (p.1, Value.int .i64 (p.2 : Nat))) b).getD (.int .i64 0)) = .tuple #[.int .i64 0, .bool false] := by rw [alook_map (fun i : Nat => Value.int .i64 (i : Nat)), hf]; rfl
            have HF := Lib.hid (And.intro hf hv2)
            clear hf hv2
            go_wp2_with (first
              | (at_lookup; refine wpList_look_at rfl _ _ false rfl kl_int Tryz.underlying199 rfl (k := k) rfl hB.own HS.out.1 HS.out.2 HQ.out.2.1 zeroBlk HQ.out.2.2.1 ?_)
              | (at_lookup; refine wpList_look_at rfl _ _ true rfl kl_blk Tryz.underlying205 rfl (k := b) rfl hB.fd HQ.out.2.2.2.1 HQ.out.2.2.2.2.1 HQ.out.1 zeroInt HF.out.2 ?_))
            have hBd := hB.next (Below.drewN (Below.refl _ _) 1)
            rw [show wr.drewN 1 = wr.drew from rfl] at hBd
            have hcd0 := cell_of_block hBd.tb (i := 0) rfl
            have hlk : (Instr.lookup 199 (.map (some (w1.heap.size + 1))) (.int .i64 k) false).run Tryz.prog wr.drew = .ok (.agg (cellsB b).toArray) wr.drew := by
              have := hBd.own.run_look kl_int Tryz.underlying199 HS.out.1 HS.out.2 HQ.out.2.1 zeroBlk false
              rw [HQ.out.2.2.1] at this; exact this
            have hcd1 : ((wr.alloc (.cells (cellsB b).toArray 201)).drew).cell? ⟨wz.heap.size + 1, 0, none⟩ = some (.slice ba bl.length bc) := cell_of_block ((hBd.next ((Below.refl _ _).alloc (Nat.le_refl _) (.cells (cellsB b).toArray 201))).tb) (i := 0) rfl
            have hws := hB.below.size
            have hfold := fold_blk b HQ.out.1.1
            have hcl : (cellsB b).length = 64 := by simp [cellsB, HQ.out.1.1]
            clear hB
            go_region_law (refine step_append_sl rfl _ _ 202 rfl w.heap.size 201 i0 (encB zeroB) 64 256 Tryz.underlying202 hi hz0 hz1 hz2 rfl (by decide) _ _ _ rfl (owns_below hBd.row ((Below.refl _ _).alloc (Nat.le_refl _) _)) _ 1 (cellsB b) rfl (SlBlk _ b HQ.out.1.1 _ rfl) (by decide) (cellsB_one b) (by unfold maxLen; omega) (by omega) (by simp; omega) ?_; intro v4 w4 hown4 hg4; have hB4 := (hBd.next ((Below.refl _ _).alloc (Nat.le_refl _) _)).app (b := b) rfl rfl hown4 hg4; obtain ⟨a4, c4, rfl, hc4, hn4⟩ := owns_slice hown4; have hcc := cell_of_block hB4.tb (i := 0) rfl; have hcf := frozen_of_block hB4.tb (i := 0); clear hown4 hg4)
            all_goals
              have hB5 := hB4.store rfl (heap_setCell (i := 0) (.slice a4 (bl.length + 1) c4) hB4.tb) (grownBy_setCell _ _ _ _)
              generalize w4.setCell ⟨wz.heap.size + 1, 0, none⟩ (.slice a4 (bl.length + 1) c4) = w5 at hB5 ⊢
              have hc1 := cell_of_block hB5.tb (i := 1) rfl
              clear hB4 hcc hcf hlk hcd0 hcd1 hfold hcl hBd hc4 hn4 hc0
              go_wp2_with (first
                | (at_lookup; refine wpList_look_at rfl _ _ false rfl kl_int Tryz.underlying199 rfl (k := k) rfl hB5.own HS.out.1 HS.out.2 HQ.out.2.1 zeroBlk HQ.out.2.2.1 ?_)
                | (at_mapUpdate; refine wpList_put_at rfl _ _ _ rfl kl_blk Tryz.underlying205 rfl (k := b) rfl (v := .int .i64 (bl.length : Nat)) rfl hB5.fd HQ.out.2.2.2.1 HQ.out.2.2.2.2.1 HQ.out.1 ?_; intro w6 h6 hg6 hz6; have hB6 := hB5.putF h6 hg6; have hc1 := cell_of_block hB6.tb (i := 1) rfl; clear hB5 h6 hg6 hz6)
                | (at_mapUpdate; refine wpList_put_at rfl _ _ _ rfl kl_int Tryz.underlying162 rfl (k := k) rfl (v := .int .i64 (bl.length : Nat)) rfl hB6.ix HQ.out.2.2.2.2.2.1 HQ.out.2.2.2.2.2.2.1 HQ.out.2.1 ?_; intro w7 h7 hg7 hz7; have hB7 := hB6.putI h7 hg7; clear hB6 h7 hg7 hz7))
              go_roundw
              case rel =>
                refine ⟨q + 1, bl ++ [b], aput fl b bl.length, aput il k bl.length, .slice a4 (bl.length + 1) c4, by go_num, by omega, ?_, Lib.hid (hI.out.new HP.out.2 HQ.out.2.2.2.2.2.2.2.1 HQ.out.2.2.2.2.2.2.2.2 HQ.out.1)⟩
                exact hB7
              case measure => simp [intOf]; omega
        · obtain rfl : q = ss.length := by omega
          go_wp2_with fail
          go_ret2
          exact ⟨_, rfl, trie_done hB hI.out hown1.out HH.out.2 HP.out.1 hsl, hB.below⟩
end Go.Proofs.YtccdkchmeelkfaaGreatDoor

/- (W18) table.build. -/
namespace Go.Proofs.YtccdkchmeelkfaaGreatDoor
open Go.RowKit Go.Maps

theorem wp_tail {P : Program} {Q : Exit → Act → World → Prop} {a : Act} {w : World} {id : Nat} {l : List Oper} (n : Nat) (hm : P.follows .mixedOrders = true) (hB : Region.lexTailB .any l.toArray n = true)
    (h : ∀ wd, wd = w.drewN 1 → wpStill P l.toArray wd (fun a' => wpList P l.toArray Q (l.drop n) a' wd) (l.take n) a) : (Code.region id l.toArray true).wp P Q a w :=
  wp_region_still_tail n hm hB (h _ rfl)
theorem infoPair : (Tryz.prog.info? 165).map (fun i => (i.zero, i.size, i.bytes)) = some (some (.agg #[.int .i64 0, .int .i64 0]), 2, 16) := by kernel_rfl
theorem SlNew2 (w : World) (a b : Value) (T n : Nat) (hn : n = w.heap.size) : Sl (w.alloc (.cells #[a, b] T)) 2 (.slice (some ⟨n, 0, none⟩) 1 1) 1 [a, b] := by
  subst hn
  refine ⟨rfl, _, 1, rfl, Nat.le_refl _, (fun h => by cases h), fun _ => ⟨w.heap.size, 0, rfl, by simp, fun j x hj => ?_⟩⟩
  exact new_cells w [a, b] _ _ rfl j x hj

theorem wpList_next_ii {P : Program} {w : World} {ib r : Nat} {f left : List (Int × Nat)} {ops : Array Oper} {rest : List Oper} {o : Oper} {a : Act} {Q : Exit → Act → World → Prop} (hg : o.guard = none) (x : Operand) (hop : o.op = Op.next x false) (hx : a.eval x = .pointer (some ⟨ib, 0, none⟩)) (h : IterAt (Value.int .i64) w ib r (f.map fun p => (p.1, Value.int .i64 (p.2 : Nat))) (left.map fun p => (p.1, Value.int .i64 (p.2 : Nat))))
    (hD : left = [] → wpList P ops Q rest (a.put o.dst (.tuple #[.bool false])) w)
    (hM : ∀ i (c : Int) (n : Nat) w', left[i]? = some (c, n) → IterAt (Value.int .i64) w' ib r (f.map fun p => (p.1, Value.int .i64 (p.2 : Nat))) ((left.eraseIdx i).map fun p => (p.1, Value.int .i64 (p.2 : Nat))) → w.grownBy w' (some ib) → w'.heap.size = w.heap.size →
      (Instr.entry (.pointer (some ⟨ib, 0, none⟩))).run P w' = .ok (.tuple #[.int .i64 c, .int .i64 (n : Nat)]) w' → wpList P ops Q rest (a.put o.dst (.tuple #[.bool true, .int .i64 c, .int .i64 (n : Nat)])) w') : wpList P ops Q (o :: rest) a w :=
  wpList_next_at hg x hop hx h (fun hl => hD (by simpa using hl)) (fun i k v w' hi hit hg hs hen => by
    rw [List.getElem?_map] at hi
    cases hp : left[i]? with
    | none => rw [hp] at hi; cases hi
    | some p =>
      rw [hp] at hi
      have e := Option.some.inj hi
      simp only [Prod.mk.injEq] at e
      obtain ⟨rfl, rfl⟩ := e
      exact hM i p.1 p.2 w' hp (by rw [map_erase]; exact hit) hg hs hen)

set_option maxRecDepth 100000 in
set_option maxHeartbeats 4000000 in
theorem tbuild_any (w : World) (mb : Nat) (T T' : Tab Nat) (hen : EntsAt w mb T') (hperm : T'.Perm T) (hok : okTab T) :
    Calls Tryz.prog 54 #[.map (some mb)] w fun e w' => ∃ p, e = .returned p ∧ TableAt w' p T ∧ Below w.heap.size w w' := by
  have hen0 := hen
  obtain ⟨m, hm, h2, h3⟩ := hen
  have H3 := Lib.hid (And.intro h2 (And.intro h3 (And.intro hen0 (And.intro hperm hok))))
  have hml : m.length ≤ 500 := by
    have := congrArg List.length h2
    simp at this
    rw [this, hperm.length_eq]; exact hok.2.2.1
  have hmb := hm.lt
  clear h2 h3 hen0 hperm hok
  have hmm := @run_makeMap Tryz.prog
  have hF0 := MapAt.made w (Value.int .i64)
  have hm0 := hm.below ((Below.refl _ _).alloc (Nat.le_refl _) (.map #[] 0))
  go_enter Tryz.func54, Tryz.ntmps54
  go_wp2_with (at_range; refine wpList_range_at rfl _ rfl Tryz.underlying88 rfl hm0 ?_; intro w0 hit0 hg0 hs0; simp only [World.size_alloc] at hit0 ⊢)
  have hw0 : Below w.heap.size w w0 := ((Below.refl _ _).alloc (Nat.le_refl _) _).grown hg0 (by simp) (fun k hk => by cases hk)
  have hF := hF0.grown hg0 (by simp)
  have hz0 : w0.heap.size = w.heap.size + 2 := by rw [hs0]; simp

  clear hg0 hm hs0 hm0 hF0
  go_frame
  go_loopg [5] m.length (fun gg _ wr => ∃ left done f D, IterAt encK wr (w.heap.size + 1) mb m left ∧ MapAt (Value.int .i64) wr w.heap.size (f.map fun p => (p.1, Value.int .i64 (p.2 : Nat))) ∧ Below w.heap.size w wr ∧ w.heap.size + 2 ≤ wr.heap.size ∧ left.length ≤ gg ∧ Hid ((done ++ left).Perm m ∧ FirstOk D f ∧ D.map k3 = done.map (·.1) ∧ ∀ k ∈ D, okKey k))
  case atStart => exact ⟨m, [], [], [], hit0, hF, hw0, by omega, Nat.le_refl _, Lib.hid ⟨by simp, FirstOk.nil, rfl, by simp⟩⟩
  case round =>
    obtain ⟨left, done, f, D, hit, hF, hnx, hsz, hgg, hI⟩ := hrel
    clear hit0 hw0 hz0
    obtain ⟨wo, rfl⟩ : ∃ wo : World, wo = wr := ⟨_, rfl⟩
    go_wp2_with (first
      | (at_next; refine wpList_next_seq rfl _ rfl rfl hit (fun hl => ?_) (fun i x1 x2 x3 v w1 hi hit1 hg1 hs1 hen => ?_))
      | (at_range; refine wpList_range_at rfl _ rfl Tryz.underlying162 rfl hF ?_; intro w5 hit5 hg5 hs5))
    · subst hl
      have hfl : f.length ≤ 500 := by
        have h1 := hI.out.2.1.len
        have h4 := congrArg List.length hI.out.2.2.1
        have h5 := hI.out.1.length_eq
        simp at h4 h5
        omega
      have hfok : okPairs f := ⟨hI.out.2.1.ok, hI.out.2.1.nd, by omega⟩
      have hlong : ∀ c, (alook f c).getD 0 = longS T c := by
        intro c
        rw [hI.out.2.1.val]
        refine longK_eq (fun k => ⟨fun hk => ?_, ?_⟩) c
        · have h1 : k3 k ∈ m.map (·.1) := by
            refine (hI.out.1.map (·.1)).mem_iff.1 ?_
            rw [List.append_nil, ← hI.out.2.2.1]; exact List.mem_map.2 ⟨k, hk, rfl⟩
          rw [H3.out.1] at h1
          obtain ⟨e, he, e1⟩ := List.mem_map.1 h1
          have heT := H3.out.2.2.2.1.mem_iff.1 he
          exact ⟨e, heT, k3_inj (H3.out.2.2.2.2.1 e heT) (hI.out.2.2.2 k hk) e1⟩
        · rintro ⟨e, he, rfl⟩
          have h1 : k3 e.1 ∈ m.map (·.1) := by rw [H3.out.1]; exact List.mem_map.2 ⟨e, H3.out.2.2.2.1.mem_iff.2 he, rfl⟩
          have h2 := (hI.out.1.map (·.1)).mem_iff.2 h1
          rw [List.append_nil, ← hI.out.2.2.1] at h2
          obtain ⟨k, hk, e1⟩ := List.mem_map.1 h2
          rw [← k3_inj (hI.out.2.2.2 k hk) (H3.out.2.2.2.2.1 e he) e1]; exact hk
      have HL := Lib.hid (And.intro hfok hlong)
      clear hfok hlong hit hI hgg
      obtain ⟨i0, hi0, hz0, hz1, hz2⟩ := info_parts infoPair
      have hw5 := hnx.grown hg5 hnx.size (fun k hk => by cases hk)
      have hsz5 := Nat.le_trans hsz hg5.size
      have hwo := hsz
      clear hnx hsz hF
      go_frame
      go_loopg [6] f.length (fun gg r wr => ∃ left P, IterAt (Value.int .i64) wr wo.heap.size w.heap.size (f.map fun p => (p.1, Value.int .i64 (p.2 : Nat))) (left.map fun p => (p.1, Value.int .i64 (p.2 : Nat))) ∧ wr.ownsRow w.heap.size 165 2 r P.length (cellsP P) ∧ Below w.heap.size w wr ∧ wo.heap.size + 1 ≤ wr.heap.size ∧ left.length ≤ gg ∧ Hid ((P ++ left).Perm f))
      case atStart => exact ⟨f, [], hit5, World.ownsRow_nil _ _ _ _, hw5, by omega, Nat.le_refl _, Lib.hid (by simp)⟩
      case round =>
        obtain ⟨left, P, hit, hown, hnx, hsz, hgg, hI⟩ := hrel
        clear hit5 hw5 hsz5 hg5 hs5
        obtain ⟨wo2, rfl⟩ : ∃ wo2 : World, wo2 = wr := ⟨_, rfl⟩
        have hPl : P.length ≤ 500 := by have := hI.out.length_eq; simp at this; omega
        have hws := hnx.size
        have HNE : Hid (u6.ownBlock = none ∨ u6.ownBlock ≠ some wo.heap.size) := Lib.hid (by
          obtain ⟨_, _, _, _, _, _, _, hob, _⟩ := hit
          exact ownsRow_ne_a hown hob (fun _ e => by cases e))
        go_wp2_with (first
          | (at_next; refine wpList_next_ii rfl _ rfl rfl hit (fun hl => ?_) (fun i k n w1 hi hit1 hg1 hs1 hen => ?_))
          | (at_builtin; refine wpList_append_sl rfl _ _ 163 rfl w.heap.size 165 i0 (.agg #[.int .i64 0, .int .i64 0]) 2 16 Tryz.underlying163 hi0 hz0 hz1 hz2 rfl (by decide) _ _ _ rfl (owns_below (hown.kept hg1 HNE.out) ((Below.refl _ _).alloc (Nat.le_refl _) _)) _ 1 [.int .i64 k, .int .i64 (n : Nat)] rfl (SlNew2 _ _ _ _ _ hs1.symm) (by intro u hu; simp at hu; rcases hu with rfl | rfl <;> rfl) (by unfold maxLen; omega) (by omega) (by simp; omega) ?_; intro v2 w2 hown2 hg2))
        · subst hl
          have hpf : P.Perm f := by simpa using hI.out
          have hokP : okPairs P := ⟨fun p hp => HL.out.1.1 p (hpf.mem_iff.1 hp), (hpf.map (·.1)).nodup_iff.2 HL.out.1.2.1, by rw [hpf.length_eq]; exact HL.out.1.2.2⟩
          have hbl := build_any wo2 u6 P (Sl.of_owns hown) hokP
          have hlg : (fun c => (alook P c).getD 0) = longS T := by
            funext c
            rw [alook_perm hpf hokP.2.1, HL.out.2]
          rw [hlg] at hbl
          clear hit hokP hpf hlg
          refine hbl.mono ?_
          rintro e w6 ⟨p, rfl, htr, hb6⟩
          have HTR := Lib.hid htr
          obtain ⟨tb, _, _, _, _, _, rfl, _⟩ := htr
          go_wp2_with fail
          go_ret
          have hb7 := Below.next hnx hb6
          have b8 := (Below.refl w6.heap.size w6).alloc (Nat.le_refl _) (.cells #[.map (some mb), .pointer (some ⟨tb, 0, none⟩)] 91)
          exact ⟨_, rfl, ⟨w6.heap.size, mb, _, T', rfl, by simp, by simp, by simp, HTR.out.below b8, H3.out.2.2.1.below (Below.next hb7 b8), H3.out.2.2.2.1, H3.out.2.2.2.2⟩, Below.next hb7 b8⟩
        · have b1 := (Below.refl w1.heap.size w1).alloc (Nat.le_refl _) (.cells #[.int .i64 k, .int .i64 (n : Nat)] 165)
          have hown1 := owns_below (hown.kept hg1 HNE.out) b1
          have hitA := hit1.below b1
          have hitA0 := hitA
          obtain ⟨_, _, _, hrb, _, _, _, hob, _⟩ := hitA0
          have hit2 := hitA.grown hg2 (obj_ne hown1 hrb (fun _ e => by cases e)) (obj_ne hown1 hob (fun _ e => by cases e))
          have hw1 := Below.next (hnx.grown hg1 hnx.size (fun k hk => by simp at hk; omega)) b1
          have hw2 := below_grown hw1 hown1 hg2
          have hsz2 : wo.heap.size + 1 ≤ w2.heap.size := by have := hg2.size; simp at this; omega
          have HI := Lib.hid (And.intro hi (And.intro hown2 (And.intro hit2 hw2)))
          clear hi hown2 hit2 hw2 hit1 hg1 hen hg2 hown1 hitA hrb hob hw1 hnx hit hown hs1 b1
          go_roundg (left.eraseIdx i).length
          case measure =>
            have hlt : i < left.length := (List.getElem?_eq_some_iff.1 HI.out.1).1
            rw [List.length_eraseIdx_of_lt hlt]; omega
          case rel =>
            refine ⟨left.eraseIdx i, P ++ [(k, n)], HI.out.2.2.1, ?_, HI.out.2.2.2, hsz2, Nat.le_refl _, Lib.hid (perm_take_out hI.out HI.out.1)⟩
            rw [cellsP_append, List.length_append]
            exact HI.out.2.1
    · have hmi : ((x1, x2, x3), v) ∈ m := hI.out.1.mem_iff.1 (List.mem_append_right _ (List.mem_of_getElem? hi))
      obtain ⟨j, hj⟩ := List.getElem?_of_mem hmi
      obtain ⟨e, he, hke, hve⟩ := k3_of_mem H3.out.1 H3.out.2.1 hj
      simp only at hke hve
      have heT : e ∈ T := H3.out.2.2.2.1.mem_iff.1 (List.mem_of_getElem? he)
      have hek := H3.out.2.2.2.2.1 e heT
      have hsg := fun w => signs_any w e.1 hek
      rw [← hke] at hsg
      simp only [encK] at hsg
      obtain ⟨c, rest, hkc⟩ : ∃ c rest, e.1 = c :: rest := by
        cases h0 : e.1 with
        | nil => rw [h0] at hek; exact absurd hek.1 (by simp)
        | cons c r => exact ⟨c, r, rfl⟩
      have hhead : e.1.head? = some c := by rw [hkc]; rfl
      have hcs := isSign_bd (hek.2.2 c (by rw [hkc]; simp))
      have hl3 := hek.2.1
      have hl1 := hek.1
      have hc64 : i64ok c := by unfold i64ok; omega
      have hfok : ∀ p ∈ f.map (fun p => (p.1, Value.int .i64 (p.2 : Nat))), i64ok p.1 := by
        intro p hp
        obtain ⟨y, hy, rfl⟩ := List.mem_map.1 hp
        have := hI.out.2.1.ok y hy
        unfold i64ok; simp only; omega
      have hfnd : ((f.map (fun p => (p.1, Value.int .i64 (p.2 : Nat)))).map (·.1)).Nodup := by rw [keys_map (fun i : Nat => Value.int .i64 (i : Nat))]; exact hI.out.2.1.nd
      obtain ⟨old, hold⟩ : ∃ old, (alook f c).getD 0 = old := ⟨_, rfl⟩
      have hold3 : old ≤ 3 := by
        rw [← hold]
        cases ha : alook f c with
        | none => exact Nat.zero_le 3
        | some v => exact (hI.out.2.1.ok _ (alook_mem ha)).2.2
      have hlv : (alook (f.map fun p => (p.1, Value.int .i64 (p.2 : Nat))) c).getD (.int .i64 0) = .int .i64 (old : Nat) := by
        rw [alook_map (fun i : Nat => Value.int .i64 (i : Nat)), ← hold]; cases alook f c <;> rfl
      have H4 := Lib.hid (And.intro hi (And.intro hke (And.intro hek (And.intro hhead (And.intro hfok (And.intro hfnd (And.intro hold hlv)))))))
      have hF1 := hF.grown hg1 (by simp)
      clear hi hmi hj he hke hve heT hek hit hen hF hfok hfnd hold hlv hhead
      have hw1 : Below w.heap.size w w1 := hnx.grown hg1 hnx.size (fun k hk => by simp at hk; omega)
      refine (hsg _).mono ?_
      clear hsg
      rintro e' w2 ⟨sv, rfl, hown, hb2⟩
      have hsl : SlI w2 sv e.1 := Sl.of_owns hown
      have b1 := fun (u : World) => (Below.refl u.heap.size u).alloc (Nat.le_refl _) (.cells #[.int .i64 x1, .int .i64 x2, .int .i64 x3] 93)
      have hw2 := Below.next (Below.next hw1 (b1 w1)) hb2
      have hit2 := (hit1.below (b1 w1)).below hb2
      have hF2 := (hF1.below (b1 w1)).below hb2
      have hsz2 : w.heap.size + 2 ≤ w2.heap.size := by have := hb2.size; simp at this; omega
      obtain ⟨a2, c2, rfl, hc2, _, hop⟩ := hsl.open
      obtain ⟨b2, o2, rfl, hbb, hcc⟩ := hop (by omega)
      have hcell := hcc 0 c (by
        have := H4.out.2.2.2.1
        cases h0 : e.1 with
        | nil => rw [h0] at this; cases this
        | cons c' r => rw [h0] at this; simpa using this)
      have HKC := Lib.hid hkc
      clear hop hown hb2 hsl hcc hit1 hs1 hw1 hg1 hF1 b1 hkc
      go_wp2_with fail
      refine wp_tail 12 (by kernel_rfl) (by kernel_rfl) (fun wd hwd => ?_)
      have bd : Below w2.heap.size w2 wd := by rw [hwd]; exact Below.drewN (Below.refl _ _) 1
      have hit3 := hit2.below bd
      have hF3 := hF2.below bd
      have hw3 := Below.next hw2 bd
      have hsz3 := Nat.le_trans hsz2 bd.size
      have hcell3 := (bd.cell (p := ⟨b2, o2 + 0, none⟩) hbb).trans hcell
      have hlk : (Instr.lookup 162 (.map (some w.heap.size)) (.int .i64 c) false).run Tryz.prog wd = .ok (.int .i64 (old : Nat)) wd := by
        have := hF3.run_look kl_int Tryz.underlying162 H4.out.2.2.2.2.1 H4.out.2.2.2.2.2.1 hc64 zeroInt false
        rw [H4.out.2.2.2.2.2.2.2] at this; exact this
      clear hit2 hF2 hw2 hsz2 bd hwd hcell
      simp only [List.take_succ_cons, List.take_zero, List.drop_succ_cons, List.drop_zero]
      have hl0 : 0 < e.1.length := by omega
      rw [Nat.add_zero] at hcell3
      repeat still_step
      refine wpStill_nil ?_
      clear hlk hcell3
      go_wp2_with (at_mapUpdate; refine wpList_put_at rfl _ _ _ rfl kl_int Tryz.underlying162 rfl (k := c) rfl (v := .int .i64 (max (old : Int) (e.1.length : Int))) rfl hF3 H4.out.2.2.2.2.1 H4.out.2.2.2.2.2.1 hc64 ?_; intro w4 hF4 hg4 hz4; have hit4 := hit3.grown hg4 (by simp; omega) (by simp); have hw4 := hw3.grown hg4 hw3.size (fun k hk => by simp at hk; omega); have hsz4 := Nat.le_trans hsz3 hg4.size; clear hit3 hF3 hw3 hsz3 hg4 hz4)
      go_roundg (left.eraseIdx i).length
      case measure =>
        have hlt : i < left.length := (List.getElem?_eq_some_iff.1 H4.out.1).1
        rw [List.length_eraseIdx_of_lt hlt]; omega
      case rel =>
        refine ⟨left.eraseIdx i, done ++ [((x1, x2, x3), v)], aput f c (max ((alook f c).getD 0) e.1.length), D ++ [e.1], hit4, ?_, hw4, hsz4, Nat.le_refl _, Lib.hid ⟨perm_take_out hI.out.1 H4.out.1, hI.out.2.1.add H4.out.2.2.1 H4.out.2.2.2.1, ?_, ?_⟩⟩
        · rw [← aput_map (fun i : Nat => Value.int .i64 (i : Nat)), H4.out.2.2.2.2.2.2.1, show ((max old e.1.length : Nat) : Int) = max (old : Int) (e.1.length : Int) by omega]
          exact hF4
        · rw [List.map_append, List.map_append, hI.out.2.2.1]; simp [H4.out.2.1]
        · intro k hk
          rcases List.mem_append.1 hk with hk | hk
          · exact hI.out.2.2.2 k hk
          · simp at hk; subst hk; exact H4.out.2.2.1
end Go.Proofs.YtccdkchmeelkfaaGreatDoor

/- (W19) Table.With. -/
namespace Go.Proofs.YtccdkchmeelkfaaGreatDoor
open Go.RowKit Go.Maps Go.Shelf


theorem mclone_any (w : World) (b : Nat) (m : List (K3 × Value)) (h : MapAt encK w b m) :
    Calls Tryz.prog 143 #[.map (some b)] w fun e w' => e = .returned (.map (some w.heap.size)) ∧ MapAt encK w' w.heap.size m ∧ Below w.heap.size w w' := by
  obtain ⟨es, clock, h1, h2⟩ := h
  refine (AnyW.maps_Clone Tryz.cloneM b es clock w h1).mono ?_
  rintro e w' ⟨rfl, rfl⟩
  exact ⟨rfl, ⟨es, clock, heap_alloc_last _ _, h2⟩, (Below.refl _ _).alloc (Nat.le_refl _) _⟩

/-- What With hands back: a table and 0, or none and why. -/
def WithIs (r : Except Int (Tab Nat)) (w : World) (e : Ending) (w' : World) : Prop :=
  Below w.heap.size w w' ∧ match r with
    | .error c => e = .returned (.tuple #[.pointer none, .int .i64 c])
    | .ok T => ∃ p, e = .returned (.tuple #[p, .int .i64 0]) ∧ TableAt w' p T

theorem with_tail {w w2 w3 w4 : World} {n : Nat} {T T' : Tab Nat} {m : List (K3 × Value)} {k : List Int} {l : List Nat} {v : Value} (hw2 : Below w.heap.size w w2) (hb3 : Below w2.heap.size w2 w3) (h2 : m.map (·.1) = T'.map (fun e => k3 e.1)) (h3 : ∀ (i : Nat) (q : K3 × Value) (e : List Int × List Nat), m[i]? = some q → T'[i]? = some e → SlE w q.2 e.2) (hperm : T'.Perm T) (hok : okTab T) (hk : okKey k) (hn : w.heap.size ≤ n)
    (hm3 : MapAt encK w3 n m) (hown : w3.ownsRow w2.heap.size 47 1 v l.length (cellsE l)) (hl : ∀ e ∈ l, e < 4294967296) (hm4 : MapAt encK w4 n (aput m (k3 k) v)) (hg4 : w3.grownBy w4 (some n)) :
    EntsAt w4 n (aput T' k l) ∧ (aput m (k3 k) v).length = (aput T k l).length ∧ (aput T' k l).Perm (aput T k l) ∧ Below w.heap.size w w4 := by
  have hw3 := Below.next hw2 hb3
  have hw4 := hw3.grown hg4 hw3.size (fun k hk => by simp at hk; omega)
  obtain ⟨es, clock, hob⟩ := hm3.obj
  have hv : SlE w4 v l := ⟨Sl.grown (Sl.of_owns hown) hg4 (by
    rcases ownsRow_ne_a hown hob (fun _ e => by cases e) with h | h
    · exact .inl h
    · exact .inr h), hl⟩
  have hokT' := hok.perm hperm
  obtain ⟨e1, e2⟩ := ents_put h2 (fun i q e hq he => (h3 i q e hq he).below hw4) hokT'.1 hk hv
  have hp := aput_perm hperm hokT'.2.1 k l
  refine ⟨⟨_, hm4, e1, e2⟩, ?_, hp, hw4⟩
  have := congrArg List.length e1
  simp only [List.length_map] at this
  rw [this, hp.length_eq]

set_option maxRecDepth 100000 in
set_option maxHeartbeats 4000000 in
theorem withT_any (w : World) (p v1 v2 : Value) (T : Tab Nat) (h : TableAt w p T) (k : List Int) (hk : SlI w v1 k) (hkn : k.length ≤ 1000000000) (l : List Nat) (hl : SlE w v2 l) (hln : l.length ≤ 1000000000) :
    Calls Tryz.prog 99 #[p, v1, v2] w (WithIs (withS T k l) w) := by
  have hkey := key_any w v1 k hk hkn
  obtain ⟨tb, mb, tp, T', rfl, ht, hc0, hc1, htr, hen, hperm, hok⟩ := h
  have hl0 := hl
  obtain ⟨a2, c2, rfl, hlc, hln0, _⟩ := hl.open
  by_cases hkk : okKey k
  · by_cases h8 : 8 < l.length
    · have hw : withS T k l = .error 1 := by simp [withS, h8]
      rw [hw]
      have HW := Lib.hid (And.intro hkk hw)
      rw [show KeyIs k w = fun e w' => KeyIs k w e w' from rfl] at hkey
      clear hw hkk hen htr hperm hok hl0 hl
      go_enter Tryz.func99, Tryz.ntmps99
      go_wp2_with fail
      refine hkey.mono ?_
      rintro e w1 ⟨hb, k', rfl, hk'⟩
      have hd : decide (okKey k) = true := by simpa using HW.out.1
      rw [hd]
      clear hk' hd
      simp only [encK]
      go_wp2_with fail
      go_ret2
      exact ⟨hb.alloc hb.size _, rfl⟩
    · obtain ⟨m, hm, h2, h3⟩ := hen
      have H := Lib.hid (And.intro h2 (And.intro h3 (And.intro hperm (And.intro hok (And.intro hl0 hkk)))))
      clear h2 h3 hperm hok hl0 hl htr
      go_enter Tryz.func99, Tryz.ntmps99
      go_wp2_with fail
      refine hkey.mono ?_
      rintro e w1 ⟨hb, k', rfl, hk'⟩
      obtain ⟨x1, x2, x3⟩ := k'
      have hkx : (x1, x2, x3) = k3 k := hk' hkk
      have hd : decide (okKey k) = true := by simpa using hkk
      rw [hd]
      have HX := Lib.hid hkx
      have b1 := (Below.refl w1.heap.size w1).alloc (Nat.le_refl _) (.cells #[.int .i64 x1, .int .i64 x2, .int .i64 x3] 93)
      have hm1 := (hm.below hb).below b1
      have hb1 := Below.next hb b1
      have hc1 := (hb.cell (p := ⟨tb, 0, none⟩) ht).trans hc0
      have ht1 : tb < w1.heap.size := Nat.lt_of_lt_of_le ht hb.size
      clear hk' hd hkx hkk b1 hm hc0 hkey
      simp only [encK]
      go_wp2_with fail
      refine (mclone_any _ _ _ hm1).mono ?_
      rintro e w2 ⟨rfl, hm2, hb2⟩
      simp only [World.size_alloc] at hm2 hb2 ⊢
      have hw2 : Below w.heap.size w w2 := Below.next hb1 (by simpa using hb2)
      have hsz2 : w1.heap.size + 2 ≤ w2.heap.size := hm2.lt
      have hv2 : SlE w2 (.slice a2 l.length c2) l := H.out.2.2.2.2.1.below hw2
      have d0 : w2.drew.cell? ⟨w1.heap.size, 0, none⟩ = some (.int .i64 x1) := (hb2.cell (p := ⟨w1.heap.size, 0, none⟩) (by simp)).trans (by simp)
      have d1 : w2.drew.cell? ⟨w1.heap.size, 1, none⟩ = some (.int .i64 x2) := (hb2.cell (p := ⟨w1.heap.size, 1, none⟩) (by simp)).trans (by simp)
      have d2 : w2.drew.cell? ⟨w1.heap.size, 2, none⟩ = some (.int .i64 x3) := (hb2.cell (p := ⟨w1.heap.size, 2, none⟩) (by simp)).trans (by simp)
      have hlt : w1.heap.size < w2.heap.size := by omega
      have hok3 : ∀ q ∈ m, ok3 q.1 := by
        intro q hq
        have : q.1 ∈ T'.map (fun e => k3 e.1) := by rw [← H.out.1]; exact List.mem_map.2 ⟨q, hq, rfl⟩
        obtain ⟨e, he, e1⟩ := List.mem_map.1 this
        rw [← e1]; exact k3_ok (H.out.2.2.2.1.1 e (H.out.2.2.1.mem_iff.1 he))
      have hnd3 : (m.map (·.1)).Nodup := by rw [H.out.1]; exact k3_map_nodup (fun e he => H.out.2.2.2.1.1 e (H.out.2.2.1.mem_iff.1 he)) ((H.out.2.2.1.map (·.1)).nodup_iff.2 H.out.2.2.2.1.2.1)
      have hkx3 : ok3 (x1, x2, x3) := by rw [HX.out]; exact k3_ok H.out.2.2.2.2.2
      have HN := Lib.hid (And.intro hok3 (And.intro hnd3 hkx3))
      clear hok3 hnd3 hkx3
      have hww := hb.size
      clear hm1 hb1 hc1 ht1 hb hb2
      go_wp2_with fail
      go_region_with (first
        | (go_at_call 57; (refine (cloneE_any w2.drew _ l (hv2.below (Below.drewN (Below.refl _ _) 1)) (by omega)).mono ?_; rintro e w3 ⟨v3, rfl, hown3, hb3⟩; have g0 := (hb3.cell (p := ⟨w1.heap.size, 0, none⟩) hlt).trans d0; have g1 := (hb3.cell (p := ⟨w1.heap.size, 1, none⟩) hlt).trans d1; have g2 := (hb3.cell (p := ⟨w1.heap.size, 2, none⟩) hlt).trans d2; have hm3 := (hm2.below (Below.drewN (Below.refl _ _) 1)).below hb3))
        | ((obtain ⟨w4, hrun, hm4, hg4, hz4, _⟩ := hm3.run_put kl_seq Tryz.underlying88 HN.out.1 HN.out.2.1 HN.out.2.2 v3; simp only [encK] at hrun; rw [hrun]; simp only [Result.andThen]; clear hrun)))
      all_goals
        obtain ⟨t1, t2, t3, t4⟩ := with_tail (T := T) (T' := T') (k := k) (l := l) (Below.next hw2 (Below.drewN (Below.refl _ _) 1)) hb3 H.out.1 H.out.2.1 H.out.2.2.1 H.out.2.2.2.1 H.out.2.2.2.2.2 (by omega) hm3 hown3 H.out.2.2.2.2.1.2 (by rw [← HX.out]; exact hm4) hg4
        rw [HX.out] at hm4
        have hl8 : l.length ≤ 8 := by omega
        obtain ⟨N, hN⟩ : ∃ N, (aput T k l).length = N := ⟨_, rfl⟩
        rw [hN] at t2
        have HT := Lib.hid (And.intro t1 (And.intro t3 hN))
        clear hN t1 t3 d0 d1 d2 g0 g1 g2 hm3 hm2 hv2 hown3 hb3 hw2 hg4 hz4
        by_cases hb5 : 500 < N
        · have hws : withS T k l = .error 65 := by
            unfold withS; rw [if_neg (by simp [H.out.2.2.2.2.2]; omega), if_pos (by rw [HT.out.2.2]; exact hb5)]
          have HWS := Lib.hid hws
          clear hws
          go_wp2_with (at_len; refine wpList_len_at rfl _ rfl Tryz.underlying88 rfl hm4 ?_; rw [t2])
          go_ret2
          exact ⟨t4, by rw [HWS.out]; rfl⟩
        · have hws : withS T k l = .ok (aput T k l) := by
            unfold withS; rw [if_neg (by simp [H.out.2.2.2.2.2]; omega), if_neg (by rw [HT.out.2.2]; exact hb5)]
          have HWS := Lib.hid hws
          clear hws
          have htb := tbuild_any w4 (w1.heap.size + 1) (aput T k l) (aput T' k l) HT.out.1 HT.out.2.1 (okTab_put H.out.2.2.2.1 H.out.2.2.2.2.2 hl8 (by rw [HT.out.2.2]; omega))
          go_wp2_with (at_len; refine wpList_len_at rfl _ rfl Tryz.underlying88 rfl hm4 ?_; rw [t2])
          refine htb.mono ?_
          rintro e w6 ⟨p, rfl, hta, hb6⟩
          go_wp2_with fail
          go_ret2
          exact ⟨Below.next t4 hb6, by rw [HWS.out]; exact ⟨p, rfl, hta⟩⟩
  · have hw : withS T k l = .error 1 := by simp [withS, hkk]
    rw [hw]
    have hd : decide (okKey k) = false := by simpa using hkk
    clear hw hkk hen htr hperm hok hl0 hl
    go_enter Tryz.func99, Tryz.ntmps99
    go_wp2_with fail
    refine hkey.mono ?_
    rintro e w1 ⟨hb, k', rfl, hk'⟩
    rw [hd]
    clear hk' hd
    simp only [encK]
    go_wp2_with fail
    go_ret2
    exact ⟨hb.alloc hb.size _, rfl⟩
end Go.Proofs.YtccdkchmeelkfaaGreatDoor
