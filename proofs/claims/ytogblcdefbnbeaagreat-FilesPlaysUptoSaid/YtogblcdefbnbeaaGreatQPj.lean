
/- Plain: a text block by block, padded; a slot's head. Condition: none. -/
import Derived.Test.YtogblcdefbnbeaaGreatQGg
import Derived.Laws.CopyOwn
import Derived.Test.YtogblcdefbnbeaaGreatQGu
import Derived.Deep.QuietTactic
import Derived.Deep.DeepCutAuto
import Derived.Deep.RegionLaw
import Derived.BigQuiet
import Derived.IntWalk
import Derived.Lib.Hide
set_option maxRecDepth 100000
namespace Go.Proofs.YtogblcdefbnbeaaGreat
namespace Pl
def padB (s : ByteArray) : ByteArray := s ++ zeros (256 - s.size)
theorem padB_size {s : ByteArray} (h : s.size ≤ 256) : (padB s).size = 256 := by
 unfold padB
 rw [ByteArray.size_append, zeros_size]
 omega
def pieceAt (s : ByteArray) (i : Nat) : ByteArray := padB (s.extract (256 * i) (256 * i + 256))
theorem pieceAt_size (s : ByteArray) (i : Nat) : (pieceAt s i).size = 256 := padB_size (by rw [ByteArray.size_extract]; omega)
def pieceN (n : Nat) : Nat := (n + 255) / 256
def piecesOf (s : ByteArray) : List ByteArray := (List.range (pieceN s.size)).map (pieceAt s)
theorem piecesOf_length (s : ByteArray) : (piecesOf s).length = pieceN s.size := by simp [piecesOf]
theorem piecesOf_pre (s : ByteArray) {i : Nat} (hi : i ≤ pieceN s.size) : (List.range i).map (pieceAt s) <+: piecesOf s := by
 unfold piecesOf
 refine List.IsPrefix.map _ ?_
 obtain ⟨k, hk⟩ := Nat.exists_eq_add_of_le hi
 rw [hk, List.range_add]
 exact List.prefix_append _ _
theorem piecesOf_mem {s p : ByteArray} (h : p ∈ piecesOf s) : p.size = 256 := by
 unfold piecesOf at h
 rw [List.mem_map] at h
 obtain ⟨i, _, rfl⟩ := h
 exact pieceAt_size s i
def be8 (g : Nat) : List UInt8 := (List.range 8).map fun i => UInt8.ofNat (g / 2 ^ (8 * (7 - i)) % 256)
theorem be8_length (g : Nat) : (be8 g).length = 8 := by simp [be8]
def headL (g : Nat) : List UInt8 := be8 g ++ (List.replicate 240 0 ++ be8 g)
theorem headL_length (g : Nat) : (headL g).length = 256 := by
 unfold headL
 rw [List.length_append, List.length_append, List.length_replicate, be8_length]
def headB (g : Nat) : ByteArray := ⟨(headL g).toArray⟩
theorem headB_size (g : Nat) : (headB g).size = 256 := by
 show (headL g).toArray.size = 256
 simp [headL_length]
def headK (g k : Nat) : List UInt8 := (be8 g).take k ++ List.replicate (256 - k) 0
theorem headK_zero (g : Nat) : headK g 0 = List.replicate 256 0 := rfl
theorem headK_length (g : Nat) {k : Nat} (hk : k ≤ 8) : (headK g k).length = 256 := by
 unfold headK
 rw [List.length_append, List.length_take, be8_length, List.length_replicate]
 omega
theorem headK_set (g : Nat) {k : Nat} (hk : k < 8) : (headK g k).set k (UInt8.ofNat (g / 2 ^ (8 * (7 - k)) % 256)) = headK g (k + 1) := by
 unfold headK
 have hl : ((be8 g).take k).length = k := by rw [List.length_take, be8_length]; omega
 rw [List.set_append_right _ _ (by omega), hl, Nat.sub_self, show 256 - k = (256 - (k + 1)) + 1 by omega, List.replicate_succ, List.set_cons_zero, List.take_succ_eq_append_getElem (by rw [be8_length]; exact hk), List.append_assoc]
 congr 1
 simp [be8]
theorem headK_all (g : Nat) : Go.splice (headK g 8) 248 (be8 g) = headL g := by
 have e : (be8 g).take 8 = be8 g := List.take_of_length_le (Nat.le_of_eq (be8_length g))
 have e2 : (List.replicate (256 - 8) (0 : UInt8)).take (248 - 8) = List.replicate 240 0 := by rw [List.take_replicate]; rfl
 unfold Go.splice headK headL
 rw [e, be8_length]
 rw [List.take_append, be8_length, List.take_of_length_le (by rw [be8_length]; omega), List.drop_eq_nil_of_le (by rw [List.length_append, be8_length, List.length_replicate]; omega), e2, List.append_nil, List.append_assoc]
end Pl
section
open Go.RowKit Go.Shelf
attribute [local go_sem] Oper.semAt_some
theorem pad_any (s : ByteArray) (hs : s.size ≤ 256) (w : World) :
  Calls Tryz.prog 117 #[.string s] w fun e w' => e = .returned (.string (Pl.padB s)) ∧ Below w.heap.size w w' := by
 have hmk := make_bytes (256 - s.size) (by omega) w
 have hB0 := Bytes.new w (List.replicate (256 - s.size) (0 : UInt8))
 have hst := hB0.str (256 - s.size)
 have hb0 : Below w.heap.size w (w.alloc (.cells (bcells (List.replicate (256 - s.size) 0)).toArray 5)) := (Below.refl _ _).alloc (Nat.le_refl _) _
 rw [List.length_replicate] at hst
 have e1 : ((256 - s.size : Nat) : Int) = 256 - (s.size : Int) := by omega
 rw [e1] at hmk
 have hle : s.size + (256 - s.size) ≤ 9223372036854775807 := by omega
 go_enter Tryz.func117, Tryz.ntmps117
 go_wp2
 go_ret
 exact ⟨rfl, hb0⟩
set_option maxHeartbeats 1000000 in
theorem head_any (g : Nat) (hg : g ≤ 18446744073709551615) (w : World) :
  Calls Tryz.prog 54 #[.int .u64 (g : Int)] w fun e w' => e = .returned (.string (Pl.headB g)) ∧ Below w.heap.size w w' := by
 have hmk : (Instr.makeSlice 52 (.int .i64 256) (.int .i64 256)).run Tryz.prog w = .ok (.slice (some ⟨w.heap.size, 0, none⟩) 256 256) (w.alloc (.cells (bcells (Pl.headK g 0)).toArray 5)) := by rw [Pl.headK_zero]; exact make_bytes 256 (by omega) w
 have hB0 := Bytes.new w (Pl.headK g 0)
 have hb0 : Below w.heap.size w (w.alloc (.cells (bcells (Pl.headK g 0)).toArray 5)) := (Below.refl _ _).alloc (Nat.le_refl _) _
 go_enter Tryz.func54, Tryz.ntmps54
 go_wp2
 go_loopw [6] (fun i wr => ∃ k : Nat, k ≤ 8 ∧ i = .int .i64 k ∧ Bytes wr w.heap.size (Pl.headK g k) ∧ Below w.heap.size w wr) (fun i _ => 8 - (intOf i).toNat)
 case atStart => exact ⟨0, by omega, rfl, hB0, hb0⟩
 case round =>
  obtain ⟨k, hk, rfl, hB, hb⟩ := hrel
  clear hB0 hb0 hmk
  by_cases h1 : k < 8
  ·have hc := hB.cell (i := k) (by rw [Pl.headK_length g hk]; omega)
   have hz := hB.frozen k
   have hS := hB.set k (UInt8.ofNat (g / 2 ^ (8 * (7 - k)) % 256))
   rw [Pl.headK_set g h1] at hS
   have hbS := below_bytes (i := k) (c := UInt8.ofNat (g / 2 ^ (8 * (7 - k)) % 256)) hb (Nat.le_refl _)
   have eb : ((UInt8.ofNat (g / 2 ^ (8 * (7 - k)) % 256)).toNat : Int) = (g : Int) / 2 ^ (8 * (7 - k)) % 256 := by
    rw [UInt8.toNat_ofNat_of_lt' (Nat.mod_lt _ (by decide))]
    simp
   rw [eb] at hS hbS
   clear hB hb eb
   go_wp2
   go_roundw
   case rel => exact ⟨k + 1, by omega, by go_num, hS, hbS⟩
   case measure => simp [intOf]; omega
  ·obtain rfl : k = 8 := by omega
   have hl8 : (Pl.headK g 8).length = 256 := Pl.headK_length g (Nat.le_refl _)
   have hg8 : wr.heap[w.heap.size]? = some (.cells (bcells (Pl.headK g 8)).toArray 5 (0, 0)) := hB
   have hsp := Lib.hid (Pl.headK_all g)
   have hc := Lib.hid (fun j (hj : j < 8) => hB.cell (i := j) (by rw [hl8]; omega))
   have hgl := Lib.hid (fun j (hj : j < 8) => (show (Pl.headK g 8)[j]'(by rw [hl8]; omega) = (Pl.be8 g)[j]'(by rw [Pl.be8_length]; exact hj) by simp [Pl.headK, List.getElem_append, Pl.be8_length, hj]))
   go_wp2
   generalize hZ : Pl.headK g 8 = Z at *
   have hw248 : IntKind.i64.wrap 248 = 248 := by decide
   have hsz1 : (Tryz.prog.info? 5).map (·.size) = some 1 := by kernel_rfl
   have hcp := run_copy_row (P := Tryz.prog) wr.drew 52 52 3 5 w.heap.size 248 8 8 ⟨w.heap.size, 0, none⟩ 8 256 (bcells Z).toArray 5 (bcells (Pl.be8 g)) Tryz.underlying52 hsz1 hg8 (by rw [bcells_length, Pl.be8_length]; rfl) (fun j v hj => by
    have hj8 : j < 8 := by have := (List.getElem?_eq_some_iff.1 hj).1; rwa [bcells_length, Pl.be8_length] at this
    rw [show (⟨w.heap.size, 0, none⟩ : Addr).add j = ⟨w.heap.size, j, none⟩ by rw [Addr.add_lit]; simp]
    refine (hc.out j hj8).trans ?_
    rw [← hj, hgl.out j hj8]
    have : j < (Pl.be8 g).length := by rw [Pl.be8_length]; exact hj8
    simp [bcells, this]) (by rw [bcells_length, Pl.be8_length, List.size_toArray, bcells_length, hl8]; omega) (by simp [bcells, Value.oneCell'])
   have hgw := setRow_heap wr.drew w.heap.size (bcells Z).toArray ((bcells Z).toArray.toList.take 248 ++ bcells (Pl.be8 g) ++ (bcells Z).toArray.toList.drop (248 + (bcells (Pl.be8 g)).length)).toArray 5 (0, 0) hg8
   have hbw : Below w.heap.size w (wr.drew.setRow w.heap.size ((bcells Z).toArray.toList.take 248 ++ bcells (Pl.be8 g) ++ (bcells Z).toArray.toList.drop (248 + (bcells (Pl.be8 g)).length)).toArray) := below_setRow hb.drew (Nat.le_refl _) _
   have el : (((bcells Z).toArray.toList.take 248 ++ bcells (Pl.be8 g) ++ (bcells Z).toArray.toList.drop (248 + (bcells (Pl.be8 g)).length)).toArray) = (bcells (Pl.headL g)).toArray := by
    rw [← hsp.out]
    simp [bcells, Go.splice, List.map_take, List.map_drop]
   rw [el] at hcp hgw hbw
   rw [show (bcells (Pl.be8 g)).length = 8 by rw [bcells_length, Pl.be8_length]] at hcp
   generalize wr.drew.setRow w.heap.size (bcells (Pl.headL g)).toArray = w4 at hcp hgw hbw
   clear el hgl hc hsp hg8 hl8
   have hB4 : Bytes w4 w.heap.size (Pl.headL g) := hgw
   have hs4 := hB4.str 256
   rw [Pl.headL_length] at hs4
   go_region
   go_wp2
   go_ret
   exact ⟨rfl, hbw⟩
def sizeAt (b : Nat) (W : World) : Nat := match W.cell? ⟨b, 0, none⟩ with | some (.string s) => s.size | _ => 0
theorem ba_extract_min (s : ByteArray) (a b : Nat) : s.extract a (min b s.size) = s.extract a b := by
 apply ByteArray.ext
 rw [ByteArray.data_extract, ByteArray.data_extract]
 apply Array.ext
 ·rw [Array.size_extract, Array.size_extract]
  show min (min b s.data.size) s.data.size - a = _
  omega
 ·intro i h1 h2
  rw [Array.getElem_extract, Array.getElem_extract]
theorem pieces_in (n : Nat) (s : ByteArray) (w : World) :
  CallsIn Fence.wide n Tryz.prog 83 #[.string s] w fun e w' => e = .returned (.func (.func 116) #[] #[.pointer (some ⟨w.heap.size, 0, none⟩)]) ∧ w' = w.alloc (.cells #[.string s] 9) := by
 refine callsIn_of_wp Tryz.func83 rfl trivial ?_ rfl
 simp only [Tryz.ntmps83, List.size_toArray, List.length_cons, List.length_nil, Nat.reduceAdd, Nat.reduceSub, Array.replicate_succ, Array.replicate_zero, List.push_toArray, List.append_toArray, List.nil_append, List.cons_append]
 gi_wp2
 go_ret
 exact ⟨rfl, rfl⟩
def encP (x : ByteArray) : Array Value := #[.string x]
set_option maxHeartbeats 1000000 in
theorem pieces1_seq (n b : Nat) (s : ByteArray) (hs : s.size ≤ 9223372036854775807) (w : World) (hB : Boxed w b 9 (.string s)) :
  SeqG Fence.wide n Tryz.prog 116 #[.pointer (some ⟨b, 0, none⟩)] encP (fun k => k = b) (fun _ => False) (fun ys => ys = Pl.piecesOf s) (fun ys => ys <+: Pl.piecesOf s) w := by
 intro lp J Jx W fp hkm hd hlt hJ hJx hY h0
 have hB0 := hkm.boxed rfl hB
 have hbl := hB0.lt
 clear hkm hB
 refine callsIn_of_wp Tryz.func116 rfl trivial (wpIn_wide.2 ?_) rfl
 simp only [Tryz.ntmps116, List.size_toArray, List.length_cons, List.length_nil, Nat.reduceAdd, Nat.reduceSub, Array.replicate_succ, Array.replicate_zero, List.push_toArray, List.append_toArray, List.nil_append, List.cons_append]
 go_wp2
 go_loopw [3] (fun _ W' => ∃ (i : Nat), i ≤ Pl.pieceN s.size ∧ Boxed W' b 9 (.string (s.extract (256 * i) s.size)) ∧ Keep (fun _ => False) W W' ∧ ∃ fp', (∀ z, fp' z → fp z ∨ W.heap.size ≤ z) ∧ (∀ z, fp' z → z < W'.heap.size) ∧ J ((List.range i).map (Pl.pieceAt s)) fp' W')
  (fun _ W' => sizeAt b W')
 case atStart => exact ⟨0, Nat.zero_le _, by simpa using hB0, Keep.refl _ _, fp, fun _ h => .inl h, hlt, h0⟩
 case round =>
  obtain ⟨i, hi, hBr, hkp, fp', hn', hlt', hJ'⟩ := hrel
  have cB := hBr.cell
  have fB := hBr.frozen
  have hlA : sizeAt b wr = s.size - 256 * i := by unfold sizeAt; rw [cB]; simp [ByteArray.size_extract]
  have hsz : (s.extract (256 * i) s.size).size = s.size - 256 * i := by simp [ByteArray.size_extract]
  have hex : ∀ c d, (s.extract (256 * i) s.size).extract c d = s.extract (256 * i + c) (min (256 * i + d) s.size) := fun c d => by rw [ByteArray.extract_extract]
  by_cases hil : i < Pl.pieceN s.size
  case neg =>
   have hi2 : i = Pl.pieceN s.size := by omega
   have he : (s.extract (256 * i) s.size).size = 0 := by rw [hsz]; unfold Pl.pieceN at hi2; omega
   clear hex
   generalize s.extract (256 * i) s.size = t at *
   go_wp2
   go_end0
   exact SeqEnd.all hkp hn' hlt' _ (by rw [hi2]; rfl) hJ'
  have h256 : 256 * i < s.size := by unfold Pl.pieceN at hil; omega
  have hpre := Pl.piecesOf_pre s (i := i + 1) hil
  rw [List.range_succ, List.map_append] at hpre
  obtain ⟨t, ht⟩ : ∃ t, t = s.extract (256 * i) s.size := ⟨_, rfl⟩
  obtain ⟨p, hp⟩ : ∃ p, p = Pl.pieceAt s i := ⟨_, rfl⟩
  have hpp := Lib.hid hp
  rw [← ht] at cB hBr hsz hex
  have hmin : min (256 * i + min t.size 256) s.size = min (256 * i + 256) s.size := by rw [hsz]; omega
  have hpad : p = Pl.padB (t.extract 0 (min t.size 256)) := by rw [hp]; unfold Pl.pieceAt; rw [hex, hmin, ba_extract_min]; rfl
  have hmin2 : 256 * i + min t.size 256 = 256 * (i + 1) ∨ s.size ≤ 256 * i + min t.size 256 ∧ s.size ≤ 256 * (i + 1) := by rw [hsz]; omega
  have hnxt : t.extract (min t.size 256) t.size = s.extract (256 * (i + 1)) s.size := by
   rw [hex, hsz, show min (256 * i + (s.size - 256 * i)) s.size = s.size by omega]
   rw [hsz] at hmin2
   rcases hmin2 with h | ⟨h1, h2⟩
   ·rw [h]
   ·have q : ∀ a, s.size ≤ a → s.extract a s.size = .empty := fun a ha => by
     apply ByteArray.ext
     rw [ByteArray.data_extract]
     exact Array.extract_empty_of_stop_le_start ha
    rw [q _ h1, q _ h2]
  have hpre' : (List.range i).map (Pl.pieceAt s) ++ [p] <+: Pl.piecesOf s := by rw [hp]; exact hpre
  have ht0 : 0 < t.size := by rw [hsz]; omega
  have hts : t.size ≤ 9223372036854775807 := by rw [hsz]; omega
  have hnf : ¬ fp' b := fun h => by
   rcases hn' b h with h | h
   ·exact hd b h rfl
   ·omega
  have hbw : b < wr.heap.size := hBr.lt
  replace hsz := Lib.hid hsz
  replace ht := Lib.hid ht
  replace hlA := Lib.hid hlA
  clear hp hpre hmin hmin2 hex
  by_cases h256 : t.size ≤ 256
  ·have hq : t.extract 0 (min t.size 256) = t := by rw [Nat.min_eq_left h256]; simp
   rw [hq] at hpad
   rw [Nat.min_eq_left h256] at hnxt
   replace hnxt : ByteArray.empty = s.extract (256 * (i + 1)) s.size := by rw [← hnxt]; simp
   have PP := Lib.hid ((callsIn_wide (n := n - 1)).2 (pad_any t h256 wr))
   rw [← hpad] at PP
   replace hpad := Lib.hid hpad
   replace hnxt := Lib.hid hnxt
   replace hq := Lib.hid hq
   go_upto_region 2 with (fail)
   refine (wpIn_wide (n := n)).1 ?_
   gi_wp2_with fail
   refine ⟨trivial, fun h => (by cases h), PP.out.mono ?_⟩
   rintro e w1 ⟨rfl, b1⟩
   have hJ1 := hJ _ _ _ _ hJ' (Keep.of_below b1 (fun z hz _ => hlt' z hz))
   have hlt1 : ∀ z, fp' z → z < w1.heap.size := fun z hz => Nat.lt_of_lt_of_le (hlt' z hz) b1.size
   have hk1 : Keep (fun _ => False) W w1 := hkp.beyond b1
   have hB1 : Boxed w1 b 9 (.string t) := (Keep.of_below (fp := fun z => z = b) b1 (fun z h _ => by rw [h]; exact hbw)).boxed rfl hBr
   have hw1 := b1.size
   clear hBr cB fB hJ' hlt'
   obtain ⟨fn, tmps, assign, body, hy, hRd⟩ := hY _ p fp' w1 hJ1 hlt1 hpre'
   unfold encP at hy
   clear hY PP
   gi_wp2
   refine ⟨fun h => (by cases h), hRd.mono ?_⟩
   rintro e W3 (⟨rfl, fp3, hJ3, st3⟩ | ⟨rfl, fp3, hJ3, st3⟩)
   all_goals
    clear hy
    have hk3 : Keep (fun _ => False) W W3 := hk1.trans st3.keep (fun z h _ => h.elim)
    have hn3 : ∀ z, fp3 z → fp z ∨ W.heap.size ≤ z := fun z h => by
     rcases st3.new z h with h | h
     ·exact hn' z h
     ·have := hk1.size; right; omega
   ·have hB3 : Boxed W3 b 9 (.string t) := st3.keep.boxed hnf hB1
    have hf3 : ¬ fp3 b := st3.other hnf (by omega)
    have c3 := hB3.cell
    have f3 := hB3.frozen
    gi_wp2
    go_wp2
    generalize hW4 : W3.setCell ⟨b, 0, none⟩ _ = W4
    have hb4 := hB3.set (.string (s.extract (256 * (i + 1)) s.size))
    rw [← hnxt.out, hW4, hnxt.out] at hb4
    have hz4 : W4.heap.size = W3.heap.size := by rw [← hW4]; simp [World.setCell]
    have hkp4 : ∀ f : Nat → Prop, ¬ f b → Keep f W3 W4 := fun f hf => by rw [← hW4]; exact (Keep.refl f W3).setCell _ _ _ (fun h _ => hf h)
    refine ⟨⟨i + 1, hil, hb4, hk3.trans (hkp4 (fun _ => False) id) (fun z h _ => h.elim), fp3, hn3, fun z hz => by rw [hz4]; exact st3.lt z hz, ?_⟩, ?_⟩
    ·rw [List.range_succ, List.map_append]
     show J (_ ++ [Pl.pieceAt s i]) fp3 W4
     rw [← hpp.out]
     exact hJ _ _ _ _ hJ3 (hkp4 fp3 hf3)
    ·have e4 : sizeAt b W4 = s.size - 256 * (i + 1) := by unfold sizeAt; rw [hb4.cell]; simp [ByteArray.size_extract]
     rw [e4, hlA.out]
     unfold Pl.pieceN at hil
     omega
   ·gi_wp2
    go_wp2
    refine bodyPost_ret (results_none rfl _ _ _) rfl ?_
    exact SeqEnd.part hk3 hn3 st3.lt _ hpre' hJ3
  ·have h257 : 256 < t.size := by omega
   have hq : min t.size 256 = 256 := by omega
   rw [hq] at hpad hnxt
   have PP := Lib.hid ((callsIn_wide (n := n - 1)).2 (pad_any (t.extract 0 256) (by rw [ByteArray.size_extract]; omega) wr))
   rw [← hpad] at PP
   replace hpad := Lib.hid hpad
   replace hnxt := Lib.hid hnxt
   replace hq := Lib.hid hq
   clear h256
   go_upto_region 2 with (fail)
   refine (wpIn_wide (n := n)).1 ?_
   gi_wp2_with fail
   refine ⟨trivial, fun h => (by cases h), PP.out.mono ?_⟩
   rintro e w1 ⟨rfl, b1⟩
   have hJ1 := hJ _ _ _ _ hJ' (Keep.of_below b1 (fun z hz _ => hlt' z hz))
   have hlt1 : ∀ z, fp' z → z < w1.heap.size := fun z hz => Nat.lt_of_lt_of_le (hlt' z hz) b1.size
   have hk1 : Keep (fun _ => False) W w1 := hkp.beyond b1
   have hB1 : Boxed w1 b 9 (.string t) := (Keep.of_below (fp := fun z => z = b) b1 (fun z h _ => by rw [h]; exact hbw)).boxed rfl hBr
   have hw1 := b1.size
   clear hBr cB fB hJ' hlt'
   obtain ⟨fn, tmps, assign, body, hy, hRd⟩ := hY _ p fp' w1 hJ1 hlt1 hpre'
   unfold encP at hy
   clear hY PP
   gi_wp2
   refine ⟨fun h => (by cases h), hRd.mono ?_⟩
   rintro e W3 (⟨rfl, fp3, hJ3, st3⟩ | ⟨rfl, fp3, hJ3, st3⟩)
   all_goals
    clear hy
    have hk3 : Keep (fun _ => False) W W3 := hk1.trans st3.keep (fun z h _ => h.elim)
    have hn3 : ∀ z, fp3 z → fp z ∨ W.heap.size ≤ z := fun z h => by
     rcases st3.new z h with h | h
     ·exact hn' z h
     ·have := hk1.size; right; omega
   ·have hB3 : Boxed W3 b 9 (.string t) := st3.keep.boxed hnf hB1
    have hf3 : ¬ fp3 b := st3.other hnf (by omega)
    have c3 := hB3.cell
    have f3 := hB3.frozen
    gi_wp2
    go_wp2
    generalize hW4 : W3.setCell ⟨b, 0, none⟩ _ = W4
    have hb4 := hB3.set (.string (s.extract (256 * (i + 1)) s.size))
    rw [← hnxt.out, hW4, hnxt.out] at hb4
    have hz4 : W4.heap.size = W3.heap.size := by rw [← hW4]; simp [World.setCell]
    have hkp4 : ∀ f : Nat → Prop, ¬ f b → Keep f W3 W4 := fun f hf => by rw [← hW4]; exact (Keep.refl f W3).setCell _ _ _ (fun h _ => hf h)
    refine ⟨⟨i + 1, hil, hb4, hk3.trans (hkp4 (fun _ => False) id) (fun z h _ => h.elim), fp3, hn3, fun z hz => by rw [hz4]; exact st3.lt z hz, ?_⟩, ?_⟩
    ·rw [List.range_succ, List.map_append]
     show J (_ ++ [Pl.pieceAt s i]) fp3 W4
     rw [← hpp.out]
     exact hJ _ _ _ _ hJ3 (hkp4 fp3 hf3)
    ·have e4 : sizeAt b W4 = s.size - 256 * (i + 1) := by unfold sizeAt; rw [hb4.cell]; simp [ByteArray.size_extract]
     rw [e4, hlA.out]
     unfold Pl.pieceN at hil
     omega
   ·gi_wp2
    go_wp2
    refine bodyPost_ret (results_none rfl _ _ _) rfl ?_
    exact SeqEnd.part hk3 hn3 st3.lt _ hpre' hJ3
end
end Go.Proofs.YtogblcdefbnbeaaGreat
