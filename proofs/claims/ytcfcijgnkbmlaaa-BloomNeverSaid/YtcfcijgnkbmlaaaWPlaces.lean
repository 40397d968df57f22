/- Walks: a key's places in a filter. Condition: lengths that are ints, some bits. -/
import Derived.Test.YtcfcijgnkbmlaaaWHash
import Derived.Test.YtcfcijgnkbmlaaaFp
import Derived.Test.YtcfcijgnkbmlaaaOwn
namespace Go.Proofs.Ytcfcijgnkbmlaaa
open Go.RowKit Go.Shelf

attribute [local go_sem] Oper.semAt_some

set_option maxRecDepth 100000 in
set_option maxHeartbeats 1000000 in
theorem rot_any (h : Nat) (w : World) (hh : U64 h) :
    Calls Try.prog 55 #[.int .u64 (h : Int), .int .i64 31] w fun e w' => e = .returned (.int .u64 (Pl.rot h : Nat)) ∧ w = w' := by
  have hb : h < 18446744073709551616 := by have := hh.le; omega
  have e31 : bits .and .u64 31 63 = 31 := by decide +kernel
  have hr := Lib.hid (Pl.rot_eq h hb)
  clear hb
  go_enter Try.func55, Try.ntmps55
  go_wp2
  go_ret
  exact ⟨ret_int hr.out, rfl⟩

set_option maxRecDepth 100000 in
set_option maxHeartbeats 2000000 in
theorem places_in (n : Nat) (key : ByteArray) (k m : Int) (w : World) :
    CallsIn Fence.wide n Try.prog 41 #[.string key, .int .i64 k, .int .i64 m] w fun e w' =>
      e = .returned (.func (.func 54) #[] #[.pointer (some ⟨w.heap.size, 0, none⟩), .pointer (some ⟨w.heap.size + 1, 0, none⟩), .pointer (some ⟨w.heap.size + 1 + 1, 0, none⟩)]) ∧ w' = ((w.alloc (.cells #[.string key] 9)).alloc (.cells #[.int .i64 k] 3)).alloc (.cells #[.int .i64 m] 3) := by
  refine callsIn_of_wp Try.func41 rfl trivial ?_ rfl
  simp only [Try.ntmps41, List.size_toArray, List.length_cons, List.length_nil, Nat.reduceAdd, Nat.reduceSub, Array.replicate_succ, Array.replicate_zero, List.push_toArray, List.append_toArray, List.nil_append, List.cons_append]
  gi_wp2
  go_ret
  exact ⟨rfl, rfl⟩

def encN (m : Nat) (x : Fin m) : Array Value := #[.int .i64 (x.val : Int)]

set_option maxRecDepth 100000 in
set_option maxHeartbeats 2000000 in
theorem places1_seq (n b : Nat) (hn : 1 ≤ n) (key : ByteArray) (k : Nat) (m : Nat) (W0 : World) (hs : key.size ≤ 9223372036854775807) (hm0 : 0 < m) (hm1 : m ≤ 9223372036854775807) (hk : k ≤ 9223372036854775807)
    (b0 : Boxed W0 b 9 (.string key)) (b1 : Boxed W0 (b + 1) 3 (.int .i64 (k : Int))) (b2 : Boxed W0 (b + 1 + 1) 3 (.int .i64 (m : Int))) :
    SeqF Fence.wide n Try.prog 54 #[.pointer (some ⟨b, 0, none⟩), .pointer (some ⟨b + 1, 0, none⟩), .pointer (some ⟨b + 1 + 1, 0, none⟩)] (encN m) (fun i => i = b ∨ i = b + 1 ∨ i = b + 1 + 1) (fun _ => False) (fun ys => ys.map Fin.val = Pl.keyPlaces key.data.toList k m) (fun ys => ys.map Fin.val <+: Pl.keyPlaces key.data.toList k m) k W0 := by
  intro l J Jx W fp hkm hd hlt hJ hJx hY h0
  have c0 := (hkm.boxed (.inl rfl) b0)
  have c1 := (hkm.boxed (.inr (.inl rfl)) b1)
  have c2 := (hkm.boxed (.inr (.inr rfl)) b2)
  have hx0 := c0.cell
  have hx1 := c1.cell
  have hx2 := c2.cell
  have hY := Lib.hid hY
  refine callsIn_of_wp Try.func54 rfl trivial ?_ rfl
  simp only [Try.ntmps54, List.size_toArray, List.length_cons, List.length_nil, Nat.reduceAdd, Nat.reduceSub, Array.replicate_succ, Array.replicate_zero, List.push_toArray, List.append_toArray, List.nil_append, List.cons_append]
  gi_wp2_with (first | (refine ⟨trivial, ?_⟩; gi_at_call 18; refine (callsIn_wide.2 (hash_any key _ hs)).mono ?_; rintro e w' ⟨rfl, rfl⟩) | (refine ⟨trivial, ?_⟩; gi_at_call 55; refine (callsIn_wide.2 (rot_any _ _ (.mk' (by have := Pl.hash_lt key.data.toList; omega)))).mono ?_; rintro e w' ⟨rfl, rfl⟩))
  have hh := Pl.hash_lt key.data.toList
  have hdl := Pl.rot_lt hh
  generalize hH : Pl.hash key.data.toList = h at hh hdl ⊢
  generalize hD : Pl.rot h = d at hdl ⊢
  have HP : Hid (Pl.keyPlaces key.data.toList k m = Pl.places h d m k) := by show _ = _; unfold Pl.keyPlaces; rw [hH, hD]
  clear hH hD
  gi_loopw [5, 12] (fun x i wr => ∃ (j : Nat) (f' : Nat → Prop) (ys : List (Fin m)), j ≤ k ∧ i = .int .i64 j ∧ x = .int .u64 (Pl.stepH h d j : Nat) ∧ Hid (ys.map Fin.val = Pl.places h d m j) ∧ J ys f' wr ∧ (∀ q, f' q → fp q ∨ W.heap.size ≤ q) ∧ (∀ q, f' q → q < wr.heap.size) ∧ Boxed wr (b + 1 + 1) 3 (.int .i64 (m : Int)) ∧ Keep (fun _ => False) W wr)
    (fun _ i _ => k - (intOf i).toNat)
  case atStart => exact ⟨0, fp, [], by omega, rfl, rfl, by show _ = _; rfl, h0, fun _ h => .inl h, hlt, c2, Keep.refl _ _⟩
  case round =>
    obtain ⟨j, f', ys, hj, rfl, rfl, HY, hJ1, hn1, hl1, c3, hkw⟩ := hrel
    have hsz := hkw.size
    have hx3 := c3.cell
    have hst := Pl.stepH_lt (d := d) hh j
    have hsn := Pl.places_snoc h d m j
    replace hsn := Lib.hid hsn
    have hlen : ys.length = j := by rw [← List.length_map (f := Fin.val), HY.out, Pl.places_length]
    replace hlen := Lib.hid hlen
    have hse := Pl.stepH_eq h d j
    by_cases hjk : j < k
    · obtain ⟨fn, tmps, assign, body, hy, hR⟩ := hY.out _ (⟨Pl.stepH h d j % m, Nat.mod_lt _ hm0⟩ : Fin m) f' wr hJ1 hl1 (by rw [hlen.out]; exact hjk)
      have hsn2 : Hid ((ys ++ [(⟨Pl.stepH h d j % m, Nat.mod_lt _ hm0⟩ : Fin m)]).map Fin.val = Pl.places h d m (j + 1)) := by show _ = _; rw [List.map_append, HY.out, hsn.out]; rfl
      clear hsn
      have hmod : Pl.stepH h d j % m < m := Nat.mod_lt _ hm0
      generalize Pl.stepH h d j = y at *
      unfold encN at hy
      rw [show ((y % m : Nat) : Int) = (y : Int) % (m : Int) from Int.natCast_emod _ _] at hy
      gi_wp2
      refine hR.mono ?_
      rintro e W3 (⟨rfl, f3, hJ3, s3⟩ | ⟨rfl, f3, hJ3, s3⟩)
      · have c4 : Boxed W3 (b + 1 + 1) 3 (.int .i64 (m : Int)) := (s3.keep.block _ (fun h => by rcases hn1 _ h with h1 | h1; exact hd _ h1 (.inr (.inr rfl)); have := c2.lt; omega) c3.lt).trans c3
        have hx4 := c4.cell
        gi_wp2
        go_roundw
        case rel => exact ⟨j + 1, f3, _, by omega, by go_num, rfl, hsn2, hJ3, fun q hq => by
          rcases s3.new q hq with h1 | h1
          · exact hn1 q h1
          · right; omega, s3.lt, c4, hkw.trans s3.keep (fun _ h => h.elim)⟩
        case measure => simp [intOf]; omega
      · gi_wp2
        refine bodyPost_ret (results_none rfl _ _ _) rfl ?_
        refine SeqEnd.part (fp' := f3) (hkw.trans s3.keep (fun _ h => h.elim)) ?_ s3.lt _ ?_ hJ3
        · intro q hq
          rcases s3.new q hq with h1 | h1
          · exact hn1 q h1
          · right; omega
        · rw [HP.out, hsn2.out]
          exact Pl.places_prefix h d m hjk
    · obtain rfl : j = k := by omega
      gi_wp2
      go_end0
      exact SeqEnd.all (fp' := f') hkw hn1 hl1 ys (by rw [HP.out]; exact HY.out) hJ1
end Go.Proofs.Ytcfcijgnkbmlaaa
