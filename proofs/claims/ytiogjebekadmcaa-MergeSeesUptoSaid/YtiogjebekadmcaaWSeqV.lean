
/- Walks: a row of versions as a sequence. Condition: rows whose lengths are ints. -/
import Derived.Test.YtiogjebekadmcaaColl
import Derived.Test.YtiogjebekadmcaaVers
namespace Go.Proofs.Ytiogjebekadmcaa
open Go.RowKit Go.Shelf

attribute [local go_sem] Oper.semAt_some

theorem VrAt.keep {B : Nat} {k : ByteArray} {s : Int} {d : Bool} {v : ByteArray} {W W' : World} {fp : Nat → Prop} (h : VrAt B k s d v W) (hb : Keep fp W W') (hf : fp B) : VrAt B k s d v W' := by
  obtain ⟨h0, h1, h2, h3, hB⟩ := h
  exact ⟨hb.cell hf h0, hb.cell hf h1, hb.cell hf h2, hb.cell hf h3, Nat.lt_of_lt_of_le hB hb.size⟩

def encV (x : Ver) : Array Value := #[.agg #[.string x.key, .int .u64 (x.seq : Int), .bool x.del, .string x.val]]

theorem row_any (ao : Option Addr) (len cap : Nat) (w : World) :
    Calls Try.prog 11 #[.slice ao len cap] w fun e w' => e = .returned (.func (.func 34) #[] #[.pointer (some ⟨w.heap.size, 0, none⟩)]) ∧ w' = w.alloc (.cells #[.slice ao len cap] 22) := by
  go_enter Try.func11, Try.ntmps11
  go_wp2
  go_ret
  exact ⟨rfl, rfl⟩

/-- the blocks of a slice -/
theorem vers_cells {W : World} {v : Value} {l : List Ver} (h : VersAt W v l) : ∃ (ao : Option Addr) (cap : Nat), v = .slice ao l.length cap ∧ ∀ i (hi : i < l.length), ∃ b off, ao = some ⟨b, off, none⟩ ∧ v.ownBlock = some b ∧ VerIn W b (off + i * 4) l[i] := by
  obtain ⟨ao, cap, rfl, _, _, h⟩ := h
  refine ⟨ao, cap, rfl, fun i hi => ?_⟩
  obtain ⟨b, off, rfl, hr⟩ := h (by omega)
  exact ⟨b, off, rfl, rfl, hr.2 i hi⟩

set_option maxRecDepth 100000 in
set_option maxHeartbeats 2000000 in
theorem row1_seq (n : Nat) (hn : 1 ≤ n) (bR : Nat) (v : Value) (l : List Ver) (w : World) (T : Nat → Prop) (hl : l.length ≤ 9223372036854775800) (hR : Boxed w bR 22 v) (hv : VersAt w v l) (hTR : T bR) (hTv : 0 < l.length → ∀ k, v.ownBlock = some k → T k) :
    SeqF Fence.wide n Try.prog 34 #[.pointer (some ⟨bR, 0, none⟩)] encV T T (fun ys => ys = l) (fun ys => ys <+: l) l.length w := by
  intro lp J Jx W fp hkm hd hlt hJ hJx hY h0
  obtain ⟨ao, cap, rfl, hc⟩ := vers_cells hv
  have hR1 := hkm.boxed hTR hR
  have hc1 : ∀ i (hi : i < l.length), ∃ b off, ao = some ⟨b, off, none⟩ ∧ T b ∧ VerIn W b (off + i * 4) l[i] := fun i hi => by
    obtain ⟨b, off, e1, e2, h0, h1, h2, h3⟩ := hc i hi
    have hT := hTv (by omega) b e2
    exact ⟨b, off, e1, hT, hkm.cell hT h0, hkm.cell hT h1, hkm.cell hT h2, hkm.cell hT h3⟩
  clear hc hv hR hTv
  refine callsIn_of_wp Try.func34 rfl trivial ?_ rfl
  simp only [Try.ntmps34, List.size_toArray, List.length_cons, List.length_nil, Nat.reduceAdd, Nat.reduceSub, Array.replicate_succ, Array.replicate_zero, List.push_toArray, List.append_toArray, List.nil_append, List.cons_append]
  gi_wp2
  gi_loopw [3, 4] (fun i _ wr => ∃ k : Nat, k ≤ l.length ∧ i = .int .i64 k ∧ Keep T W wr ∧ ∃ fp', (∀ k, fp' k → fp k ∨ W.heap.size ≤ k) ∧ (∀ k, fp' k → k < wr.heap.size) ∧ J (l.take k) fp' wr)
    (fun i _ _ => l.length - (intOf i).toNat)
  case atStart => exact ⟨0, by omega, rfl, Keep.refl _ _, fp, fun _ h => .inl h, hlt, by simpa using h0⟩
  case round =>
    obtain ⟨k, hk, rfl, hkp, fp', hn', hlt', hJ'⟩ := hrel
    have hRk := (hkp.boxed hTR hR1).cell
    by_cases h1 : k < l.length
    · obtain ⟨b, off, rfl, hTb, x0, x1, x2, x3⟩ := hc1 k h1
      replace x0 := hkp.cell hTb x0
      replace x1 := hkp.cell hTb x1
      replace x2 := hkp.cell hTb x2
      replace x3 := hkp.cell hTb x3
      have htk : Hid (l.take (k + 1) = l.take k ++ [l[k]]) := (by show _ = _; exact List.take_succ_eq_append_getElem h1)
      obtain ⟨fn, tmps, assign, body, hy, hRd⟩ := hY (l.take k) l[k] fp' wr hJ' hlt' (by simp; omega)
      unfold encV at hy
      gi_wp2
      refine hRd.mono ?_
      rintro e W3 (⟨rfl, fp3, hJ3, st3⟩ | ⟨rfl, fp3, hJx3, st3⟩)
      · clear hy
        have hk3 : Keep T W W3 := hkp.trans (st3.keep) (fun i hi hil hf => by
          rcases hn' i hf with h | h
          · exact hd i h hi
          · omega)
        have hn3 : ∀ k, fp3 k → fp k ∨ W.heap.size ≤ k := fun k h => by
          rcases st3.new k h with h | h
          · exact hn' k h
          · have := hkp.size; right; omega
        gi_wp2
        go_roundw
        case rel => exact ⟨k + 1, by omega, by go_num, hk3, fp3, hn3, st3.lt, by rw [htk.out]; exact hJ3⟩
        case measure => simp [intOf]; omega
      · clear hy
        have hk3 : Keep T W W3 := hkp.trans (st3.keep) (fun i hi hil hf => by
          rcases hn' i hf with h | h
          · exact hd i h hi
          · omega)
        have hn3 : ∀ k, fp3 k → fp k ∨ W.heap.size ≤ k := fun k h => by
          rcases st3.new k h with h | h
          · exact hn' k h
          · have := hkp.size; right; omega
        gi_wp2
        refine bodyPost_ret (results_none rfl _ _ _) rfl ?_
        exact SeqEnd.part hk3 hn3 st3.lt _ (List.take_prefix (k + 1) l) (by rw [htk.out]; exact hJx3)
    · obtain rfl : k = l.length := by omega
      gi_wp2
      go_end0
      exact SeqEnd.all hkp hn' hlt' l rfl (by simpa using hJ')
end Go.Proofs.Ytiogjebekadmcaa
