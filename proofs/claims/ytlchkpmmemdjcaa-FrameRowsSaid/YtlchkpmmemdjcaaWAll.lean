
/- Walks: the frames of bytes, as a sequence. Condition: bytes that fit the form's reach. -/
import Derived.Test.YtlchkpmmemdjcaaFq
import Derived.Test.YtlchkpmmemdjcaaPlainFr
import Derived.Test.YtlchkpmmemdjcaaWTakeFrame
namespace Go.Proofs.Ytlchkpmmemdjcaa
open Go.RowKit Go.Shelf

attribute [local go_sem] Oper.semAt_some

def encF (x : Pl.AtF) : Array Value := #[.int .i64 (x.1 : Int), .agg #[.int .u8 (x.2.1.toNat : Int), .string ⟨x.2.2.toArray⟩]]

theorem all_in (n : Nat) (s : ByteArray) (w : World) :
    CallsIn Fence.wide n Try.prog 49 #[.string s] w fun e w' => e = .returned (.func (.func 58) #[] #[.pointer (some ⟨w.heap.size, 0, none⟩)]) ∧ w' = w.alloc (.cells #[.string s] 9) := by
  refine callsIn_of_wp Try.func49 rfl trivial ?_ rfl
  simp only [Try.ntmps49, List.size_toArray, List.length_cons, List.length_nil, Nat.reduceAdd, Nat.reduceSub, Array.replicate_succ, Array.replicate_zero, List.push_toArray, List.append_toArray, List.nil_append, List.cons_append]
  gi_wp2
  go_ret
  exact ⟨rfl, rfl⟩

theorem drop_bytes (s : ByteArray) (a : Nat) : (s.extract a s.size).data.toList = s.data.toList.drop a := by
  simp [ByteArray.data_extract, Array.toList_extract]
  rw [List.take_of_length_le]
  rw [List.length_drop, Pl.size_data]
  exact Nat.le_refl _

set_option maxRecDepth 100000 in
set_option maxHeartbeats 2000000 in
theorem all1_seq (n b : Nat) (s : ByteArray) (w : World) (hs : s.size ≤ 9223372036854775000) (hB : Boxed w b 9 (.string s)) :
    SeqG Fence.wide n Try.prog 58 #[.pointer (some ⟨b, 0, none⟩)] encF (fun k => k = b) (fun k => k = b) (fun ys => ∃ k, Pl.Ends s.data.toList k ∧ ys = Pl.frames s.data.toList k) (fun ys => ∃ k, Pl.Run s.data.toList k ∧ ys = Pl.frames s.data.toList k) w := by
  intro lp J Jx W fp hkm hd hlt hJ hJx hY h0
  have hsz := Pl.size_data s
  have hB1 := hkm.boxed rfl hB
  refine callsIn_of_wp Try.func58 rfl trivial ?_ rfl
  simp only [Try.ntmps58, List.size_toArray, List.length_cons, List.length_nil, Nat.reduceAdd, Nat.reduceSub, Array.replicate_succ, Array.replicate_zero, List.push_toArray, List.append_toArray, List.nil_append, List.cons_append]
  gi_wp2
  gi_loopw [3, 5, 6, 4] (fun i _ _ _ wr => ∃ k : Nat, Pl.Run s.data.toList k ∧ i = .int .i64 (Pl.pos s.data.toList k : Nat) ∧ Keep (fun z => z = b) W wr ∧ ∃ fp', (∀ z, fp' z → fp z ∨ W.heap.size ≤ z) ∧ (∀ z, fp' z → z < wr.heap.size) ∧ J (Pl.frames s.data.toList k) fp' wr)
    (fun i _ _ _ _ => s.size + 1 - (intOf i).toNat)
  case atStart => exact ⟨0, Pl.Run.zero _, rfl, Keep.refl _ _, fp, fun _ h => .inl h, hlt, by simpa [Pl.frames] using h0⟩
  case round =>
    obtain ⟨k, hk, rfl, hkp, fp', hn', hlt', hJ'⟩ := hrel
    have hBk := hkp.boxed rfl hB1
    have hBc := hBk.cell
    obtain ⟨hp1, hp2⟩ := Pl.pos_le hk
    have hfs := Pl.frames_succ s.data.toList k
    have hokd : Pl.okF s.data.toList k ↔ (Pl.takeFrame (s.data.toList.drop (Pl.pos s.data.toList k))).2.2 = 0 := Iff.rfl
    have hsz2 := fun h => Pl.take_size (l := s.data.toList.drop (Pl.pos s.data.toList k)) h
    have hfa : Pl.frameAt s.data.toList k = (Pl.pos s.data.toList k, (Pl.takeFrame (s.data.toList.drop (Pl.pos s.data.toList k))).1) := rfl
    have hps : Pl.pos s.data.toList (k + 1) = Pl.pos s.data.toList k + (Pl.takeFrame (s.data.toList.drop (Pl.pos s.data.toList k))).2.1 := rfl
    rw [hfa] at hfs
    have P := Lib.hid (fun w => takeFrame_big (s.extract (Pl.pos s.data.toList k) s.size) w (by simp only [ByteArray.size_extract]; omega))
    rw [drop_bytes] at P
    rw [List.length_drop] at hsz2
    rw [hsz] at hp2 hsz2
    generalize Pl.takeFrame (s.data.toList.drop (Pl.pos s.data.toList k)) = t at *
    obtain ⟨⟨kd, ld⟩, m, e⟩ := t
    simp only at hokd hsz2 hps hfs
    generalize hpos : Pl.pos s.data.toList k = p at *
    gi_wp2
    refine ⟨trivial, fun h => (by cases h), ?_⟩
    refine (callsIn_wide.2 (P.out _)).mono ?_
    rintro e1 w1 ⟨rfl, b1⟩
    unfold tupF
    have hk1 : Keep (fun z => z = b) W (w1.alloc (.cells #[.int .u8 (kd.toNat : Int), .string ⟨ld.toArray⟩] 32)) := (hkp.beyond b1).alloc _
    have hkj : Keep fp' wr (w1.alloc (.cells #[.int .u8 (kd.toNat : Int), .string ⟨ld.toArray⟩] 32)) := ((Keep.refl fp' wr).beyond b1).alloc _
    have fr := Fr.new w1 (kd.toNat : Int) ⟨ld.toArray⟩ 32
    by_cases he : e = 0
    · subst he
      have hm := hsz2 rfl
      have hrun := hk.succ (hokd.2 rfl)
      have hJ1 := hJ _ _ _ _ hJ' hkj
      obtain ⟨fn, tmps, assign, body, hy, hRd⟩ := hY _ (p, kd, ld) fp' _ hJ1 (fun z h => Nat.lt_of_lt_of_le (hlt' z h) hkj.size) ⟨k + 1, hrun, hfs.symm⟩
      unfold encF at hy
      clear hY
      obtain ⟨f0, f1, fB⟩ := fr
      gi_wp2
      refine ⟨fun h => (by cases h), hRd.mono ?_⟩
      rintro e W3 (⟨rfl, fp3, hJ3, st3⟩ | ⟨rfl, fp3, hJ3, st3⟩)
      all_goals
        clear hy
        have hk3 : Keep (fun z => z = b) W W3 := hk1.trans st3.keep (fun i hi hil hf => by
          rcases hn' i hf with h | h
          · exact hd i h hi
          · have := hB1.lt; omega)
        have hn3 : ∀ z, fp3 z → fp z ∨ W.heap.size ≤ z := fun z h => by
          rcases st3.new z h with h | h
          · exact hn' z h
          · have := hk1.size; right; omega
      · gi_wp2
        go_roundw
        case rel => exact ⟨k + 1, hrun, by rw [hps]; go_num, hk3, fp3, hn3, st3.lt, by rw [hfs]; exact hJ3⟩
        case measure => simp [intOf]; omega
      · gi_wp2
        refine bodyPost_ret (results_none rfl _ _ _) rfl ?_
        exact SeqEnd.part hk3 hn3 st3.lt _ ⟨k + 1, hrun, hfs.symm⟩ hJ3
    · have hnok : ¬ Pl.okF s.data.toList k := fun h => he (hokd.1 h)
      clear hY
      gi_wp2
      refine ⟨fun _ h => (by cases h), ?_⟩
      gi_wp2
      refine bodyPost_ret (results_none rfl _ _ _) rfl ?_
      exact SeqEnd.all hk1 hn' (fun z h => Nat.lt_of_lt_of_le (hlt' z h) hkj.size) _ ⟨k, ⟨hk, hnok⟩, rfl⟩ (hJ _ _ _ _ hJ' hkj)
end Go.Proofs.Ytlchkpmmemdjcaa
