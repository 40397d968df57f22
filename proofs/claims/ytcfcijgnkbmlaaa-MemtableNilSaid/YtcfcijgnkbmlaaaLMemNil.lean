/- Walk: the law MemtableNil returns true. Condition: none. -/
import Derived.Test.YtcfcijgnkbmlaaaWFrom
namespace Go.Proofs.Ytcfcijgnkbmlaaa
open Go.RowKit Go.Shelf

attribute [local go_sem] Oper.semAt_some

set_option maxRecDepth 100000 in
set_option maxHeartbeats 1000000 in
theorem tfrom1_nil (n b : Nat) (T kfp : Nat → Prop) (N : Nat) (W0 : World) (hb : Boxed W0 b 39 (.pointer none)) :
    SeqF Fence.wide n Try.prog 47 #[.pointer (some ⟨b, 0, none⟩), .pointer (some ⟨b + 1, 0, none⟩)] encV (fun k => T k ∨ k = b ∨ k = b + 1) kfp (fun ys => ys = []) (fun ys => ys <+: []) N W0 := by
  intro l J Jx W fp hkm hd hlt hJ hJx hY h0
  clear hY
  have hb1 := (hkm.boxed (.inr (.inl rfl)) hb).cell
  refine callsIn_of_wp Try.func47 rfl trivial ?_ rfl
  simp only [Try.ntmps47, List.size_toArray, List.length_cons, List.length_nil, Nat.reduceAdd, Nat.reduceSub, Array.replicate_succ, Array.replicate_zero, List.push_toArray, List.append_toArray, List.nil_append, List.cons_append]
  gi_wp2
  refine bodyPost_ret (results_none rfl _ _ _) rfl ?_
  exact SeqEnd.all (Keep.refl _ _) (fun k h => .inl h) hlt [] rfl h0

theorem from_nil (key : ByteArray) (most : Int) (w : World) :
    Calls Try.prog 29 #[.pointer none, .string key, .int .i64 most] w fun e w' =>
      ∃ v, e = .returned v ∧ w'.ownsRow w.heap.size 24 4 v (heads ([] : List Ver) most).length (vcells (heads [] most)) ∧ Below w.heap.size w w' :=
  callsIn_wide.1 (from_in 6 (by omega) none key most w (fun _ => False) [] 0 (fun _ h => h.elim) (by omega) (fun W b _ hb _ _ => tfrom1_nil _ _ _ _ _ _ hb))

theorem ownsRow_len {W : World} {base : Nat} {e : TypeId} {size : Nat} {v : Value} {k : Nat} {xs : List Value} (h : W.ownsRow base e size v k xs) : ∃ g cap, v = .slice g k cap := by
  rcases h.2 with ⟨rfl, rfl⟩ | ⟨g, cap, _, rfl, _⟩
  · exact ⟨_, _, rfl⟩
  · exact ⟨_, _, rfl⟩

set_option maxRecDepth 100000 in
set_option maxHeartbeats 1000000 in
theorem memtableNil_any (x : Ver) (n : Int) (w : World) :
    Calls Try.prog 10 #[.agg #[.string x.key, .int .u64 (x.seq : Int), .bool x.del, .string x.val], .int .i64 n] w fun e w' =>
      e = .returned (.bool true) ∧ Below w.heap.size w w' := by
  have P1 := Lib.hid (fun w => from_nil x.key 0 w)
  obtain ⟨k, s, d, v⟩ := x
  simp only at P1
  have va0 := (((VrAt.new w k (s : Int) d v 24).alloc (.cells #[.string k, .int .u64 (s : Int), .bool d, .string v] 24)).alloc (.cells #[.string .empty, .int .u64 0, .bool false, .string .empty] 24)).alloc (.cells #[.string .empty, .int .u64 0, .bool false, .string .empty] 24)
  have vg0 := VrAt.new (((w.alloc (.cells #[.string k, .int .u64 (s : Int), .bool d, .string v] 24)).alloc (.cells #[.string k, .int .u64 (s : Int), .bool d, .string v] 24)).alloc (.cells #[.string .empty, .int .u64 0, .bool false, .string .empty] 24)) .empty 0 false .empty 24
  simp only [World.size_alloc] at vg0
  have hb0 : Below w.heap.size w ((((w.alloc (.cells #[.string k, .int .u64 (s : Int), .bool d, .string v] 24)).alloc (.cells #[.string k, .int .u64 (s : Int), .bool d, .string v] 24)).alloc (.cells #[.string .empty, .int .u64 0, .bool false, .string .empty] 24)).alloc (.cells #[.string .empty, .int .u64 0, .bool false, .string .empty] 24)) := ((((Below.refl _ _).alloc (Nat.le_refl _) _).alloc (by simp) _).alloc (by simp; omega) _).alloc (by simp; omega) _
  go_enter Try.func10, Try.ntmps10
  go_wp2_with (first | (go_at_call 29; fail) | go_in)
  refine bodyPost_ret (v := .tuple #[.agg #[.string .empty, .int .u64 0, .bool false, .string .empty], .bool false]) (by simp [results, Try.results33, go_sem]; rfl) rfl ?_
  go_wp2_with fail
  refine (P1.out _).mono ?_
  rintro e w1 ⟨v1, rfl, hr1, b1⟩
  obtain ⟨g, cap, rfl⟩ := ownsRow_len hr1
  clear hr1
  have hl : (heads ([] : List Ver) 0).length = 0 := rfl
  rw [hl]
  have ⟨x0, x1, x2, x3, xB⟩ := va0.kept b1
  have ⟨y0, y1, y2, y3, yB⟩ := vg0.kept b1
  go_wp2
  go_ret
  exact ⟨ret_bool (by rfl), below_seq hb0 b1⟩
end Go.Proofs.Ytcfcijgnkbmlaaa
