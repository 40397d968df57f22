
/- Walk: where the frames of bytes end. Condition: bytes that fit the form's reach. -/
import Derived.Test.YtlchkpmmemdjcaaWAll
namespace Go.Proofs.Ytlchkpmmemdjcaa
open Go.RowKit Go.Shelf

attribute [local go_sem] Oper.semAt_some

theorem Pl.sp_last {s : List UInt8} {pre : List Pl.AtF} {x : Pl.AtF} (h : ∃ k, Pl.Run s k ∧ pre ++ [x] = Pl.frames s k) : x = Pl.frameAt s pre.length ∧ Pl.okF s pre.length ∧ pre = Pl.frames s pre.length ∧ Pl.Run s pre.length := by
  obtain ⟨k, hr, he⟩ := h
  have hl := congrArg List.length he
  rw [Pl.frames_length, List.length_append, List.length_singleton] at hl
  subst hl
  rw [Pl.frames_succ] at he
  have h1 := List.append_inj' he rfl
  exact ⟨by simpa using h1.2, hr _ (by omega), h1.1, fun j hj => hr j (by omega)⟩

theorem callsIn_round {P : Program} {l n f : Nat} {args : Array Value} {w : World} {R : Ending → World → Prop} (h : Calls P f args w R) : CallsIn (Fence.wide.inRound l) n P f args w R := (callsIn_wide (n := n)).2 h
theorem keep_below {w X : World} {D : Nat} (h6 : Keep (fun z => z < w.heap.size) w X) (hD : w.heap.size ≤ D) : Below w.heap.size w (X.putObj D (.deferred none)) := by
  have hg := grownBy_putObj' X D (.deferred none)
  exact ⟨hg.os.trans h6.os, hg.tape.trans h6.tape, hg.output.trans h6.output, Nat.le_trans h6.size hg.size, fun k hk => (hg.block k (by have := h6.size; omega) (fun e => by cases e; omega)).trans (h6.block k hk hk)⟩

set_option maxRecDepth 100000 in
set_option maxHeartbeats 2000000 in
theorem end_any (s : ByteArray) (w : World) (hs : s.size ≤ 9223372036854775000) :
    Calls Try.prog 50 #[.string s] w fun e w' => ∃ v, e = .returned v ∧ (∃ k, Pl.Ends s.data.toList k ∧ v = .int .i64 (Pl.pos s.data.toList k : Nat)) ∧ Below w.heap.size w w' := by
  have hsz := Pl.size_data s
  have bA := Boxed.new w 9 (.string s)
  have bE := Boxed.new (w.alloc (.cells #[.string s] 9)) 3 (.int .i64 0)
  have bS := Boxed.new ((w.alloc (.cells #[.string s] 9)).alloc (.cells #[.int .i64 0] 3)) 9 (.string s)
  simp only [World.size_alloc] at bE bS
  replace bA := (bA.alloc (.cells #[.int .i64 0] 3))
  have cA := bA.cell
  replace bA := bA.alloc (.cells #[.string s] 9)
  replace bE := bE.alloc (.cells #[.string s] 9)
  have hk : ∀ f : Nat → Prop, Keep f w (((w.alloc (.cells #[.string s] 9)).alloc (.cells #[.int .i64 0] 3)).alloc (.cells #[.string s] 9)) := fun f => (((Keep.refl f w).alloc _).alloc _).alloc _
  have hz : (((w.alloc (.cells #[.string s] 9)).alloc (.cells #[.int .i64 0] 3)).alloc (.cells #[.string s] 9)).heap.size = w.heap.size + 3 := by simp
  refine callsIn_wide.1 (callsIn_of_wp_marks (n := 9) Try.func50 rfl trivial ?_ rfl)
  simp only [Try.ntmps50, List.size_toArray, List.length_cons, List.length_nil, Nat.reduceAdd, Nat.reduceSub, Array.replicate_succ, Array.replicate_zero, List.push_toArray, List.append_toArray, List.nil_append, List.cons_append]
  gi_wp2
  refine ⟨trivial, ?_⟩
  refine (all_in 8 s _).mono ?_
  rintro e1 w1 ⟨rfl, rfl⟩
  gi_wp2
  clear cA
  generalize (((w.alloc (.cells #[.string s] 9)).alloc (.cells #[.int .i64 0] 3)).alloc (.cells #[.string s] 9)) = W0 at bA bE bS hk hz ⊢
  refine wpIn_rangeG (F := Fence.wide) rfl (by omega) (gf := 58) (lb := #[.pointer (some ⟨w.heap.size + 1 + 1, 0, none⟩)]) rfl trivial (enters_of Try.func58 (by kernel_rfl) rfl)
    (all1_seq 8 (w.heap.size + 1 + 1) s W0 hs bS) (fun _ => rfl) (fun k h => by have h' : k = w.heap.size + 1 + 1 := h; omega) (fun k h => by have h' : k = w.heap.size + 1 + 1 := h; omega)
    (fun pre fp X => (∀ z, z < w.heap.size → fp z) ∧ fp w.heap.size ∧ fp (w.heap.size + 1) ∧ Boxed X w.heap.size 9 (.string s) ∧ Boxed X (w.heap.size + 1) 3 (.int .i64 (Pl.pos s.data.toList pre.length : Nat)) ∧ Keep (fun z => z < w.heap.size) w X)
    (fun _ _ _ _ => False)
    (fun pre x a' fp X => ((∀ z, z < w.heap.size → fp z) ∧ fp w.heap.size ∧ fp (w.heap.size + 1) ∧ Boxed X w.heap.size 9 (.string s) ∧ Boxed X (w.heap.size + 1) 3 (.int .i64 (Pl.pos s.data.toList pre.length : Nat)) ∧ Keep (fun z => z < w.heap.size) w X) ∧ a' = (
      { tmps := #[.string s, .pointer (some ⟨w.heap.size, 0, none⟩), .int .i64 0, .pointer (some ⟨w.heap.size + 1, 0, none⟩), .int .i64 (x.1 : Int), undef, undef, undef, .string s, .func (.func 58) #[] #[.pointer (some ⟨w.heap.size + 1 + 1, 0, none⟩)], .int .i64 (x.1 : Int), .agg #[.int .u8 (x.2.1.toNat : Int), .string ⟨x.2.2.toArray⟩], undef, undef, undef, undef, undef, undef, undef, undef, undef, undef, undef, undef], defers := [] } : Act))
    ?_ ?_ ?_ (fun z => z < w.heap.size ∨ z = w.heap.size ∨ z = w.heap.size + 1) ?_ ?_ ?_ ?assign ?body ?done ?stop
  case assign =>
    intro l pre x fp X K hI hlt hlen hK
    unfold encF
    gi_wp2
    exact hK _ fp X (Step.refl hlt) ⟨hI, rfl⟩
  case body =>
    rintro l pre x a' fp X ⟨⟨h1, h2, h3, h4, h5, h6⟩, rfl⟩ hlt hlen
    obtain ⟨rfl, hok, hpre, hrun⟩ := Pl.sp_last hlen
    have c4 := h4.cell
    have c5 := h5.cell
    have fz5 := h5.frozen
    obtain ⟨hp1, hp2⟩ := Pl.pos_le hrun
    obtain ⟨_, m1, m2⟩ := Pl.take_size hok
    have hps : Hid (Pl.pos s.data.toList (pre.length + 1) = Pl.pos s.data.toList pre.length + (Pl.takeFrame (s.data.toList.drop (Pl.pos s.data.toList pre.length))).2.1) := by show _ = _; rfl
    have P := Lib.hid (fun w => takeFrame_big (s.extract (Pl.pos s.data.toList pre.length) s.size) w (by simp only [ByteArray.size_extract]; omega))
    rw [drop_bytes] at P
    rw [List.length_drop] at m2
    rw [hsz] at hp2 m2
    unfold Pl.frameAt
    simp only
    clear hok hpre hrun
    generalize Pl.takeFrame (s.data.toList.drop (Pl.pos s.data.toList pre.length)) = t at *
    obtain ⟨⟨kd, ld⟩, m, e⟩ := t
    simp only at m1 m2 hps
    generalize hpos : Pl.pos s.data.toList pre.length = p at *
    gi_wp2
    refine ⟨trivial, ?_⟩
    refine (callsIn_round (P.out _)).mono ?_
    rintro e1 w1 ⟨rfl, b1⟩
    unfold tupF
    have e5 : Boxed w1 (w.heap.size + 1) 3 (.int .i64 (p : Int)) := (b1.block _ h5.lt).trans h5
    have fz0 := Boxed.frozen e5
    have lt0 := Boxed.lt e5
    have ce := Boxed.cell e5
    have ee := Boxed.alloc e5 (.cells #[.int .u8 (kd.toNat : Int), .string ⟨ld.toArray⟩] 32)
    have ce2 := ee.cell
    have fz2 := ee.frozen
    have lt2 := ee.lt
    clear ee
    have kp : ∀ f : Nat → Prop, Keep f X w1 := fun f => (Keep.refl f X).beyond b1
    have e4 := (kp fp).boxed h2 h4
    clear c4 c5 fz5
    gi_wp2
    refine ⟨fp, ⟨h1, h2, h3, (e4.other (by omega) _).alloc _, ?_, ((h6.trans (kp fp) (fun i hi _ => h1 i hi)).setCell _ _ _ (fun h _ => by omega)).alloc _⟩, ((kp _).setCell _ _ _ (fun h _ => h h3)).alloc _, fun _ h => .inl h, fun k h => by have := hlt k h; have := (kp fp).size; simp [World.setCell]; omega⟩
    rw [List.length_append, List.length_singleton, hps.out]
    exact (e5.set _).alloc _
  case done =>
    rintro D ys fp X hD hnD hnew hlt hkT ⟨k, hek, rfl⟩ ⟨h1, h2, h3, h4, h5, h6⟩ hK
    have c5 := h5.cell
    rw [Pl.frames_length] at c5
    gi_wp2
    refine ⟨by simp, .inl ⟨_, _, rfl, run_takeDeferred hK, ?_⟩⟩
    exact ⟨_, results_tmp rfl _ _ _, _, rfl, ⟨k, hek, rfl⟩, keep_below h6 (by omega)⟩
  case stop =>
    rintro D c pre fp X _ _ _ _ _ _ h
    exact h.elim
  · rintro pre fp X X' ⟨h1, h2, h3, h4, h5, h6⟩ hkp
    exact ⟨h1, h2, h3, hkp.boxed h2 h4, hkp.boxed h3 h5, h6.trans hkp (fun i hi _ => h1 i hi)⟩
  · rintro c pre fp X X' h
    exact h.elim
  · rintro pre x a' _ fp X X' ⟨⟨h1, h2, h3, h4, h5, h6⟩, he⟩ hkp
    exact ⟨⟨h1, h2, h3, hkp.boxed h2 h4, hkp.boxed h3 h5, h6.trans hkp (fun i hi _ => h1 i hi)⟩, he⟩
  · intro k h1 h2
    have h' : k = w.heap.size + 1 + 1 := h2
    rcases h1 with h1 | h1 | h1 <;> omega
  · intro k h1
    rcases h1 with h1 | h1 | h1 <;> omega
  · exact ⟨fun _ h => .inl h, .inr (.inl rfl), .inr (.inr rfl), bA, bE, hk _⟩
end Go.Proofs.Ytlchkpmmemdjcaa
