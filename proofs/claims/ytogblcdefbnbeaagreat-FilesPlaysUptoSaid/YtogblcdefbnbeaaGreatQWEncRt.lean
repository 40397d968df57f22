
/- Walk: a root as bytes. Condition: none. -/
import Derived.Test.YtogblcdefbnbeaaGreatQPn
import Derived.Test.YtogblcdefbnbeaaGreatQWBld
import Derived.Test.YtogblcdefbnbeaaGreatQHa
import Derived.Test.YtogblcdefbnbeaaGreatQGu
import Derived.Test.YtogblcdefbnbeaaGreatQRound
import Derived.Laws.EntriesVeiled
set_option maxRecDepth 100000
namespace Go.Proofs.YtogblcdefbnbeaaGreat
section
open Go.RowKit Go.Shelf
attribute [local go_sem] Oper.semAt_some
theorem u64_of (n : Nat) (h : n < 9223372036854775808) : U64 n := U64.mk' (by omega)
set_option maxHeartbeats 800000 in
theorem encPut (b : Nat) (p : Value) (l : List UInt8) (n : Nat) (fp : Nat → Prop) (w : World) (h : BldF b p l fp w) (hlt : ∀ k, fp k → k < w.heap.size) (hp : Hd b p) (hn : n < 9223372036854775808) (hlen : l.length + 10 ≤ 140737488355328) :
  Calls Tryz.prog 111 #[.int .i64 (n : Int), .pointer (some ⟨b, 0, none⟩)] w fun e w' => e = .returned (.tuple #[]) ∧ (∃ fp', BldF b (.pointer (some ⟨b, 0, none⟩)) (l ++ Pl.putUint n) fp' w' ∧ Step fp fp' w w' ∧ ∀ k, fp k → fp' k) ∧ Below b w w' := by
 have hU := u64_of n hn
 have hl := Pl.putUint_length64 n (by omega)
 have P1 := Lib.hid (putUint_any n w hU)
 have hz : (ByteArray.mk (Pl.putUint n).toArray).size = (Pl.putUint n).length := by simp [ByteArray.size]
 have hb := lt_of_block h.choose_spec.1
 have P2 := Lib.hid (fun W (hbl : Below w.heap.size w W) => writeStringF b p l ⟨(Pl.putUint n).toArray⟩ fp W (h.keep (Keep.of_below hbl (fun k hk _ => hlt k hk))) (fun k hk => Nat.lt_of_lt_of_le (hlt k hk) hbl.size) hp (by rw [hz]; omega))
 have hw : IntKind.u64.wrap (n : Int) = (n : Int) := by
  rw [IntKind.wrap_u64]; omega
 clear hl
 go_enter Tryz.func111, Tryz.ntmps111
 go_wp2_with fail
 refine P1.out.mono ?_
 rintro e w1 ⟨rfl, b1⟩
 clear P1
 go_wp2_with fail
 refine (P2.out w1 b1).mono ?_
 rintro e w2 ⟨rfl, ⟨fp', h2, s2, m2⟩, b2⟩
 clear P2
 go_wp2_with fail
 go_end0
 refine ⟨rfl, ⟨fp', h2, ⟨(Keep.of_below (fp := fun k => ¬ fp k) b1 (fun _ _ h => h)).trans s2.keep (fun _ h _ => h), fun k hk => (s2.new k hk).imp id (fun h => Nat.le_trans b1.size h), s2.lt⟩, m2⟩, (b1.mono (Nat.le_of_lt hb)).trans b2⟩
set_option maxHeartbeats 1600000 in
theorem encRoot_bad (n : Nat) (r : Pl.RootP) (ao : Option Addr) (cap : Nat) (N0 : Int) (w : World) (hf : r.fine) (hu : FilesAt w (.slice ao r.files.length cap) r.files) (hN1 : -9223372036854775808 ≤ N0) (hN2 : N0 ≤ 9223372036854775807) (hm : ¬ Pl.May (min N0 16384) r) :
  CallsIn Fence.wide n Tryz.prog 82 #[.agg #[.int .u64 (r.gen : Int), .slice ao r.files.length cap], .int .i64 N0] w fun e w' => e = .returned (.tuple #[.string .empty, .int .i64 1]) ∧ Below w.heap.size w w' := by
 obtain ⟨W0, hW0⟩ : ∃ W0, w.alloc (.cells #[.int .u64 (r.gen : Int), .slice ao r.files.length cap] 71) = W0 := ⟨_, rfl⟩
 have hb0 : Below w.heap.size w W0 := by rw [← hW0]; exact (Below.refl _ _).alloc (Nat.le_refl _) _
 have hR0 : W0.heap[w.heap.size]? = some (.cells #[.int .u64 (r.gen : Int), .slice ao r.files.length cap] 71 (0, 0)) := by rw [← hW0]; exact World.alloc_heap_new _ _
 have r0 : W0.cell? ⟨w.heap.size, 0, none⟩ = some (.int .u64 (r.gen : Int)) := by simp [World.cell?, hR0]
 have r1 : W0.cell? ⟨w.heap.size, 1, none⟩ = some (.slice ao r.files.length cap) := by simp [World.cell?, hR0]
 have P := Lib.hid (may_any r (.slice ao r.files.length cap) N0 W0 hf (hu.below hb0) hN1 hN2)
 rw [Pl.mayB_no hm] at P
 refine callsIn_of_wp_marks Tryz.func82 rfl trivial (wpIn_wide.2 ?_) rfl
 simp only [Tryz.ntmps82, List.size_toArray, List.length_cons, List.length_nil, Nat.reduceAdd, Nat.reduceSub, Array.replicate_succ, Array.replicate_zero, List.push_toArray, List.append_toArray, List.nil_append, List.cons_append]
 go_wp2_with fail
 refine P.out.mono ?_
 rintro e w1 ⟨rfl, b1⟩
 go_wp2_with fail
 refine leaves_marks [] _ (Marked.nil _) (fun W' hk' => ⟨_, results_tmp2 rfl _ _ _, by rfl, ?_⟩)
 exact hk'.below (hb0.trans (b1.mono hb0.size)) (Nat.le_refl _) (fun k _ h => by cases h)
def putF (b : Nat) : Value := .func (.func 111) #[] #[.pointer (some ⟨b, 0, none⟩)]
structure Enc (w1 : World) (b : Nat) (l : List UInt8) (fp : Nat → Prop) (W : World) : Prop where
 bld : ∃ p, Hd b p ∧ BldF b p l fp W
 lt : ∀ k, fp k → k < W.heap.size
 lo : ∀ k, fp k → b ≤ k
 nc : ¬ fp (b + 1)
 put : Boxed W (b + 1) 37 (putF b)
 old : Below b w1 W
theorem Enc.step {w1 : World} {b : Nat} {l l' : List UInt8} {fp fp' : Nat → Prop} {W W' : World} (h : Enc w1 b l fp W) (h2 : BldF b (.pointer (some ⟨b, 0, none⟩)) l' fp' W') (s : Step fp fp' W W') (hb : Below b W W') : Enc w1 b l' fp' W' :=
 ⟨⟨_, .inr rfl, h2⟩, s.lt, fun k hk => (s.new k hk).elim (h.lo k) (fun h1 => by have := h.put.lt; omega), s.other h.nc h.put.lt, s.keep.boxed h.nc h.put, h.old.trans hb⟩
theorem Enc.below {w1 : World} {b : Nat} {l : List UInt8} {fp : Nat → Prop} {W W' : World} (h : Enc w1 b l fp W) (hb : Below W.heap.size W W') : Enc w1 b l fp W' := by
 obtain ⟨p, hp, hB⟩ := h.bld
 refine ⟨⟨p, hp, hB.keep (Keep.of_below hb (fun k hk _ => h.lt k hk))⟩, fun k hk => Nat.lt_of_lt_of_le (h.lt k hk) hb.size, h.lo, h.nc, Keep.boxed (fp := fun k => k = b + 1) (Keep.of_below hb (fun k hk _ => by rw [hk]; exact h.put.lt)) rfl h.put, h.old.trans (hb.mono (by have := h.put.lt; omega))⟩
theorem Enc.keep {w1 : World} {b Z : Nat} {l : List UInt8} {fp : Nat → Prop} {W X : World} (h : Enc w1 b l fp W) (hk : Keep (fun z => z < Z) W X) (hZ : ∀ k, fp k → k < Z) (hb : b + 1 < Z) (hbw : b ≤ w1.heap.size) : Enc w1 b l fp X := by
 obtain ⟨p, hp, hB⟩ := h.bld
 exact ⟨⟨p, hp, hB.keep (hk.mono (fun k hk _ => hZ k hk))⟩, fun k hk' => Nat.lt_of_lt_of_le (h.lt k hk') hk.size, h.lo, h.nc, hk.boxed hb h.put, hk.below h.old hbw (fun k hk => by omega)⟩
theorem Keep.both {f g : Nat → Prop} {A B : World} (h : Keep f A B) (k : Keep g A B) : Keep (fun i => f i ∨ g i) A B :=
 ⟨h.os, h.tape, h.output, h.size, fun i hi hl => hi.elim (fun h1 => h.block i h1 hl) (fun h1 => k.block i h1 hl)⟩
theorem Pl.mem_runs : ∀ (n : Nat) (l : List Int) (x : Int × Nat), l.length ≤ n → x ∈ Pl.runsOf l → x.1 ∈ l ∧ x.2 ≤ l.length
 | 0, l, x, h, hx => by
  obtain rfl : l = [] := List.length_eq_zero_iff.1 (by omega)
  rw [Pl.runsOf_nil] at hx; cases hx
 | n + 1, [], x, _, hx => by rw [Pl.runsOf_nil] at hx; cases hx
 | n + 1, a :: l, x, h, hx => by
  have hp := Pl.upR_pos a l
  rw [Pl.runsOf_cons] at hx
  rcases List.mem_cons.1 hx with rfl | hx
  ·exact ⟨by simp, Pl.upR_le _ _⟩
  ·obtain ⟨h1, h2⟩ := Pl.mem_runs n _ x (by simp only [List.length_drop, List.length_cons] at *; omega) hx
   exact ⟨List.mem_of_mem_drop h1, by simp only [List.length_drop, List.length_cons] at *; omega⟩
theorem Pl.runBytes_le {x : Int × Nat} (h1 : x.1.toNat < 18446744073709551616) (h2 : x.2 < 18446744073709551616) : (Pl.runBytes x).length ≤ 20 := by
 unfold Pl.runBytes
 have := Pl.putUint_length64 x.1.toNat h1
 have := Pl.putUint_length64 x.2 h2
 rw [List.length_append]; omega
theorem flatMap_le {α : Type} {f : α → List UInt8} {c : Nat} : ∀ (l : List α), (∀ x ∈ l, (f x).length ≤ c) → (l.flatMap f).length ≤ l.length * c
 | [], _ => by simp
 | x :: l, h => by
  have h1 := h x (by simp)
  have h2 := flatMap_le l (fun y hy => h y (by simp [hy]))
  simp only [List.flatMap_cons, List.length_append, List.length_cons]
  rw [Nat.add_mul]
  omega
theorem Pl.fileBytes_le {N : Int} {r : Pl.RootP} (hm : Pl.May N r) (hN : N ≤ 16384) {x : Pl.FileP} (hx : x ∈ r.files) : (Pl.fileBytes x).length ≤ 400000 := by
 obtain ⟨h1, h2, h3, h4, h5⟩ := hm.blocks hN hx
 have hr := Pl.runsOf_length x.blocks.length x.blocks (Nat.le_refl _)
 have hf := flatMap_le (f := Pl.runBytes) (c := 20) (Pl.runsOf x.blocks) (fun y hy => by
  obtain ⟨m1, m2⟩ := Pl.mem_runs x.blocks.length x.blocks y (Nat.le_refl _) hy
  have := h2 _ m1
  exact Pl.runBytes_le (by omega) (by omega))
 have hn : x.name.data.toList.length = x.name.size := Pl.size_data x.name
 have u1 := Pl.putUint_length64 x.name.size (by omega)
 have u2 := Pl.putUint_length64 x.size.toNat (by omega)
 have u3 := Pl.putUint_length64 (Pl.runsOf x.blocks).length (by omega)
 unfold Pl.fileBytes Pl.putText
 simp only [List.length_append, hn]
 omega
theorem Pl.prefix_le {N : Int} {r : Pl.RootP} (hm : Pl.May N r) (hN : N ≤ 16384) (j : Nat) : (Pl.putUint r.gen ++ Pl.putUint r.files.length ++ (r.files.take j).flatMap Pl.fileBytes).length ≤ 100000000 := by
 have h1 := flatMap_le (f := Pl.fileBytes) (c := 400000) (r.files.take j) (fun x hx => Pl.fileBytes_le hm hN (List.mem_of_mem_take hx))
 have h2 : (r.files.take j).length ≤ r.files.length := by rw [List.length_take]; omega
 have h3 := hm.many
 have h4 := hm.g2
 have u1 := Pl.putUint_length64 r.gen (by omega)
 have u2 := Pl.putUint_length64 r.files.length (by omega)
 have h5 : (r.files.take j).length * 400000 ≤ 64 * 400000 := Nat.mul_le_mul_right _ (by omega)
 simp only [List.length_append]
 omega
def Pl.encOf (r : Pl.RootP) : List UInt8 × Int := if 262144 < (Pl.rootBytes r).length ∨ 3840 < (Pl.frame 1 (Pl.rootBytes r)).length then ([], 5) else (Pl.frame 1 (Pl.rootBytes r), 0)
def Run2 (b Z : Nat) (l : List UInt8) (fpe fp : Nat → Prop) (X : World) : Prop :=
 ∃ p fpX, Hd b p ∧ BldF b p l fpX X ∧ (∀ k, fpX k → fp k) ∧ (∀ k, fpX k → fpe k ∨ Z ≤ k) ∧ ∀ k, fpX k → k < X.heap.size
theorem Run2.keep {b Z : Nat} {l : List UInt8} {fpe fp : Nat → Prop} {X X' : World} (h : Run2 b Z l fpe fp X) (hk : Keep fp X X') : Run2 b Z l fpe fp X' := by
 obtain ⟨p, fpX, hp, hB, h1, h2, h3⟩ := h
 exact ⟨p, fpX, hp, hB.keep (hk.mono (fun k hk _ => h1 k hk)), h1, h2, fun k hk' => Nat.lt_of_lt_of_le (h3 k hk') hk.size⟩
theorem Enc.run2 {w1 : World} {b Z : Nat} {l : List UInt8} {fpe fp : Nat → Prop} {W : World} (h : Enc w1 b l fpe W) (hf : ∀ k, fpe k → fp k) : Run2 b Z l fpe fp W := by
 obtain ⟨p, hp, hB⟩ := h.bld
 exact ⟨p, fpe, hp, hB, hf, fun k hk => .inl hk, h.lt⟩
theorem run2_put {b Z : Nat} {l : List UInt8} {fpe fp : Nat → Prop} {X : World} (h : Run2 b Z l fpe fp X) (hlt : ∀ k, fp k → k < X.heap.size) (hZ : Z ≤ X.heap.size) (n : Nat) (hn : n < 9223372036854775808) (hlen : l.length + 10 ≤ 140737488355328) :
  Calls Tryz.prog 111 #[.int .i64 (n : Int), .pointer (some ⟨b, 0, none⟩)] X fun e w' => e = .returned (.tuple #[]) ∧ ∃ fp', Run2 b Z (l ++ Pl.putUint n) fpe fp' w' ∧ Step fp fp' X w' ∧ (∀ k, fp k → fp' k) ∧ Keep (fun k => ¬ fpe k ∧ k < Z) X w' := by
 obtain ⟨p, fpX, hp, hB, h1, h2, h3⟩ := h
 refine (encPut b p l n fpX X hB h3 hp hn hlen).mono ?_
 rintro e w' ⟨rfl, ⟨fp', hB', s, m⟩, _⟩
 refine ⟨rfl, fun k => fp k ∨ fp' k, ⟨_, fp', .inr rfl, hB', fun k hk => .inr hk, fun k hk => (s.new k hk).elim (h2 k) (fun h => .inr (by omega)), s.lt⟩, ⟨s.keep.mono (fun k hk _ hx => hk (h1 k hx)), ?_, ?_⟩, fun k hk => .inl hk, s.keep.mono (fun k hk _ hx => (h2 k hx).elim hk.1 (fun h => by omega))⟩
 ·rintro k (hk | hk)
  ·exact .inl hk
  ·exact (s.new k hk).imp (h1 k) id
 ·rintro k (hk | hk)
  ·exact Nat.lt_of_lt_of_le (hlt k hk) s.keep.size
  ·exact s.lt k hk
theorem flat_le {α : Type} {f : α → List UInt8} {a b : List α} (h : a <+: b) : (a.flatMap f).length ≤ (b.flatMap f).length := by
 obtain ⟨c, rfl⟩ := h
 rw [List.flatMap_append, List.length_append]
 omega
set_option maxHeartbeats 1600000 in
theorem encRoot_ok (n : Nat) (r : Pl.RootP) (ao : Option Addr) (cap : Nat) (N0 : Int) (w : World) (hf : r.fine) (hu : FilesAt w (.slice ao r.files.length cap) r.files) (hN1 : -9223372036854775808 ≤ N0) (hN2 : N0 ≤ 9223372036854775807) (hm : Pl.May (min N0 16384) r) :
  CallsIn Fence.wide n Tryz.prog 82 #[.agg #[.int .u64 (r.gen : Int), .slice ao r.files.length cap], .int .i64 N0] w fun e w' => e = .returned (.tuple #[.string ⟨(Pl.encOf r).1.toArray⟩, .int .i64 (Pl.encOf r).2]) ∧ Below w.heap.size w w' := by
 obtain ⟨W0, hW0⟩ : ∃ W0, w.alloc (.cells #[.int .u64 (r.gen : Int), .slice ao r.files.length cap] 71) = W0 := ⟨_, rfl⟩
 have hb0 : Below w.heap.size w W0 := by rw [← hW0]; exact (Below.refl _ _).alloc (Nat.le_refl _) _
 have hR0 : W0.heap[w.heap.size]? = some (.cells #[.int .u64 (r.gen : Int), .slice ao r.files.length cap] 71 (0, 0)) := by rw [← hW0]; exact World.alloc_heap_new _ _
 have r0 : W0.cell? ⟨w.heap.size, 0, none⟩ = some (.int .u64 (r.gen : Int)) := by simp [World.cell?, hR0]
 have r1 : W0.cell? ⟨w.heap.size, 1, none⟩ = some (.slice ao r.files.length cap) := by simp [World.cell?, hR0]
 have hz0 : w.heap.size < W0.heap.size := (Array.getElem?_eq_some_iff.1 hR0).1
 have P := Lib.hid (may_any r (.slice ao r.files.length cap) N0 W0 hf (hu.below hb0) hN1 hN2)
 rw [Pl.mayB_yes hm] at P
 refine callsIn_of_wp_marks Tryz.func82 rfl trivial (wpIn_wide.2 ?_) rfl
 simp only [Tryz.ntmps82, List.size_toArray, List.length_cons, List.length_nil, Nat.reduceAdd, Nat.reduceSub, Array.replicate_succ, Array.replicate_zero, List.push_toArray, List.append_toArray, List.nil_append, List.cons_append]
 go_wp2_with fail
 clear hW0
 refine P.out.mono ?_
 rintro e w1 ⟨rfl, b1⟩
 have hbw1 := hb0.trans (b1.mono hb0.size)
 have q0 := (b1.cell (p := ⟨w.heap.size, 0, none⟩) hz0).trans r0
 have q1 := (b1.cell (p := ⟨w.heap.size, 1, none⟩) hz0).trans r1
 have hR1 := (b1.block w.heap.size hz0).trans hR0
 have hz1 : w.heap.size < w1.heap.size := Nat.lt_of_lt_of_le hz0 b1.size
 clear r0 r1 P
 obtain ⟨W2, hW2⟩ : ∃ W2, w1.alloc (.cells #[.pointer none, .slice none 0 0] 89) = W2 := ⟨_, rfl⟩
 have hB2 := BldF.new w1 (fun k => k = w1.heap.size) rfl
 rw [hW2] at hB2
 have hb2 : Below w1.heap.size w1 W2 := by rw [← hW2]; exact (Below.refl _ _).alloc (Nat.le_refl _) _
 have hz2 : W2.heap.size = w1.heap.size + 1 := by rw [← hW2]; simp
 obtain ⟨W3, hW3⟩ : ∃ W3, W2.alloc (.cells #[.func (.func 111) #[] #[.pointer (some ⟨w1.heap.size, 0, none⟩)]] 37) = W3 := ⟨_, rfl⟩
 have hb3 : Below W2.heap.size W2 W3 := by rw [← hW3]; exact (Below.refl _ _).alloc (Nat.le_refl _) _
 have hbx3 : Boxed W3 (w1.heap.size + 1) 37 (putF w1.heap.size) := by rw [← hW3, ← hz2]; exact Boxed.new W2 _ _
 have hE3 : Enc w1 w1.heap.size [] (fun k => k = w1.heap.size) W3 :=
  ⟨⟨_, .inl rfl, hB2.keep (Keep.of_below hb3 (fun k hk _ => by omega))⟩, fun k hk => by have := hbx3.lt; omega, fun k hk => by omega, by omega, hbx3, hb2.trans (hb3.mono hb2.size)⟩
 have q0' := (hE3.old.cell (p := ⟨w.heap.size, 0, none⟩) hz1).trans q0
 have hg1 := hm.g1
 have hg2 := hm.g2
 have P1 := Lib.hid (fun W => putUint_any r.gen W (u64_of r.gen (by omega)))
 go_wp2_with fail
 clear hW2 hW3 hB2 hb2 hb3 hbx3 q0'
 refine (P1.out W3).mono ?_
 rintro e W4 ⟨rfl, b4⟩
 have hE4 := hE3.below b4
 clear hE3 b4 P1
 obtain ⟨p4, hp4, hB4⟩ := hE4.bld
 have hul := Pl.putUint_length64 r.gen (by omega)
 have hzs : (ByteArray.mk (Pl.putUint r.gen).toArray).size = (Pl.putUint r.gen).length := by simp [ByteArray.size]
 have P2 := Lib.hid (writeStringF w1.heap.size p4 [] ⟨(Pl.putUint r.gen).toArray⟩ _ W4 hB4 hE4.lt hp4 (by rw [hzs]; simp; omega))
 go_wp2_with fail
 refine P2.out.mono ?_
 rintro e W5 ⟨rfl, ⟨fp5, h5, s5, _⟩, b5⟩
 have hE5 := hE4.step h5 s5 b5
 clear hE4 h5 s5 b5 P2 hB4
 simp only [List.nil_append] at hE5
 have q1' := (hE5.old.cell (p := ⟨w.heap.size, 1, none⟩) hz1).trans q1
 have hc5 := hE5.put.cell
 obtain ⟨p5, hp5, hB5⟩ := hE5.bld
 have hmany := hm.many
 have P3 := Lib.hid (encPut w1.heap.size p5 (Pl.putUint r.gen) r.files.length fp5 W5 hB5 hE5.lt hp5 (by omega) (by omega))
 unfold putF at hc5
 go_wp2_with fail
 refine P3.out.mono ?_
 rintro e W6 ⟨rfl, ⟨fp6, h6, s6, _⟩, b6⟩
 have hE6 := hE5.step h6 s6 b6
 clear hE5 h6 s6 b6 P3 hB5 q1' hc5
 have q1' := (hE6.old.cell (p := ⟨w.heap.size, 1, none⟩) hz1).trans q1
 go_wp2_with fail
 clear q1'
 have hsize : ∀ j, (Pl.putUint r.gen ++ Pl.putUint r.files.length ++ (r.files.take j).flatMap Pl.fileBytes).length ≤ 100000000 := fun j => Pl.prefix_le hm (by omega) j
 replace hsize := Lib.hid hsize
 refine wp_loop (fun a W => ∃ (j : Nat) (Ds : List Nat) (fp : Nat → Prop), j ≤ r.files.length ∧ Enc w1 w1.heap.size (Pl.putUint r.gen ++ Pl.putUint r.files.length ++ (r.files.take j).flatMap Pl.fileBytes) fp W ∧ Marked Ds W ∧ (∀ D ∈ Ds, w1.heap.size + 1 < D ∧ ¬ fp D) ∧
   ∃ v9 v10 v33 v34 v35 v36 v37 v38 v39 v40 v41 v42 v43 v44 v45 v46 v51 v52 v53 v54 v55 v56 v65 : Value, a = ⟨#[.agg #[.int .u64 (r.gen : Int), .slice ao r.files.length cap], .int .i64 N0, .pointer (some ⟨w.heap.size, 0, none⟩), undef, .string ⟨#[]⟩, .int .i64 0, .pointer (some ⟨w1.heap.size, 0, none⟩), .pointer (some ⟨w1.heap.size + 1, 0, none⟩), undef, v9, v10, undef, undef, undef, undef, .agg #[.int .u64 (r.gen : Int), .slice ao r.files.length cap], .int .i64 N0, .bool true, .bool false, .func (.func 111) #[] #[.pointer (some ⟨w1.heap.size, 0, none⟩)], .pointer (some ⟨w.heap.size, 0, none⟩), .int .u64 (r.gen : Int), .string ⟨(Pl.putUint r.gen).toArray⟩, .tuple #[.int .i64 ((Pl.putUint r.gen).length : Int), .nilIface], .func (.func 111) #[] #[.pointer (some ⟨w1.heap.size, 0, none⟩)], .pointer (some ⟨w.heap.size, 1, none⟩), .slice ao r.files.length cap, .int .i64 (r.files.length : Int), .tuple #[], .pointer (some ⟨w.heap.size, 1, none⟩), .slice ao r.files.length cap, .int .i64 (r.files.length : Int), .int .i64 (j : Int), v33, v34, v35, v36, v37, v38, v39, v40, v41, v42, v43, v44, v45, v46, undef, undef, undef, undef, v51, v52, v53, v54, v55, v56, undef, undef, undef, undef, undef, undef, undef, undef, v65, undef, undef, undef, undef, undef, undef, undef, undef, undef, undef, undef, undef, undef, undef], Ds.map mark⟩) (fun a _ => r.files.length - (intOf (a.tmps.getD 32 undef)).toNat) ?_ ?_
 ·exact ⟨0, [], fp6, Nat.zero_le _, by simpa using hE6, Marked.nil _, (fun _ h => by cases h), _, _, _, _, _, _, _, _, _, _, _, _, _, _, _, _, _, _, _, _, _, _, _, rfl⟩
 rintro a W ⟨j, Ds, fp, hj, hE, hM, hDs, v9, v10, v33, v34, v35, v36, v37, v38, v39, v40, v41, v42, v43, v44, v45, v46, v51, v52, v53, v54, v55, v56, v65, rfl⟩
 by_cases hjl : j < r.files.length
 case neg =>
  obtain rfl : j = r.files.length := by omega
  rw [List.take_of_length_le (Nat.le_refl _)] at hE
  have hrb : Pl.rootBytes r = Pl.putUint r.gen ++ Pl.putUint r.files.length ++ r.files.flatMap Pl.fileBytes := rfl
  have hrl := Pl.prefix_le hm (by omega) r.files.length
  rw [List.take_of_length_le (Nat.le_refl _)] at hrl
  rw [← hrb] at hE hrl
  replace hrb := Lib.hid hrb
  have hen : Hid (Pl.encOf r = if 262144 < (Pl.rootBytes r).length ∨ 3840 < (Pl.frame 1 (Pl.rootBytes r)).length then ([], 5) else (Pl.frame 1 (Pl.rootBytes r), 0)) := Lib.hid rfl
  obtain ⟨pE, hpE, hBE⟩ := hE.bld
  have P1 := Lib.hid (textF w1.heap.size pE _ fp W hBE)
  have hzr : (ByteArray.mk (Pl.rootBytes r).toArray).size = (Pl.rootBytes r).length := by simp [ByteArray.size]
  have hdat : (ByteArray.mk (Pl.rootBytes r).toArray).data.toList = Pl.rootBytes r := by simp
  have PB := Lib.hid (fun W' (h : 262144 < (Pl.rootBytes r).length) => put_bad 1 ⟨(Pl.rootBytes r).toArray⟩ W' (.inr (by rw [hzr]; exact h)))
  have PO := Lib.hid (fun W' (h : (Pl.rootBytes r).length ≤ 262144) => put_ok 1 ⟨(Pl.rootBytes r).toArray⟩ W' (by decide) (by rw [hzr]; exact h))
  rw [hdat] at PO
  clear hdat hzr
  generalize Pl.rootBytes r = RB at *
  obtain ⟨FR, hFR⟩ : ∃ FR, FR = Pl.frame 1 RB := ⟨_, rfl⟩
  rw [← hFR] at hen PO
  replace hFR := Lib.hid hFR
  obtain ⟨EN, hEN⟩ : ∃ EN, Pl.encOf r = EN := ⟨_, rfl⟩
  rw [hEN] at hen
  replace hEN := Lib.hid hEN
  go_wp2_with fail
  refine P1.out.mono ?_
  rintro e Wx ⟨rfl, bx, kx⟩
  have hMx := hM.keep kx (fun D hD => (hDs D hD).2)
  have hbx := hE.old.trans bx
  clear P1
  have fin : ∀ (W' : World), Below Wx.heap.size Wx W' → Marked Ds W' ∧ Below w.heap.size w W' := fun W' hb' => ⟨hMx.below hb', (hbw1.trans (hbx.mono (Nat.le_of_lt hz1))).trans (hb'.mono (Nat.le_trans (Nat.le_of_lt hz1) hbx.size))⟩
  replace fin := Lib.hid fin
  have done' : ∀ (W' : World) (s : List UInt8) (e2 : Int), Below Wx.heap.size Wx W' → EN = (s, e2) → ∀ W2, Keep (fun k => k ∉ Ds) W' W2 → (Ending.returned (.tuple #[.string ⟨s.toArray⟩, .int .i64 e2]) = Ending.returned (.tuple #[.string ⟨EN.1.toArray⟩, .int .i64 EN.2])) ∧ Below w.heap.size w W2 := fun W' s e2 hb' he W2 hk2 => ⟨by rw [he], hk2.below (fin.out W' hb').2 (Nat.le_refl _) (fun k hk hD => by have := (hDs k hD).1; omega)⟩
  replace done' := Lib.hid done'
  by_cases hbig : 262144 < RB.length
  ·have he0 := Lib.hid (show EN = (([] : List UInt8), (5 : Int)) by rw [hen.out, if_pos (.inl hbig)])
   go_wp2_with fail
   refine (PB.out Wx hbig).mono ?_
   rintro e Wy ⟨rfl, by'⟩
   go_wp2_with fail
   refine leaves_marks Ds _ (fin.out Wy by').1 (fun W' hk' => ⟨_, results_tmp2 rfl _ _ _, ?_⟩)
   obtain ⟨d1, d2⟩ := done'.out Wy [] 5 by' he0.out W' hk'
   exact ⟨by rw [hEN.out, ← d1]; rfl, d2⟩
  ·have hok : RB.length ≤ 262144 := by omega
   have hFz : (ByteArray.mk FR.toArray).size = FR.length := by simp [ByteArray.size]
   go_wp2_with fail
   refine (PO.out Wx hok).mono ?_
   rintro e Wy ⟨rfl, by'⟩
   by_cases hroom : 3840 < FR.length
   ·have he0 := Lib.hid (show EN = (([] : List UInt8), (5 : Int)) by rw [hen.out, if_pos (.inr hroom)])
    go_wp2_with fail
    refine leaves_marks Ds _ (fin.out Wy by').1 (fun W' hk' => ⟨_, results_tmp2 rfl _ _ _, ?_⟩)
    obtain ⟨d1, d2⟩ := done'.out Wy [] 5 by' he0.out W' hk'
    exact ⟨by rw [hEN.out, ← d1]; rfl, d2⟩
   ·have he0 := Lib.hid (show EN = (FR, (0 : Int)) by rw [hen.out, if_neg (fun h => h.elim hbig hroom)])
    go_wp2_with fail
    refine leaves_marks Ds _ (fin.out Wy by').1 (fun W' hk' => ⟨_, results_tmp2 rfl _ _ _, ?_⟩)
    obtain ⟨d1, d2⟩ := done'.out Wy FR 0 by' he0.out W' hk'
    exact ⟨by rw [hEN.out, ← d1]; rfl, d2⟩
 have hmem := List.getElem_mem hjl
 obtain ⟨hbl1, hbl2, hsz1, hsz2, hnm⟩ := hm.blocks (by omega) hmem
 have hbwW := hbw1.trans (hE.old.mono (Nat.le_of_lt hz1))
 obtain ⟨ao2, cap2, hao, _, _, hrow⟩ := id hu
 injection hao with hao1 hao2 hao3
 subst hao1 hao3
 obtain ⟨b0, off, rfl, hb0l, hcf⟩ := hrow (by omega)
 obtain ⟨x0, x1, u, x2, hints⟩ := hcf j hjl
 replace x0 := (hbwW.cell (p := ⟨b0, off + j * 3, none⟩) hb0l).trans x0
 replace x1 := (hbwW.cell (p := ⟨b0, off + j * 3 + 1, none⟩) hb0l).trans x1
 replace x2 := (hbwW.cell (p := ⟨b0, off + j * 3 + 2, none⟩) hb0l).trans x2
 obtain ⟨ai, capi, rfl, i1, i2, hib⟩ := hints
 have hsz := Lib.hid (hsize.out j)
 have hszn := Lib.hid (hsize.out (j + 1))
 have htk : Hid ((r.files.take (j + 1)).flatMap Pl.fileBytes = (r.files.take j).flatMap Pl.fileBytes ++ Pl.fileBytes r.files[j]) := Lib.hid (by rw [List.take_succ_eq_append_getElem hjl, List.flatMap_append]; simp)
 have hfb : Pl.fileBytes r.files[j] = Pl.putText r.files[j].name.data.toList ++ Pl.putUint r.files[j].size.toNat ++ Pl.putUint (Pl.runsOf r.files[j].blocks).length ++ (Pl.runsOf r.files[j].blocks).flatMap Pl.runBytes := rfl
 replace hfb := Lib.hid hfb
 generalize r.files[j] = x at *
 generalize (r.files.take j).flatMap Pl.fileBytes = L0 at *
 obtain ⟨nm, sz, bl⟩ := x
 simp only at x0 x1 x2 hbl1 hbl2 hsz1 hsz2 hnm i1 i2 hib hfb
 obtain ⟨szn, rfl⟩ := Int.eq_ofNat_of_zero_le hsz1
 simp only [Int.toNat_natCast] at hfb
 obtain ⟨Wf, hWf⟩ : ∃ Wf, W.alloc (.cells #[.string nm, .int .i64 (szn : Int), .slice ai bl.length capi] 76) = Wf := ⟨_, rfl⟩
 have hbf : Below W.heap.size W Wf := by rw [← hWf]; exact (Below.refl _ _).alloc (Nat.le_refl _) _
 have hFf : Wf.heap[W.heap.size]? = some (.cells #[.string nm, .int .i64 (szn : Int), .slice ai bl.length capi] 76 (0, 0)) := by rw [← hWf]; exact World.alloc_heap_new _ _
 have y0 : Wf.cell? ⟨W.heap.size, 0, none⟩ = some (.string nm) := by simp [World.cell?, hFf]
 have hEf := hE.below hbf
 have hfbn : ¬ fp W.heap.size := fun h => by have := hE.lt _ h; omega
 have hfbl : W.heap.size < Wf.heap.size := (Array.getElem?_eq_some_iff.1 hFf).1
 have hlog : w1.heap.size + 1 < W.heap.size := hE.put.lt
 have P1 := Lib.hid (fun W' => putText_any nm W' (by omega))
 go_wp2_with fail
 clear hWf
 refine (P1.out Wf).mono ?_
 rintro e Wa ⟨rfl, ba⟩
 have hEa := hEf.below ba
 have hFa := (ba.block W.heap.size hfbl).trans hFf
 clear P1 hEf hFf y0 x0 x1 x2
 have hLe := hsz.out
 obtain ⟨pa, hpa, hBa⟩ := hEa.bld
 have htl : (Pl.putText nm.data.toList).length ≤ 50 := by
  have h1 : nm.data.toList.length = nm.size := Pl.size_data nm
  unfold Pl.putText
  rw [List.length_append, h1]
  have := Pl.putUint_length64 nm.size (by omega)
  omega
 have htz : (ByteArray.mk (Pl.putText nm.data.toList).toArray).size = (Pl.putText nm.data.toList).length := by simp [ByteArray.size]
 have P2 := Lib.hid (writeStringF w1.heap.size pa _ ⟨(Pl.putText nm.data.toList).toArray⟩ fp Wa hBa hEa.lt hpa (by rw [htz]; omega))
 go_wp2_with fail
 refine P2.out.mono ?_
 rintro e Wb ⟨rfl, ⟨fpb, hb', sb, _⟩, bb⟩
 have hEb := hEa.step hb' sb bb
 have hFla : W.heap.size < Wa.heap.size := (Array.getElem?_eq_some_iff.1 hFa).1
 have hFb := (sb.keep.block W.heap.size hfbn hFla).trans hFa
 have hfbnb := sb.other hfbn hFla
 have hMb := (hM.below hbf).below ba |>.keep sb.keep (fun D hD => (hDs D hD).2)
 have hDb : ∀ D ∈ Ds, w1.heap.size + 1 < D ∧ ¬ fpb D := fun D hD => ⟨(hDs D hD).1, sb.other (hDs D hD).2 (((hM.below hbf).below ba).lt D hD)⟩
 clear P2 hEa hFa hb' sb bb hBa hM hDs hE ba hbf
 have y1 : Wb.cell? ⟨W.heap.size, 1, none⟩ = some (.int .i64 (szn : Int)) := by simp [World.cell?, hFb]
 have hcb := hEb.put.cell
 unfold putF at hcb
 obtain ⟨pb, hpb, hBb⟩ := hEb.bld
 have P3 := Lib.hid (encPut w1.heap.size pb _ szn fpb Wb hBb hEb.lt hpb (by omega) (by rw [List.length_append]; omega))
 go_wp2_with fail
 refine P3.out.mono ?_
 rintro e Wc ⟨rfl, ⟨fpc, hc', sc, _⟩, bc⟩
 have hEc := hEb.step hc' sc bc
 have hFlb : W.heap.size < Wb.heap.size := (Array.getElem?_eq_some_iff.1 hFb).1
 have hFc := (sc.keep.block W.heap.size hfbnb hFlb).trans hFb
 have hfbnc := sc.other hfbnb hFlb
 have hMc := hMb.keep sc.keep (fun D hD => (hDb D hD).2)
 have hDc : ∀ D ∈ Ds, w1.heap.size + 1 < D ∧ ¬ fpc D := fun D hD => ⟨(hDb D hD).1, sc.other (hDb D hD).2 (hMb.lt D hD)⟩
 clear P3 hEb hFb hc' sc bc hBb hMb hDb y1 hcb
 have hFlc : W.heap.size < Wc.heap.size := (Array.getElem?_eq_some_iff.1 hFc).1
 have y2 : Wc.cell? ⟨W.heap.size, 2, none⟩ = some (.slice ai bl.length capi) := by simp [World.cell?, hFc]
 have hnfn : ¬ fpc Wc.heap.size := fun h => by have := hEc.lt _ h; omega
 go_wp2_with (go_at_call 114; refine (callsIn_wide.1 (runs_in 3 _ _ _ _)).mono ?_; rintro e w' ⟨rfl, rfl⟩)
 obtain ⟨rb, offr, hrbo, hai, hcell⟩ : ∃ rb offr, ((rb < w.heap.size ∧ 0 < bl.length) ∨ (Wc.heap.size + 9 < rb ∧ bl.length = 0)) ∧ (0 < bl.length → ai = some ⟨rb, offr, none⟩) ∧ ∀ i (hi : i < bl.length), w.cell? ⟨rb, offr + i, none⟩ = some (.int .i64 bl[i]) := by
  rcases Nat.eq_zero_or_pos bl.length with h0 | h0
  ·exact ⟨Wc.heap.size + 10, 0, .inr ⟨by omega, h0⟩, fun h => by omega, fun i hi => by omega⟩
  ·obtain ⟨rb, offr, h1, h2, h3⟩ := hib h0
   exact ⟨rb, offr, .inl ⟨h2, h0⟩, fun _ => h1, h3⟩
 have hzc : w1.heap.size + 1 < Wc.heap.size := hEc.put.lt
 have bN := (Boxed.new Wc 3 (.int .i64 0)).alloc (.cells #[.slice ai bl.length capi] 74)
 have bL := Boxed.new (Wc.alloc (.cells #[.int .i64 0] 3)) 74 (.slice ai bl.length capi)
 rw [World.size_alloc] at bL
 have hbd : Below Wc.heap.size Wc ((Wc.alloc (.cells #[.int .i64 0] 3)).alloc (.cells #[.slice ai bl.length capi] 74)) := ((Below.refl _ _).alloc (Nat.le_refl _) _).alloc (by simp) _
 have hzd : ((Wc.alloc (.cells #[.int .i64 0] 3)).alloc (.cells #[.slice ai bl.length capi] 74)).heap.size = Wc.heap.size + 2 := by simp
 generalize ((Wc.alloc (.cells #[.int .i64 0] 3)).alloc (.cells #[.slice ai bl.length capi] 74)) = Wd at bN bL hbd hzd ⊢
 have hEd := hEc.below hbd
 have hbwd : Below w.heap.size w Wd := hbw1.trans (hEd.old.mono (Nat.le_of_lt hz1))
 have hcd := Lib.hid (fun i (hi : i < bl.length) => (hbwd.cell (p := ⟨rb, offr + i, none⟩) (show rb < w.heap.size by rcases hrbo with h | h <;> omega)).trans (hcell i hi))
 have hblz := Lib.hid (fun b hb => hbl2 b hb)
 clear hbl2 y2 hcell
 refine wpIn_wide.1 (wpIn_rangeG (n := 4) (F := Fence.wide) rfl (by omega) (gf := 130) (lb := #[.pointer (some ⟨Wc.heap.size + 1, 0, none⟩)]) rfl trivial (enters_of Tryz.func130 (by kernel_rfl) rfl)
  (runs1_seq 3 (Wc.heap.size + 1) rb offr ai capi bl Wd (by omega) (fun b hb => by have := hblz.out b hb; omega) ⟨by simpa using bL, by simpa using i1, i2, fun h => by simpa using hai h⟩ (by omega) hcd.out) (fun _ => rfl) (by rintro z (h | ⟨h, h2⟩) <;> omega) (by rintro z ⟨h, h2⟩; omega)
  (fun pre fp X => (∀ z, z < Wc.heap.size + 1 → z ≠ rb → fp z) ∧ Boxed X Wc.heap.size 3 (.int .i64 (pre.length : Int)) ∧ Keep (fun z => z < Wc.heap.size ∧ z ≠ rb) Wd X)
  (fun _ _ _ _ => False)
  (fun pre x a' fp X => ((∀ z, z < Wc.heap.size + 1 → z ≠ rb → fp z) ∧ Boxed X Wc.heap.size 3 (.int .i64 (pre.length : Int)) ∧ Keep (fun z => z < Wc.heap.size ∧ z ≠ rb) Wd X) ∧ a' = { tmps := #[.agg #[.int .u64 (r.gen : Int), .slice (some ⟨b0, off, none⟩) r.files.length cap], .int .i64 N0, .pointer (some ⟨w.heap.size, 0, none⟩), undef, .string ⟨#[]⟩, .int .i64 0, .pointer (some ⟨w1.heap.size, 0, none⟩), .pointer (some ⟨w1.heap.size + 1, 0, none⟩), undef, .pointer (some ⟨W.heap.size, 0, none⟩), .pointer (some ⟨Wc.heap.size, 0, none⟩), undef, undef, undef, undef, .agg #[.int .u64 (r.gen : Int), .slice (some ⟨b0, off, none⟩) r.files.length cap], .int .i64 N0, .bool true, .bool false, .func (.func 111) #[] #[.pointer (some ⟨w1.heap.size, 0, none⟩)], .pointer (some ⟨w.heap.size, 0, none⟩), .int .u64 (r.gen : Int), .string ⟨(Pl.putUint r.gen).toArray⟩, .tuple #[.int .i64 ((Pl.putUint r.gen).length : Int), .nilIface], .func (.func 111) #[] #[.pointer (some ⟨w1.heap.size, 0, none⟩)], .pointer (some ⟨w.heap.size, 1, none⟩), .slice (some ⟨b0, off, none⟩) r.files.length cap, .int .i64 (r.files.length : Int), .tuple #[], .pointer (some ⟨w.heap.size, 1, none⟩), .slice (some ⟨b0, off, none⟩) r.files.length cap, .int .i64 (r.files.length : Int), .int .i64 (j : Int), .bool true, .pointer (some ⟨b0, off + j * 3, none⟩), .agg #[.string nm, .int .i64 (szn : Int), .slice ai bl.length capi], .pointer (some ⟨W.heap.size, 0, none⟩), .string nm, .string ⟨(Pl.putText nm.data.toList).toArray⟩, .tuple #[.int .i64 ((Pl.putText nm.data.toList).length : Int), .nilIface], .func (.func 111) #[] #[.pointer (some ⟨w1.heap.size, 0, none⟩)], .pointer (some ⟨W.heap.size, 1, none⟩), .int .i64 (szn : Int), .tuple #[], .pointer (some ⟨W.heap.size, 2, none⟩), .slice ai bl.length capi, .func (.func 130) #[] #[.pointer (some ⟨Wc.heap.size + 1, 0, none⟩)], .int .i64 x.1, .int .i64 (x.2 : Int), undef, undef, v51, v52, v53, v54, v55, v56, undef, undef, undef, undef, undef, undef, undef, undef, v65, undef, undef, undef, undef, undef, undef, undef, undef, undef, undef, undef, undef, undef, undef], defers := [] })
  ?_ ?_ ?_ (fun z => z < Wc.heap.size + 1 ∧ z ≠ rb) ?_ ?_ ?_ ?assign ?body ?done ?stop)
 case assign =>
  intro l' pre x fp X K hI hlt hsp hK2
  unfold encR
  rw [fold2]
  simp only [List.setIfInBounds_toArray, List.set_cons_succ, List.set_cons_zero]
  gi_wp2
  exact hK2 _ fp X (Step.refl hlt) ⟨hI, rfl⟩
 case body =>
  rintro l' pre x a' fp X ⟨⟨hfp, hBX, hkX⟩, rfl⟩ hlt hsp
  have cX := hBX.cell
  have fX := hBX.frozen
  have lX := hBX.lt
  have hpl : pre.length ≤ 16384 := by
   have h1 := hsp.length_le
   have h2 := Pl.runsOf_length bl.length bl (Nat.le_refl _)
   rw [List.length_append] at h1
   omega
  gi_wp2
  have e1 : (pre.length : Int) + 1 = (((pre ++ [x]).length : Nat) : Int) := by simp
  rw [e1]
  refine ⟨fp, ⟨hfp, hBX.set _, (hkX.setCell _ _ _ (fun h _ => by omega))⟩, ⟨(Keep.refl _ X).setCell _ _ _ (fun h _ => h (hfp _ (by omega) (by omega))), fun _ h => .inl h, fun z hz => ?_⟩⟩
  have := hlt z hz
  simpa [World.setCell] using this
 case done =>
  rintro D ys fp X hD hnD hnew hlt hkp rfl ⟨hfp, hBX, hkX⟩ hKD
  have hkX2 : Keep (fun z => z < Wc.heap.size) Wd X := (hkX.both hkp).mono (fun z hz _ => by
   by_cases h : z = rb
   ·right
    refine ⟨?_, h⟩
    omega
   ·exact .inl ⟨hz, h⟩)
  have hEx := hEd.keep hkX2 (fun k hk => hEc.lt k hk) hzc (Nat.le_refl _)
  have hFx := (hkX2.block W.heap.size hFlc (by omega)).trans ((hbd.block W.heap.size hFlc).trans hFc)
  have hMx := ((hMc.below hbd).keep hkX2 (fun z hz => hMc.lt z hz)).cons hKD (fun h => by have := hMc.lt D h; omega)
  clear hkp hkX hfp hlt hnew hbd hEd hcd bN bL
  have hrl := Pl.runsOf_length bl.length bl (Nat.le_refl _)
  have hcx := hEx.put.cell
  unfold putF at hcx
  have cNx := hBX.cell
  obtain ⟨px, hpx, hBx⟩ := hEx.bld
  have hul2 := Pl.putUint_length64 szn (by omega)
  have P4 := Lib.hid (encPut w1.heap.size px _ (Pl.runsOf bl).length fpc X hBx hEx.lt hpx (by omega) (by rw [List.length_append, List.length_append]; omega))
  go_wp2_with fail
  refine P4.out.mono ?_
  rintro e We ⟨rfl, ⟨fpe, he', se, _⟩, be⟩
  have hEe := hEx.step he' se be
  have hXl : W.heap.size < X.heap.size := (Array.getElem?_eq_some_iff.1 hFx).1
  have hFe := (se.keep.block W.heap.size hfbnc hXl).trans hFx
  have hfbne := se.other hfbnc hXl
  have hMe := hMx.keep se.keep (fun D' hD' => by
   rcases List.mem_cons.1 hD' with rfl | h
   ·intro h; have := hEc.lt _ h; omega
   ·exact (hDc D' h).2)
  have hDe : ∀ D' ∈ (D :: Ds), w1.heap.size + 1 < D' ∧ ¬ fpe D' := fun D' hD' => by
   have hlx := hMx.lt D' hD'
   rcases List.mem_cons.1 hD' with rfl | h
   ·exact ⟨by omega, se.other (fun h => by have := hEc.lt _ h; omega) hlx⟩
   ·exact ⟨(hDc D' h).1, se.other (hDc D' h).2 hlx⟩
  have hXe := se.keep.size
  clear P4 hEx hFx he' se be hBx hMx hcx cNx
  have y3 : We.cell? ⟨W.heap.size, 2, none⟩ = some (.slice ai bl.length capi) := by simp [World.cell?, hFe]
  go_wp2_with (go_at_call 114; refine (callsIn_wide.1 (runs_in 3 _ _ _ _)).mono ?_; rintro e w' ⟨rfl, rfl⟩)
  obtain ⟨rb2, offr2, hrbo2, hai2, hcell2⟩ : ∃ rb offr, ((rb < w.heap.size ∧ 0 < bl.length) ∨ (We.heap.size + 9 < rb ∧ bl.length = 0)) ∧ (0 < bl.length → ai = some ⟨rb, offr, none⟩) ∧ ∀ i (hi : i < bl.length), w.cell? ⟨rb, offr + i, none⟩ = some (.int .i64 bl[i]) := by
   rcases Nat.eq_zero_or_pos bl.length with h0 | h0
   ·exact ⟨We.heap.size + 10, 0, .inr ⟨by omega, h0⟩, fun h => by omega, fun i hi => by omega⟩
   ·obtain ⟨rb, offr, h1, h2, h3⟩ := hib h0
    exact ⟨rb, offr, .inl ⟨h2, h0⟩, fun _ => h1, h3⟩
  have hze : w1.heap.size + 1 < We.heap.size := hEe.put.lt
  have bL2 := Boxed.new We 74 (.slice ai bl.length capi)
  have hbg : Below We.heap.size We (We.alloc (.cells #[.slice ai bl.length capi] 74)) := (Below.refl _ _).alloc (Nat.le_refl _) _
  have hzg : (We.alloc (.cells #[.slice ai bl.length capi] 74)).heap.size = We.heap.size + 1 := by simp
  generalize We.alloc (.cells #[.slice ai bl.length capi] 74) = Wg at bL2 hbg hzg ⊢
  have hEg := hEe.below hbg
  have hbwg : Below w.heap.size w Wg := hbw1.trans (hEg.old.mono (Nat.le_of_lt hz1))
  have hcg := Lib.hid (fun i (hi : i < bl.length) => (hbwg.cell (p := ⟨rb2, offr2 + i, none⟩) (show rb2 < w.heap.size by rcases hrbo2 with h | h <;> omega)).trans (hcell2 i hi))
  clear y3 hcell2 hib
  have hFel : W.heap.size < We.heap.size := (Array.getElem?_eq_some_iff.1 hFe).1
  have hput := hEg.put
  unfold putF at hput
  have hnce := hEe.nc
  have hloe := hEe.lo
  have hlte := hEe.lt
  have hLn := hszn.out
  rw [htk.out, hfb.out] at hLn
  generalize hLB : Pl.putUint r.gen ++ Pl.putUint r.files.length ++ L0 ++ Pl.putText nm.data.toList ++ Pl.putUint szn ++ Pl.putUint (Pl.runsOf bl).length = LB at *
  have hLn2 : LB.length + ((Pl.runsOf bl).flatMap Pl.runBytes).length ≤ 100000000 := by
   rw [← hLB]
   simp only [List.length_append] at hLn ⊢
   omega
  have hLB' := Lib.hid hLB
  clear hLB hLn
  refine wpIn_wide.1 (wpIn_rangeG (n := 4) (F := Fence.wide) rfl (by omega) (gf := 130) (lb := #[.pointer (some ⟨We.heap.size, 0, none⟩)]) rfl trivial (enters_of Tryz.func130 (by kernel_rfl) rfl)
   (runs1_seq 3 We.heap.size rb2 offr2 ai capi bl Wg (by omega) (fun b hb => by have := hblz.out b hb; omega) ⟨by simpa using bL2, by simpa using i1, i2, fun h => by simpa using hai2 h⟩ (by omega) hcg.out) (fun _ => rfl) (by rintro z (h | ⟨h, h2⟩) <;> omega) (by rintro z ⟨h, h2⟩; omega)
   (fun pre fp X => (∀ z, z < We.heap.size → z ≠ rb2 → fp z) ∧ Run2 w1.heap.size We.heap.size (LB ++ pre.flatMap Pl.runBytes) fpe fp X ∧ Keep (fun z => (¬ fpe z ∧ z < We.heap.size) ∧ z ≠ rb2) Wg X)
   (fun _ _ _ _ => False)
   (fun pre x a' fp X => ((∀ z, z < We.heap.size → z ≠ rb2 → fp z) ∧ Run2 w1.heap.size We.heap.size (LB ++ pre.flatMap Pl.runBytes) fpe fp X ∧ Keep (fun z => (¬ fpe z ∧ z < We.heap.size) ∧ z ≠ rb2) Wg X) ∧ a' = { tmps := #[.agg #[.int .u64 (r.gen : Int), .slice (some ⟨b0, off, none⟩) r.files.length cap], .int .i64 N0, .pointer (some ⟨w.heap.size, 0, none⟩), undef, .string ⟨#[]⟩, .int .i64 0, .pointer (some ⟨w1.heap.size, 0, none⟩), .pointer (some ⟨w1.heap.size + 1, 0, none⟩), undef, .pointer (some ⟨W.heap.size, 0, none⟩), .pointer (some ⟨Wc.heap.size, 0, none⟩), .int .i64 x.1, .int .i64 (x.2 : Int), undef, undef, .agg #[.int .u64 (r.gen : Int), .slice (some ⟨b0, off, none⟩) r.files.length cap], .int .i64 N0, .bool true, .bool false, .func (.func 111) #[] #[.pointer (some ⟨w1.heap.size, 0, none⟩)], .pointer (some ⟨w.heap.size, 0, none⟩), .int .u64 (r.gen : Int), .string ⟨(Pl.putUint r.gen).toArray⟩, .tuple #[.int .i64 ((Pl.putUint r.gen).length : Int), .nilIface], .func (.func 111) #[] #[.pointer (some ⟨w1.heap.size, 0, none⟩)], .pointer (some ⟨w.heap.size, 1, none⟩), .slice (some ⟨b0, off, none⟩) r.files.length cap, .int .i64 (r.files.length : Int), .tuple #[], .pointer (some ⟨w.heap.size, 1, none⟩), .slice (some ⟨b0, off, none⟩) r.files.length cap, .int .i64 (r.files.length : Int), .int .i64 (j : Int), .bool true, .pointer (some ⟨b0, off + j * 3, none⟩), .agg #[.string nm, .int .i64 (szn : Int), .slice ai bl.length capi], .pointer (some ⟨W.heap.size, 0, none⟩), .string nm, .string ⟨(Pl.putText nm.data.toList).toArray⟩, .tuple #[.int .i64 ((Pl.putText nm.data.toList).length : Int), .nilIface], .func (.func 111) #[] #[.pointer (some ⟨w1.heap.size, 0, none⟩)], .pointer (some ⟨W.heap.size, 1, none⟩), .int .i64 (szn : Int), .tuple #[], .pointer (some ⟨W.heap.size, 2, none⟩), .slice ai bl.length capi, .func (.func 130) #[] #[.pointer (some ⟨Wc.heap.size + 1, 0, none⟩)], undef, undef, undef, undef, .func (.func 111) #[] #[.pointer (some ⟨w1.heap.size, 0, none⟩)], .int .i64 ((Pl.runsOf bl).length : Int), .tuple #[], .pointer (some ⟨W.heap.size, 2, none⟩), .slice ai bl.length capi, .func (.func 130) #[] #[.pointer (some ⟨We.heap.size, 0, none⟩)], .int .i64 x.1, .int .i64 (x.2 : Int), undef, undef, undef, undef, undef, undef, v65, undef, undef, undef, undef, undef, undef, undef, undef, undef, undef, undef, undef, undef, undef], defers := [] })
   ?_ ?_ ?_ (fun z => z < We.heap.size ∧ z ≠ rb2) ?_ ?_ ?_ ?assign2 ?body2 ?done2 ?stop2)
  case assign2 =>
   intro l' pre x fp X K hI hlt hsp hK2
   unfold encR
   rw [fold2]
   simp only [List.setIfInBounds_toArray, List.set_cons_succ, List.set_cons_zero]
   gi_wp2
   exact hK2 _ fp X (Step.refl hlt) ⟨hI, rfl⟩
  case body2 =>
   rintro l' pre ⟨xa, xk⟩ a' fp X ⟨⟨hfp, hBX, hkX⟩, rfl⟩ hlt hsp
   have hmx : (xa, xk) ∈ Pl.runsOf bl := by
    obtain ⟨c, hc⟩ := hsp
    rw [← hc]; simp
   obtain ⟨hxa, hxk⟩ := Pl.mem_runs bl.length bl _ (Nat.le_refl _) hmx
   have hxa2 := hblz.out _ hxa
   simp only at hxa2 hxk
   obtain ⟨an, rfl⟩ := Int.eq_ofNat_of_zero_le (by omega : 0 ≤ xa)
   have hfl := flat_le (f := Pl.runBytes) (a := pre) ((List.prefix_append pre _).trans hsp)
   have hpb := hkX.boxed ⟨⟨hnce, hze⟩, by rcases hrbo2 with h | h <;> omega⟩ hput
   have cpb := hpb.cell
   have hzX := hkX.size
   have P5 := Lib.hid (run2_put hBX hlt (by omega) an (by omega) (by rw [List.length_append]; omega))
   clear hmx hxa hBX
   gi_wp2_with fail
   refine ⟨trivial, (CallsIn.inRound l' (callsIn_wide.2 P5.out)).mono ?_⟩
   clear P5
   rintro e X2 ⟨rfl, fp2, hB2, s2, m2, k2⟩
   have cpb2 := k2.cell (b := w1.heap.size + 1) ⟨hnce, hze⟩ cpb
   have hzX2 := s2.keep.size
   have hul5 := Pl.putUint_length64 an (by omega)
   have P6 := Lib.hid (run2_put hB2 s2.lt (by omega) xk (by omega) (by rw [List.length_append, List.length_append]; omega))
   clear hB2 cpb
   gi_wp2_with fail
   refine ⟨trivial, (CallsIn.inRound l' (callsIn_wide.2 P6.out)).mono ?_⟩
   clear P6
   rintro e X3 ⟨rfl, fp3, hB3, s3, m3, k3⟩
   gi_wp2
   have el : LB ++ (pre ++ [((an : Int), xk)]).flatMap Pl.runBytes = LB ++ pre.flatMap Pl.runBytes ++ Pl.putUint an ++ Pl.putUint xk := by
    rw [List.flatMap_append]
    simp [Pl.runBytes]
   refine ⟨fp3, ⟨fun z h1 h2 => m3 z (m2 z (hfp z h1 h2)), by rw [el]; exact hB3, (hkX.trans k2 (fun z h _ => h.1)).trans k3 (fun z h _ => h.1)⟩, s2.trans s3⟩
  case done2 =>
   rintro D2 ys fp X hD2 hnD2 hnew hlt hkp rfl ⟨hfp, hBX, hkX⟩ hKD2
   have hkX2 : Keep (fun z => ¬ fpe z ∧ z < We.heap.size) Wg X := (hkX.both hkp).mono (fun z hz _ => by
    by_cases h : z = rb2
    ·right
     refine ⟨?_, h⟩
     have := hz.2
     omega
    ·exact .inl ⟨hz, h⟩)
   obtain ⟨pX, fpX, hpX, hBf, hsub, hfe, hltX⟩ := hBX
   have hkX3 : Keep (fun z => ¬ fpe z ∧ z < We.heap.size) We X := (Keep.of_below (fp := fun z => ¬ fpe z ∧ z < We.heap.size) hbg (fun z h _ => h.2)).trans hkX2 (fun z h _ => h)
   have hLf : LB ++ (Pl.runsOf bl).flatMap Pl.runBytes = Pl.putUint r.gen ++ Pl.putUint r.files.length ++ (r.files.take (j + 1)).flatMap Pl.fileBytes := by
    rw [htk.out, hfb.out, ← hLB'.out]
    simp only [List.append_assoc]
   have hEX : Enc w1 w1.heap.size (Pl.putUint r.gen ++ Pl.putUint r.files.length ++ (r.files.take (j + 1)).flatMap Pl.fileBytes) fpX X := by
    refine ⟨⟨pX, hpX, by rw [← hLf]; exact hBf⟩, hltX, fun k hk => (hfe k hk).elim (hloe k) (fun h => by omega), fun h => (hfe _ h).elim hnce (fun h => by omega), hkX3.boxed ⟨hnce, hze⟩ hEe.put, hkX3.below hEe.old (Nat.le_refl _) (fun k hk => ⟨fun h => by have := hloe k h; omega, by omega⟩)⟩
   have hMX := (hMe.keep hkX3 (fun z hz => ⟨(hDe z hz).2, hMe.lt z hz⟩)).cons hKD2 (fun h => by have := hMe.lt D2 h; omega)
   have hDX : ∀ D' ∈ (D2 :: D :: Ds), w1.heap.size + 1 < D' ∧ ¬ fpX D' := fun D' hD' => by
    rcases List.mem_cons.1 hD' with rfl | h
    ·exact ⟨by omega, fun h => hnD2 (hsub _ h)⟩
    ·exact ⟨(hDe D' h).1, fun hx => (hfe D' hx).elim (hDe D' h).2 (fun h2 => by have := hMe.lt D' h; omega)⟩
   clear hkp hkX hkX2 hBf hput hBX hkX3 hEg hEe
   go_wp2
   refine ⟨⟨j + 1, D2 :: D :: Ds, fpX, by omega, hEX, hMX, hDX, _, _, _, _, _, _, _, _, _, _, _, _, _, _, _, _, _, _, _, _, _, _, _, rfl⟩, ?_⟩
   simp [intOf]; omega
  case stop2 =>
   rintro D c pre fp X _ _ _ _ _ _ h
   exact h.elim
  ·rintro pre f X X' ⟨hf, hb, hk⟩ hkp
   exact ⟨hf, hb.keep hkp, hk.trans hkp (fun z hz _ => hf z hz.1.2 hz.2)⟩
  ·rintro c pre f X X' h
   exact h.elim
  ·rintro pre x a' _ f X X' ⟨⟨hf, hb, hk⟩, he⟩ hkp
   exact ⟨⟨hf, hb.keep hkp, hk.trans hkp (fun z hz _ => hf z hz.1.2 hz.2)⟩, he⟩
  ·rintro z ⟨hz1', hz2'⟩ (h | ⟨h, h2⟩) <;> omega
  ·rintro z ⟨hz1', hz2'⟩; omega
  ·exact ⟨fun z h1 h2 => ⟨h1, h2⟩, by simpa using hEg.run2 (fun k hk => ⟨hlte k hk, by have := hloe k hk; have := hlte k hk; omega⟩), Keep.refl _ _⟩
 case stop =>
  rintro D c pre fp X _ _ _ _ _ _ h
  exact h.elim
 ·rintro pre f X X' ⟨hf, hb, hk⟩ hkp
  exact ⟨hf, hkp.boxed (hf _ (by omega) (by omega)) hb, hk.trans hkp (fun z hz _ => hf z (by omega) hz.2)⟩
 ·rintro c pre f X X' h
  exact h.elim
 ·rintro pre x a' _ f X X' ⟨⟨hf, hb, hk⟩, he⟩ hkp
  exact ⟨⟨hf, hkp.boxed (hf _ (by omega) (by omega)) hb, hk.trans hkp (fun z hz _ => hf z (by omega) hz.2)⟩, he⟩
 ·rintro z ⟨hz1', hz2'⟩ (h | ⟨h, h2⟩) <;> omega
 ·rintro z ⟨hz1', hz2'⟩; omega
 ·exact ⟨fun z h1 h2 => ⟨h1, h2⟩, by simpa using bN, Keep.refl _ _⟩
end
end Go.Proofs.YtogblcdefbnbeaaGreat
