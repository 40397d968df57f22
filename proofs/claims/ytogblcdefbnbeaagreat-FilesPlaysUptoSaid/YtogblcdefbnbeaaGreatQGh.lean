
/- Slices of truths, and of acts, in memory. Condition: none. -/
import Derived.Test.YtogblcdefbnbeaaGreatQGu
import Derived.Test.YtogblcdefbnbeaaGreatQGg
import Derived.Deep.DeepCutAuto
import Derived.WalkMore
set_option maxRecDepth 100000
namespace Go.Proofs.YtogblcdefbnbeaaGreat
section
open Go.RowKit
def BoolsAt (W : World) (v : Value) (l : List Bool) : Prop :=
 ∃ (ao : Option Addr) (cap : Nat), v = .slice ao l.length cap ∧ l.length ≤ cap ∧ cap ≤ 9223372036854775807 ∧ (0 < l.length → ∃ b off, ao = some ⟨b, off, none⟩ ∧ b < W.heap.size ∧ ∀ i (hi : i < l.length), W.cell? ⟨b, off + i, none⟩ = some (.bool l[i]))
theorem BoolsAt.kept {W W' : World} {v : Value} {l : List Bool} (h : BoolsAt W v l) (hs : W.heap.size ≤ W'.heap.size) (hb : 0 < l.length → ∀ b, b < W.heap.size → v.ownBlock = some b → W'.heap[b]? = W.heap[b]?) : BoolsAt W' v l := by
 obtain ⟨ao, cap, rfl, h1, h2, h⟩ := h
 refine ⟨ao, cap, rfl, h1, h2, fun h0 => ?_⟩
 obtain ⟨b, off, rfl, hlt, hc⟩ := h h0
 exact ⟨b, off, rfl, Nat.lt_of_lt_of_le hlt hs, fun i hi => (World.cell?_of_block (a := ⟨b, off + i, none⟩) (hb h0 b hlt rfl)).trans (hc i hi)⟩
theorem BoolsAt.below {W W' : World} {v : Value} {l : List Bool} (h : BoolsAt W v l) (hb : Below W.heap.size W W') : BoolsAt W' v l := h.kept hb.size (fun _ b hl _ => hb.block b hl)
structure AcT where
 kind : Int
 at' : Int
 num : Int
 keep : List Bool
def ActIn (W : World) (b o : Nat) (x : AcT) : Prop :=
 W.cell? ⟨b, o, none⟩ = some (.int .i64 x.kind) ∧ W.cell? ⟨b, o + 1, none⟩ = some (.int .i64 x.at') ∧ W.cell? ⟨b, o + 2, none⟩ = some (.int .i64 x.num) ∧ ∃ u, W.cell? ⟨b, o + 3, none⟩ = some u ∧ BoolsAt W u x.keep
theorem ActIn.below {W W' : World} {b o : Nat} {x : AcT} (h : ActIn W b o x) (hlt : b < W.heap.size) (hb : Below W.heap.size W W') : ActIn W' b o x := by
 obtain ⟨h0, h1, h2, u, h3, h4⟩ := h
 have e := hb.block b hlt
 exact ⟨(World.cell?_of_block (a := ⟨b, o, none⟩) e).trans h0, (World.cell?_of_block (a := ⟨b, o + 1, none⟩) e).trans h1, (World.cell?_of_block (a := ⟨b, o + 2, none⟩) e).trans h2, u, (World.cell?_of_block (a := ⟨b, o + 3, none⟩) e).trans h3, h4.below hb⟩
def ActsAt (W : World) (v : Value) (l : List AcT) : Prop :=
 ∃ (ao : Option Addr) (cap : Nat), v = .slice ao l.length cap ∧ l.length ≤ cap ∧ cap ≤ 9223372036854775807 ∧ (0 < l.length → ∃ b off, ao = some ⟨b, off, none⟩ ∧ b < W.heap.size ∧ ∀ i (hi : i < l.length), ActIn W b (off + i * 4) l[i])
theorem ActsAt.below {W W' : World} {v : Value} {l : List AcT} (h : ActsAt W v l) (hb : Below W.heap.size W W') : ActsAt W' v l := by
 obtain ⟨ao, cap, rfl, h1, h2, h⟩ := h
 refine ⟨ao, cap, rfl, h1, h2, fun h0 => ?_⟩
 obtain ⟨b, off, rfl, hlt, hc⟩ := h h0
 exact ⟨b, off, rfl, Nat.lt_of_lt_of_le hlt hb.size, fun i hi => (hc i hi).below hlt hb⟩
end
section
open Go.RowKit
theorem val_i64 {a b : Int} (h : a = b) : Value.int .i64 a = .int .i64 b := by rw [h]
def clamp (n : Int) : Nat := (min (max n 0) 256).toNat
theorem clamp_le (n : Int) : clamp n ≤ 256 := by unfold clamp; omega
variable {B d gs cs m : Nat} {vp : Value} {s : Pl.Dv} {fp : Nat → Prop} {W W' : World}
set_option maxHeartbeats 1000000 in
theorem crash_gen (tn : Nat) (hcle : tn ≤ 256) (h : DevAt B d s fp W) (u : Value) (kl : List Bool) (hu : BoolsAt W u kl) (hub : 0 < kl.length → ∀ b, u.ownBlock = some b → ¬ fp b) (torn by' : Int) (hcl : (by' < 0 ∧ (tn : Int) = 0) ∨ (0 ≤ by' ∧ by' ≤ 256 ∧ (tn : Int) = by') ∨ (256 < by' ∧ (tn : Int) = 256)) (hw : s.wait.length ≤ 9223372036854775807) (he : s.epoch < 9223372036854775807) :
  Calls Tryz.prog 10 #[.pointer (some ⟨d, 0, none⟩), u, .int .i64 torn, .int .i64 by'] W fun e w' => (∃ v, e = .returned v) ∧ DevAt B d (s.crash kl torn tn) fp w' ∧ Step fp fp W w' := by
 obtain ⟨gs, cs, vp, m, h⟩ := h
 have c1 := h.blk.cell 1
 simp at c1
 obtain ⟨ao, cap, hvp, _⟩ := h.wait_at
 subst hvp
 have hk1 := h.wf.wait
 obtain ⟨au, capu, rfl, hu1, hu2, hcu⟩ := hu
 go_enter Tryz.func10, Tryz.ntmps10
 go_step3
 go_upto_region 1 with (fail)
 go_cut [3] from 10 (fun v wx => v = .int .i64 (tn : Int) ∧ W = wx)
 case first =>
  go_wp2
  all_goals go_meet
  all_goals
   refine ⟨?_, rfl⟩
   refine val_i64 ?_
   rcases hcl with ⟨_, h2⟩ | ⟨_, _, h2⟩ | ⟨_, h2⟩
   all_goals first | exact h2.symm | (exfalso; omega) | omega
 case rest =>
  obtain ⟨rfl, rfl⟩ := hcut
  clear hcl
  go_wp2
  go_step3
  go_wp2
  go_loopw [8, 9, 20] (fun _ _ i wr => ∃ k : Nat, k ≤ s.wait.length ∧ i = .int .i64 k ∧ DevO B d gs cs (.slice ao s.wait.length cap) m (s.ws (Pl.crashN kl torn tn s.wait k s.safe)) fp wr ∧ Step fp fp W wr) (fun _ _ i _ => s.wait.length - (intOf i).toNat)
  case atStart => exact ⟨0, by omega, rfl, h, Step.refl h.lt⟩
  case round =>
   obtain ⟨k, hk, rfl, hD, st⟩ := hrel
   clear h
   by_cases h3 : k < s.wait.length
   ·obtain ⟨ao', cap', e1, hat⟩ := hD.wait_at
    obtain ⟨g, e2, hat2⟩ := hat (by show 0 < s.wait.length; omega)
    cases e1
    subst e2
    have hx : wr.cell? ⟨g, k * 2, none⟩ = some (.int .i64 (s.wait[k].1 : Int)) ∧ wr.cell? ⟨g, k * 2 + 1, none⟩ = some (.string s.wait[k].2) := hat2 k h3
    have hpw := hk1 s.wait[k] (List.getElem_mem h3)
    have hll := Pl.crashN_length kl torn tn s.wait k s.safe
    have hnx := Pl.crashN_succ (keep := kl) (torn := torn) (n := tn) h3 s.safe
    have hzs : ∀ y ∈ Pl.crashN kl torn tn s.wait k s.safe, y.size = 256 := hD.wf.size
    clear hat hat2 hk1
    generalize s.wait[k] = p at hx hpw hnx
    obtain ⟨i, x⟩ := p
    obtain ⟨x0, x1⟩ := hx
    obtain ⟨hi, hxs⟩ := hpw
    replace hi : i < (Pl.crashN kl torn tn s.wait k s.safe).length := by rw [hll]; exact hi
    generalize Pl.crashN kl torn tn s.wait k s.safe = l at *
    have hli : (l[i]'hi).size = 256 := hzs _ (List.getElem_mem hi)
    have hD1 := hD.alloc (.cells #[.int .i64 (i : Int), .string x] 59)
    have c0 : World.cell? (wr.alloc (.cells #[.int .i64 (i : Int), .string x] 59)) ⟨d, 0, none⟩ = some (.slice (some ⟨gs, 0, none⟩) l.length cs) := hD1.blk.cell 0
    have cS : World.cell? (wr.alloc (.cells #[.int .i64 (i : Int), .string x] 59)) ⟨gs, i, none⟩ = some (.string (l[i]'hi)) := hD1.safe_at i hi
    have zS := hD1.safe.frozenAt i
    have stA := Step.lay hD.lt (.cells #[.int .i64 (i : Int), .string x] 59)
    have hnx' := Lib.hid hnx
    clear hll hzs hnx
    by_cases h4 : (k : Int) = torn
    ·have h4' : ((k : Int) == torn) = true := by simpa using h4
     obtain ⟨hD2, st2⟩ := hD1.setSafe (i := i) (x := Pl.tear x (l[i]'hi) tn) (Pl.tear_size hxs hli hcle)
     have hD3 := hD2.drewN 1
     have st3 := (stA.trans st2).drewW 1
     have hN := hnx'.out
     rw [Pl.crash1_torn h4, show l.getD i .empty = l[i]'hi from by simp [List.getD_eq_getElem?_getD, hi]] at hN
     have hte : Pl.tear x (l[i]'hi) tn = x.extract 0 tn ++ (l[i]'hi).extract tn 256 := by unfold Pl.tear; rw [hli]
     rw [hte] at hD3 st3 hN
     replace hN := Lib.hid hN
     clear hD hD1 hD2 st2 h4 hnx' stA hte
     go_wp2
     go_region
     go_wp2
     go_roundw
     case rel => exact ⟨k + 1, by omega, by go_num, by rw [hN.out]; exact hD3, st.trans st3⟩
     case measure => simp [intOf]; omega
    ·have h4' : ((k : Int) == torn) = false := by simpa using h4
     by_cases h5 : k < kl.length
     ·obtain ⟨bu, ou, rfl, hbu, hcu2⟩ := hcu (by omega)
      have hck : World.cell? (wr.alloc (.cells #[.int .i64 (i : Int), .string x] 59)) ⟨bu, ou + k, none⟩ = some (.bool kl[k]) := ((st.keep.alloc _).cell (hub (by omega) bu rfl) (hcu2 k h5))
      have hgd : kl.getD k false = kl[k] := by simp [List.getD_eq_getElem?_getD, h5]
      clear hcu hcu2
      cases hkk : kl[k]
      ·rw [hkk] at hck hgd
       have hN := hnx'.out
       rw [Pl.crash1_lose h4 hgd] at hN
       replace hN := Lib.hid hN
       clear hnx' h4 hgd hkk hD
       go_wp2
       go_roundw
       case rel => exact ⟨k + 1, by omega, by go_num, by rw [hN.out]; exact hD1, st.trans stA⟩
       case measure => simp [intOf]; omega
      ·rw [hkk] at hck hgd
       have hN := hnx'.out
       rw [Pl.crash1_keep h4 hgd] at hN
       replace hN := Lib.hid hN
       obtain ⟨hD2, st2⟩ := hD1.setSafe (i := i) hxs
       have hD3 := hD2.drewN 1
       have st3 := (stA.trans st2).drewW 1
       clear hnx' h4 hgd hkk hD hD1 hD2 st2 stA
       go_wp2
       go_region
       go_wp2
       go_roundw
       case rel => exact ⟨k + 1, by omega, by go_num, by rw [hN.out]; exact hD3, st.trans st3⟩
       case measure => simp [intOf]; omega
     ·have hgd : kl.getD k false = false := by rw [List.getD_eq_getElem?_getD, List.getElem?_eq_none (by omega)]; rfl
      have hN := hnx'.out
      rw [Pl.crash1_lose h4 hgd] at hN
      replace hN := Lib.hid hN
      have h6 : kl.length ≤ k := by omega
      clear hnx' h4 hgd hD hcu h5
      go_wp2
      go_roundw
      case rel => exact ⟨k + 1, by omega, by go_num, by rw [hN.out]; exact hD1, st.trans stA⟩
      case measure => simp [intOf]; omega
   ·obtain rfl : k = s.wait.length := by omega
    have hP := Lib.hid (forget_any (DevAt.of hD))
    clear hD
    go_wp2_with (go_at_call 19; ((with_reducible refine hP.out.mono ?_); rintro e w2 ⟨⟨_, rfl⟩, ⟨gs2, cs2, vp2, m2, hF⟩, sF⟩; have z3 := hF.blk.frozen 3; have y3 := hF.blk.cell 3; have b1 := hF.blk.set 3 (.bool false); simp at b1 y3; have z4 := b1.frozen 4; have y4 := b1.cell 4; have b2 := b1.set 4 (.int .i64 0); simp at b2 y4; have z6 := b2.frozen 6; have y6 := b2.cell 6; have b3 := b2.set 6 (.int .i64 ((s.epoch : Int) + 1)); simp at b3 y6; replace y6 : World.cell? ((w2.setCell ⟨d, 3, none⟩ (.bool false)).setCell ⟨d, 4, none⟩ (.int .i64 0)) ⟨d, 6, none⟩ = some (.int .i64 (s.epoch : Int)) := y6))
    have kp := (keep_d w2 d 3 (.bool false)).trans ((keep_d _ d 4 (.int .i64 0)).trans (keep_d _ d 6 (.int .i64 ((s.epoch : Int) + 1))) (fun _ h _ => h)) (fun _ h _ => h)
    have e5 : ((s.epoch + 1 : Nat) : Int) = (s.epoch : Int) + 1 := by omega
    obtain ⟨hE, sE⟩ := hF.turn (s' := s.crash kl torn tn) kp rfl rfl (by simp only [Pl.Dv.crash]; rw [e5]; exact b3)
    rw [Exit.noGoto_normal]
    go_end0
    exact ⟨⟨_, rfl⟩, ⟨_, _, _, _, hE⟩, (st.trans sF).trans sE⟩
theorem crash_any (h : DevAt B d s fp W) (u : Value) (kl : List Bool) (hu : BoolsAt W u kl) (hub : 0 < kl.length → ∀ b, u.ownBlock = some b → ¬ fp b) (torn by' : Int) (hw : s.wait.length ≤ 9223372036854775807) (he : s.epoch < 9223372036854775807) :
  Calls Tryz.prog 10 #[.pointer (some ⟨d, 0, none⟩), u, .int .i64 torn, .int .i64 by'] W fun e w' => (∃ v, e = .returned v) ∧ DevAt B d (s.crash kl torn (clamp by')) fp w' ∧ Step fp fp W w' :=
 crash_gen (clamp by') (clamp_le by') h u kl hu hub torn by' (by unfold clamp; omega) hw he
end
section
open Go.RowKit
def icells (l : List Int) : List Value := l.map (Value.int .i64)
theorem icells_set (l : List Int) (i : Nat) (x : Int) : (icells l).set i (.int .i64 x) = icells (l.set i x) := by simp [icells, List.map_set]
theorem info_int : (Tryz.prog.info? 3).map (fun i => (i.zero, i.size, i.bytes)) = some (some (.int .i64 0), 1, 8) := by kernel_rfl
theorem make_ints (n : Nat) (hn : n ≤ 35184372088832) (w : World) :
  (Instr.makeSlice 74 (.int .i64 (n : Int)) (.int .i64 (n : Int))).run Tryz.prog w = .ok (.slice (some ⟨w.heap.size, 0, none⟩) n n) (w.alloc (.cells (icells (List.replicate n 0)).toArray 3)) := by
 obtain ⟨i, hi, hz0, hz1, hz2⟩ := info_parts info_int
 have h := run_make (P := Tryz.prog) w 74 3 i (.int .i64 0) Tryz.underlying74 hi hz0 .i64 .i64 (n : Int) (n : Int) (by omega) (by omega) (by rw [hz2]; omega) (by omega)
 have e : madeCells (Value.int .i64 0).cells (n * i.size) = (icells (List.replicate n 0)).toArray := by
  rw [hz1]
  apply Array.ext
  ·rw [size_madeCells]; simp [icells]
  ·intro j h1 h2
   have hj : j < n := by simpa [icells] using h2
   simp [madeCells, icells, Value.cells, Nat.mod_one]
 simp only [Int.toNat_natCast] at h
 rw [e] at h
 exact h
def pend (l : List Int) (k : Nat) : List Int := l.take k ++ List.replicate (l.length - k) 0
theorem pend_zero (l : List Int) : pend l 0 = List.replicate l.length 0 := by simp [pend]
theorem pend_all (l : List Int) : pend l l.length = l := by simp [pend]
theorem pend_length (l : List Int) {k : Nat} (h : k ≤ l.length) : (pend l k).length = l.length := by simp [pend]; omega
theorem pend_set {l : List Int} {k : Nat} (h : k < l.length) : (pend l k).set k l[k] = pend l (k + 1) := by
 obtain ⟨r, hr⟩ : ∃ r, l.length - k = r + 1 := ⟨l.length - k - 1, by omega⟩
 have hr' : l.length - (k + 1) = r := by omega
 unfold pend
 rw [hr, hr', List.set_append, if_neg (by rw [List.length_take]; omega), List.take_succ_eq_append_getElem h, List.append_assoc]
 rw [List.length_take, Nat.min_eq_left (Nat.le_of_lt h), Nat.sub_self]
 simp [List.replicate_succ]
variable {B d : Nat} {s : Pl.Dv} {fp : Nat → Prop} {W : World}
theorem blk_icells {w : World} {b : Nat} {l : List Int} (h : Blk w b (icells l).toArray 3) {i : Nat} (hi : i < l.length) : w.cell? ⟨b, i, none⟩ = some (.int .i64 l[i]) := by
 rw [h.cell]; simp [icells, hi]
theorem blk_iset {w : World} {b : Nat} {l : List Int} (h : Blk w b (icells l).toArray 3) (i : Nat) (x : Int) : Blk (w.setCell ⟨b, i, none⟩ (.int .i64 x)) b (icells (l.set i x)).toArray 3 := by
 have := h.set i (.int .i64 x)
 rwa [List.setIfInBounds_toArray, icells_set] at this
theorem pending_any (h : DevAt B d s fp W) (hw : s.wait.length ≤ 35184372088832) : Calls Tryz.prog 44 #[.pointer (some ⟨d, 0, none⟩)] W fun e w' =>
  e = .returned (.slice (some ⟨W.heap.size, 0, none⟩) s.wait.length s.wait.length) ∧ Blk w' W.heap.size (icells (s.wait.map fun p => (p.1 : Int))).toArray 3 ∧ Below W.heap.size W w' := by
 obtain ⟨gs, cs, vp, m, h⟩ := h
 have c1 := h.blk.cell 1
 simp at c1
 obtain ⟨ao, cap, hvp, hat⟩ := h.wait_at
 subst hvp
 have hmk := make_ints s.wait.length hw
 obtain ⟨L, hL⟩ : ∃ L, L = s.wait.map fun p => (p.1 : Int) := ⟨_, rfl⟩
 have hlen : L.length = s.wait.length := by rw [hL]; simp
 have hget : ∀ k (hk : k < s.wait.length) (hl : k < L.length), L[k]'hl = (s.wait[k].1 : Int) := fun k hk hl => by subst hL; simp
 rw [← hL]
 obtain ⟨W0, hW0⟩ : ∃ W0, W0 = W.alloc (.cells (icells (List.replicate s.wait.length 0)).toArray 3) := ⟨_, rfl⟩
 have hB0 : Blk W0 W.heap.size (icells (pend L 0)).toArray 3 := by rw [pend_zero, hlen, hW0]; exact Blk.new W _ _
 have hb0 : Below W.heap.size W W0 := by rw [hW0]; exact (Below.refl _ _).alloc (Nat.le_refl _) _
 have c1' : W0.cell? ⟨d, 1, none⟩ = some (.slice ao s.wait.length cap) := (hb0.cell h.blk.lt).trans c1
 rw [hW0] at c1'
 have hlt := h.lt
 clear hL
 go_enter Tryz.func44, Tryz.ntmps44
 go_wp2
 rw [← hW0]
 rw [← hW0] at c1'
 clear hW0 hmk
 go_loopw [4, 5, 19] (fun _ _ i wr => ∃ k : Nat, k ≤ s.wait.length ∧ i = .int .i64 k ∧ Blk wr W.heap.size (icells (pend L k)).toArray 3 ∧ Below W.heap.size W wr) (fun _ _ i _ => s.wait.length - (intOf i).toNat)
 case atStart => exact ⟨0, by omega, rfl, hB0, hb0⟩
 case round =>
  obtain ⟨k, hk, rfl, hB, hb⟩ := hrel
  clear hB0 hb0
  by_cases h3 : k < s.wait.length
  ·obtain ⟨g, rfl, hat2⟩ := hat (by omega)
   obtain ⟨x0, x1⟩ := hat2 k h3
   have hgW : g < W.heap.size := hlt g (h.fvp g rfl)
   replace x0 := (hb.cell (p := ⟨g, k * 2, none⟩) hgW).trans x0
   replace x1 := (hb.cell (p := ⟨g, k * 2 + 1, none⟩) hgW).trans x1
   have hgk := hget k h3 (by omega)
   clear hat hat2 hget c1'
   generalize s.wait[k] = p at x0 x1 hgk
   obtain ⟨i, x⟩ := p
   simp only at x0 x1 hgk
   have hBa := hB.alloc (.cells #[.int .i64 (i : Int), .string x] 59)
   have hba := hb.alloc hb.size (.cells #[.int .i64 (i : Int), .string x] 59)
   have cc := blk_icells hBa (i := k) (by rw [pend_length L (by omega)]; omega)
   have zz := hBa.frozen k
   have hBs := blk_iset hBa k (i : Int)
   rw [← hgk, pend_set (by omega), hgk] at hBs
   have hbs : Below W.heap.size W ((wr.alloc (.cells #[.int .i64 (i : Int), .string x] 59)).setCell ⟨W.heap.size, k, none⟩ (.int .i64 (i : Int))) := hba.setCell (Nat.le_refl _) _
   clear hB hb hBa hba hgk
   go_wp2
   go_roundw
   case rel => exact ⟨k + 1, by omega, by go_num, hBs, hbs⟩
   case measure => simp [intOf]; omega
  ·obtain rfl : k = s.wait.length := by omega
   rw [← hlen, pend_all] at hB
   go_wp2
   go_ret
   exact ⟨rfl, hB, hb⟩
end
end Go.Proofs.YtogblcdefbnbeaaGreat
