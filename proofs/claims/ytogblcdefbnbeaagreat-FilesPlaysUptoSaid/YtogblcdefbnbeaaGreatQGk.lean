
/- Walks: slices.Clone of ints. Condition: few enough. -/
import Derived.Test.YtogblcdefbnbeaaGreatQGz
import Derived.Test.YtogblcdefbnbeaaGreatQGw
import Derived.Test.YtogblcdefbnbeaaGreatQGj
import Derived.Test.YtogblcdefbnbeaaGreatQPj
import Derived.Test.YtogblcdefbnbeaaGreatQGi
import Derived.Test.YtogblcdefbnbeaaGreatQWBld
set_option maxRecDepth 100000
namespace Go.Proofs.YtogblcdefbnbeaaGreat
section
open Go.RowKit Go.Shelf
theorem icells4_one (l : List Int) : ∀ u ∈ icells4 l, u.oneCell' = true := by simp [icells4, Value.oneCell']
theorem icells4_append (l r : List Int) : icells4 (l ++ r) = icells4 l ++ icells4 r := by simp [icells4]
theorem wpList_appI {ops : Array Oper} {rest : List Oper} {o : Oper} {a : Act} {Q : Exit → Act → World → Prop} (hgd : o.guard = none) (s x : Operand)
  (ho : o.op = .call { callee := .builtin .append, args := #[s, x], argTypes := #[74, 74] })
  (B : Nat) (v u : Value) (xs ys : List Int) (w : World) (hr : IOwn w B v xs) (hB : B ≤ w.heap.size) (hs : a.eval s = v) (ad : Addr) (cap : Nat) (hu : u = .slice (some ad) ys.length cap) (hi : IntsAt w u ys) (hx : a.eval x = u) (hlen : (xs.length + ys.length) * 8 ≤ 140737488355328)
  (h : ∀ v' w', IOwn w' B v' (xs ++ ys) → w.grownBy w' v.ownBlock → wpList Tryz.prog ops Q rest (a.put o.dst v') w') : wpList Tryz.prog ops Q (o :: rest) a w := by
 obtain ⟨i, hi', hz0, hz1, hz2⟩ := info_parts info_int4
 refine wpList_append_own w hgd s x 74 ho B 3 i (.int .i64 0) 1 8 Tryz.underlying74 hi' hz0 hz1 hz2 rfl (by decide) v xs.length (icells4 xs) hs hr ad ys.length cap (icells4 ys) (hx.trans hu) (by rw [icells4_length, Nat.mul_one]) ?_ (icells4_one ys) (by unfold maxLen; omega) hlen hB ?_
 ·intro j z hj
  have hlt : j < ys.length := by have := (List.getElem?_eq_some_iff.1 hj).1; rwa [icells4_length] at this
  obtain ⟨ao, c, e, _, _, hc⟩ := hi
  rw [hu] at e
  injection e with e _ _
  subst e
  obtain ⟨b, off, e, _, hxx⟩ := hc (by omega)
  injection e with e
  subst e
  rw [Addr.add_lit]
  refine (hxx j hlt).trans ?_
  rw [← hj]
  simp [icells4, hlt]
 ·intro v' w' ho' hg _
  refine h v' w' ?_ hg
  unfold IOwn
  rw [List.length_append, icells4_append]
  exact ho'
set_option maxHeartbeats 1000000 in
theorem cloneI_any (l : List Int) (u : Value) (w : World) (hu : IntsAt w u l) (hlen : l.length ≤ 1073741824) :
  Calls Tryz.prog 69 #[u] w fun e w' => ∃ v, e = .returned v ∧ IOwn w' w.heap.size v l ∧ Below w.heap.size w w' := by
 have hu0 := hu
 obtain ⟨ao, cap, rfl, h1, h2, hc⟩ := hu
 have q27 : ∀ (w : World) (a : Option Addr) (n c n' c' : Nat), (binOp .eql 74 (.slice a n c) (.slice none n' c')).run Tryz.prog w = .ok (.bool a.isNone) w := fun w a n c n' c' => Lib.run_eql_slice_nil w _ _ a n c n' c' Tryz.underlying74
 cases ao with
 | none =>
  obtain rfl : l = [] := by
   rcases Nat.eq_zero_or_pos l.length with h | h
   ·exact List.eq_nil_of_length_eq_zero h
   ·obtain ⟨_, _, e, _⟩ := hc h
    cases e
  go_enter Tryz.func69, Tryz.ntmps69
  go_wp2
  go_ret
  exact ⟨_, rfl, World.ownsRow_nil _ _ _ _, Below.refl _ _⟩
 | some ad =>
  have hown0 : (w.alloc (.cells #[] 3)).ownsRow w.heap.size 3 1 (.slice (some ⟨w.heap.size, 0, none⟩) 0 0) 0 [] := World.ownsRow_made w #[] 0 (Nat.le_refl _) (Nat.zero_le _) rfl
  have hb1 : Below w.heap.size w (w.alloc (.cells #[] 3)) := (Below.refl _ _).alloc (Nat.le_refl _) _
  have hu1 := hu0.below hb1
  have hlk' := Lib.hid (show (([] : List Int).length + l.length) * 8 ≤ 140737488355328 by simp; omega)
  have hB : w.heap.size ≤ (w.alloc (.cells #[] 3)).heap.size := hb1.size
  have hA := Lib.hid (fun (w3 : World) (v3 : Value) (h1 : IOwn w3 w.heap.size v3 ([] ++ l)) (h2 : (w.alloc (.cells #[] 3)).grownBy w3 (Value.slice (some ⟨w.heap.size, 0, none⟩) 0 0).ownBlock) => (⟨h1, hb1.grown h2 (by simp) (fun k e => by simp [Value.ownBlock] at e; omega)⟩ : IOwn w3 w.heap.size v3 l ∧ Below w.heap.size w w3))
  clear hc hu0
  go_enter Tryz.func69, Tryz.ntmps69
  go_wp2_with (at_builtin; go_must (refine wpList_appI (by rfl) _ _ (by rfl) w.heap.size (.slice (some ⟨w.heap.size, 0, none⟩) 0 0) _ [] l _ hown0 hB (by rfl) ad cap rfl hu1 (by rfl) hlk'.out ?_; intro v3 w3 hown3 hgr3; have hF := Lib.hid (hA.out w3 v3 hown3 hgr3)))
  go_ret
  exact ⟨_, rfl, hF.out.1, hF.out.2⟩
end
section
open Go.RowKit Go.Shelf
namespace Pl
def bytesL (s : Dv) (bl : List Int) : List UInt8 := bl.flatMap fun b => (s.read b.toNat).data.toList
def bytesOf (s : Dv) (y : HF) (fr tt : Nat) : ByteArray := (⟨(bytesL s ((y.blocks.take tt).drop fr)).toArray⟩ : ByteArray).extract 0 (min (bytesL s ((y.blocks.take tt).drop fr)).length (y.old - fr * 256))
theorem bytesL_snoc (s : Dv) (l : List Int) (b : Int) : bytesL s (l ++ [b]) = bytesL s l ++ (s.read b.toNat).data.toList := by simp [bytesL]
theorem bytesL_length {s : Dv} (h : s.WF) : ∀ l : List Int, (∀ q ∈ l, 0 ≤ q ∧ q < (s.safe.length : Int)) → (bytesL s l).length = l.length * 256
 | [], _ => rfl
 | b :: l, hb => by
  have h1 := hb b (by simp)
  have h2 : (s.read b.toNat).data.toList.length = 256 := by have := h.read (i := b.toNat) (by omega); simpa using this
  have h3 := bytesL_length h l (fun q hq => hb q (by simp [hq]))
  unfold bytesL at *
  rw [List.flatMap_cons, List.length_append, h2, h3, List.length_cons]
  omega
end Pl
variable {B Bd f d m : Nat} {vf : Value} {x : Pl.Fs} {s : Pl.Dv} {rp fp fpd : Nat → Prop} {W W' : World}
set_option maxHeartbeats 1000000 in
theorem bytes_any (ho : FsO B f d m vf rp x W) (hd : DevAt Bd d s fpd W) (hup : s.down = false) (y : Pl.HF) (u : Value) (hu : IntsAt W u y.blocks) (fr tt : Nat) (h1 : fr ≤ tt) (h2 : tt ≤ y.blocks.length) (h3 : fr * 256 ≤ y.old) (h4 : y.old ≤ 4611686018427387904)
  (hbl : y.blocks.length ≤ 16384) (hN : s.safe.length ≤ 16384) (hbk : ∀ q ∈ y.blocks, 0 ≤ q ∧ q < (s.safe.length : Int)) :
  Calls Tryz.prog 61 #[.pointer (some ⟨f, 0, none⟩), .agg #[u, .int .i64 (y.old : Int), .string y.added], .int .i64 (fr : Int), .int .i64 (tt : Int)] W fun e w' => e = .returned (.string (Pl.bytesOf s y fr tt)) ∧ Below W.heap.size W w' := by
 obtain ⟨E, hE⟩ : ∃ E, E = Pl.bytesOf s y fr tt := ⟨_, rfl⟩
 rw [← hE]
 replace hE := Lib.hid hE
 obtain ⟨ao, cap, rfl, c1, c2, hc⟩ := hu
 obtain ⟨y1, y2, y3⟩ := y
 simp only at c1 c2 hc h2 h3 h4 hbl hbk ⊢
 obtain ⟨W1, hW1⟩ : ∃ W1, W1 = W.alloc (.cells #[.slice ao y1.length cap, .int .i64 (y2 : Int), .string y3] 104) := ⟨_, rfl⟩
 have hb1 : Below W.heap.size W W1 := by rw [hW1]; exact (Below.refl _ _).alloc (Nat.le_refl _) _
 have hX : Blk W1 W.heap.size #[.slice ao y1.length cap, .int .i64 (y2 : Int), .string y3] 104 := by rw [hW1]; exact Blk.new _ _ _
 have hz1 : W1.heap.size = W.heap.size + 1 := by rw [hW1]; simp
 obtain ⟨W2, hW2⟩ : ∃ W2, W2 = W1.alloc (.cells #[.pointer none, .slice none 0 0] 89) := ⟨_, rfl⟩
 have hb2 : Below W1.heap.size W1 W2 := by rw [hW2]; exact (Below.refl _ _).alloc (Nat.le_refl _) _
 have hB2 : BldF W1.heap.size (.pointer none) [] (fun k => W1.heap.size ≤ k ∧ k < W2.heap.size) W2 := by rw [hW2]; exact BldF.new W1 _ ⟨Nat.le_refl _, by simp⟩
 rw [hz1] at hb2 hB2
 have x0 : W2.cell? ⟨W.heap.size, 0, none⟩ = some (.slice ao y1.length cap) := (hb2.cell (p := ⟨W.heap.size, 0, none⟩) (Nat.lt_succ_self _)).trans (by simp [hX.cell])
 have hg1 : (0 : Int) ≤ (fr : Int) := by omega
 have hg2 : (fr : Int) ≤ (tt : Int) := by omega
 have hg3 : (tt : Int) ≤ (cap : Int) := by omega
 by_cases hft : fr = tt
 case pos =>
  subst hft
  have hE2 : E = .empty := by
   rw [hE.out]
   unfold Pl.bytesOf
   rw [show (y1.take fr).drop fr = [] from List.drop_eq_nil_of_le (by rw [List.length_take]; omega)]
   rfl
  replace hE2 := Lib.hid hE2
  have PT := Lib.hid (textF (W.heap.size + 1) (.pointer none) [] _ W2 hB2)
  have x1 : W2.cell? ⟨W.heap.size, 1, none⟩ = some (.int .i64 (y2 : Int)) := (hb2.cell (p := ⟨W.heap.size, 1, none⟩) (Nat.lt_succ_self _)).trans (by simp [hX.cell])
  have h33 : (fr : Int) * 256 ≤ (y2 : Int) := by omega
  have h34 : (y2 : Int) - (fr : Int) * 256 = ((y2 - fr * 256 : Nat) : Int) := by omega
  clear hc hX hB2 hbk
  have hz2 := hb2.size
  rcases Decidable.em (cap = fr) with rfl | hcf
  all_goals
   go_enter Tryz.func61, Tryz.ntmps61
   go_wp2_with fail
   rw [← hW1, ← hW2]
   clear hW1 hW2
   go_loopw [21] (fun i W' => i = .int .i64 0 ∧ W' = W2) (fun _ _ => 0)
   case atStart => exact ⟨rfl, rfl⟩
   case round =>
    obtain ⟨rfl, rfl⟩ := hrel
    go_wp2_with fail
    refine PT.out.mono ?_
    rintro e w6 ⟨rfl, b6, -⟩
    have x1s := (b6.cell (p := ⟨W.heap.size, 1, none⟩) (Nat.lt_succ_self _)).trans x1
    have hb6 : Below W.heap.size W w6 := hb1.trans ((hb2.trans b6).mono (Nat.le_succ _))
    clear PT x0 x1 hb1 hb2 b6
    go_wp2
    go_ret
    exact ⟨by rw [hE2.out]; simp; exact .inr rfl, hb6⟩
 case neg =>
  have hcf : ¬ cap = fr := by omega
  obtain ⟨br, off, rfl, hbr, hxx⟩ := hc (by omega)
  go_enter Tryz.func61, Tryz.ntmps61
  go_wp2_with fail
  rw [← hW1, ← hW2]
  have hE0 : E = E := rfl
  clear hW1 hW2 hc hE0
  have hyb : ∀ i (hi : i < y1.length), W2.cell? ⟨br, off + i, none⟩ = some (.int .i64 y1[i]) := fun i hi => ((hb1.trans (hb2.mono (by omega))).cell (p := ⟨br, off + i, none⟩) hbr).trans (hxx i hi)
  obtain ⟨dl, hdl⟩ : ∃ dl, dl = (y1.take tt).drop fr := ⟨_, rfl⟩
  have hdn : dl.length = tt - fr := by rw [hdl, List.length_drop, List.length_take]; omega
  have hda : ∀ k (hk : k < dl.length), dl[k] = y1[fr + k]'(by omega) := fun k hk => by simp [hdl]
  have hz2 := hb2.size
  have hlt2 : ∀ q, ((W.heap.size + 1) ≤ q ∧ q < W2.heap.size) → q < W2.heap.size := fun _ h => h.2
  go_loopw [21] (fun i W' => ∃ (k : Nat) (p : Value) (fpb : Nat → Prop), k ≤ tt - fr ∧ i = .int .i64 (k : Int) ∧ Hd (W.heap.size + 1) p ∧ BldF (W.heap.size + 1) p (Pl.bytesL s (dl.take k)) fpb W' ∧ (∀ q, fpb q → q < W'.heap.size) ∧ (∀ q, fpb q → (W.heap.size + 1) ≤ q) ∧ Below (W.heap.size + 1) W1 W') (fun i _ => tt - fr - (intOf i).toNat)
  case atStart => exact ⟨0, _, _, Nat.zero_le _, rfl, .inl rfl, hB2, hlt2, fun _ h => h.1, hb2⟩
  clear hB2 hlt2
  case round =>
   obtain ⟨k, p, fpb, hk, rfl, hp, hBr, hltr, hlor, hbr1⟩ := hrel
   have hdr : DevAt Bd d s fpd wr := (hd.beyond hb1).beyond (by rw [hz1]; exact hbr1)
   have hor := (ho.beyond hb1).beyond (by rw [hz1]; exact hbr1)
   obtain ⟨c0, _⟩ := hor.cells
   have x0r := (hbr1.cell (p := ⟨W.heap.size, 0, none⟩) (Nat.lt_succ_self _)).trans (show W1.cell? ⟨W.heap.size, 0, none⟩ = some (.slice (some ⟨br, off, none⟩) y1.length cap) by simp [hX.cell])
   have x1r := (hbr1.cell (p := ⟨W.heap.size, 1, none⟩) (Nat.lt_succ_self _)).trans (show W1.cell? ⟨W.heap.size, 1, none⟩ = some (.int .i64 (y2 : Int)) by simp [hX.cell])
   by_cases hkl : k < tt - fr
   case pos =>
    have hq : fr + k < y1.length := by omega
    have hcy0 := (hb1.cell (p := ⟨br, off + (fr + k), none⟩) hbr).trans (hxx (fr + k) hq)
    have hcy := (hbr1.cell (p := ⟨br, off + (fr + k), none⟩) (by show br < W.heap.size + 1; omega)).trans hcy0
    rw [← Nat.add_assoc] at hcy
    have hbq := hbk y1[fr + k] (List.getElem_mem hq)
    have hsn := Lib.hid (show dl.take (k + 1) = dl.take k ++ [y1[fr + k]] by rw [List.take_succ_eq_append_getElem (by omega), hda k (by omega)])
    have hLn : (Pl.bytesL s (dl.take k)).length = k * 256 := by
     rw [Pl.bytesL_length hdr.wf _ (fun q hq => hbk q (by rw [hdl] at hq; exact List.mem_of_mem_take (List.mem_of_mem_drop (List.mem_of_mem_take hq)))), List.length_take]
     omega
    clear hcy0 hxx hyb hda
    generalize y1[fr + k] = yk at *
    obtain ⟨bn, rfl⟩ := Int.eq_ofNat_of_zero_le hbq.1
    have hbn : bn < s.safe.length := by omega
    have PR := Lib.hid (read_ok bn hdr hup hbn (by omega))
    have hrs := hdr.wf.read hbn
    have PW := Lib.hid (writeStringF (W.heap.size + 1) p (Pl.bytesL s (dl.take k)) (s.read bn) fpb wr hBr hltr hp (by rw [hLn, hrs]; omega))
    have hsn2 := Lib.hid (show Pl.bytesL s (dl.take (k + 1)) = Pl.bytesL s (dl.take k) ++ (s.read bn).data.toList by rw [hsn.out, Pl.bytesL_snoc]; rfl)
    clear hsn hLn hbk hdr hor hX hb1 hBr hp hltr
    have hlo5 := Lib.hid hlor
    clear hlor
    go_wp2_with (first
     | (go_at_call 15; refine PR.out.mono ?_; rintro e w' ⟨rfl, rfl⟩)
     | (go_at_call 50; refine PW.out.mono ?_; rintro e w5 ⟨rfl, ⟨fp5, hB5, st5, hmo5⟩, hb5⟩))
    go_roundw
    case rel => exact ⟨k + 1, _, fp5, by omega, by go_num, .inr rfl, by rw [hsn2.out]; exact hB5, st5.lt, fun q hq => by
     rcases st5.new q hq with h | h
     ·exact hlo5.out q h
     ·have := hbr1.size; omega, hbr1.trans hb5⟩
    case measure => simp [intOf]; omega
   case neg =>
    obtain rfl : k = tt - fr := by omega
    have PT := Lib.hid (textF (W.heap.size + 1) p (Pl.bytesL s (dl.take (tt - fr))) fpb wr hBr)
    rw [List.take_of_length_le (by omega)] at PT
    have hE2 : E = (⟨(Pl.bytesL s dl).toArray⟩ : ByteArray).extract 0 (min (Pl.bytesL s dl).length (y2 - fr * 256)) := by rw [hE.out, hdl]; rfl
    generalize Pl.bytesL s dl = LL at *
    clear hdr hor hBr hbk hda hxx hyb hdl hdn
    go_wp2_with fail
    refine PT.out.mono ?_
    rintro e w6 ⟨rfl, b6, -⟩
    have x1s := (b6.cell (p := ⟨W.heap.size, 1, none⟩) (Nat.lt_succ_self _)).trans x1r
    have hb6 : Below W.heap.size W w6 := hb1.trans ((hbr1.trans b6).mono (Nat.le_succ _))
    have hss : (⟨LL.toArray⟩ : ByteArray).size = LL.length := rfl
    rw [← hss] at hE2
    generalize (⟨LL.toArray⟩ : ByteArray) = S at *
    clear PT x0 x0r x1r hX hb1 hb2 hbr1 b6 hss
    have h33 : (fr : Int) * 256 ≤ (y2 : Int) := by omega
    have h34 : (y2 : Int) - (fr : Int) * 256 = ((y2 - fr * 256 : Nat) : Int) := by omega
    have hmm : (min (S.size : Int) ((y2 - fr * 256 : Nat) : Int)).toNat = min S.size (y2 - fr * 256) := by omega
    replace hE2 := Lib.hid hE2
    replace hmm := Lib.hid hmm
    go_wp2
    go_ret
    exact ⟨by rw [hE2.out, ← hmm.out]; rfl, hb6⟩
end
namespace Pl
def wrStep (a : Dv × Int) (p : Nat × ByteArray) : Dv × Int := if a.2 = 0 then a.1.wrE p.1 p.2 else a
def wrAll (s : Dv) (l : List (Nat × ByteArray)) : Dv × Int := l.foldl wrStep (s, 0)
theorem wrAll_succ {s : Dv} {l : List (Nat × ByteArray)} {k : Nat} (h : k < l.length) : wrAll s (l.take (k + 1)) = wrStep (wrAll s (l.take k)) l[k] := by
 unfold wrAll
 rw [List.take_succ_eq_append_getElem h, List.foldl_append]
 rfl
theorem wrStep_stay {a : Dv × Int} (h : a.2 ≠ 0) : ∀ l : List (Nat × ByteArray), l.foldl wrStep a = a
 | [] => rfl
 | p :: l => by
  rw [List.foldl_cons, show wrStep a p = a from if_neg h]
  exact wrStep_stay h l
theorem wrAll_stop {s : Dv} {l : List (Nat × ByteArray)} {k : Nat} (h : (wrAll s (l.take k)).2 ≠ 0) : wrAll s l = wrAll s (l.take k) := by
 have e : wrAll s l = (l.drop k).foldl wrStep (wrAll s (l.take k)) := by
  unfold wrAll
  rw [← List.foldl_append, List.take_append_drop]
 rw [e, wrStep_stay h]
theorem wrStep_ok {n k : Nat} {a : Dv × Int} (h : Ok n k a.1) (p : Nat × ByteArray) : Ok n (k + 1) (wrStep a p).1 := by
 unfold wrStep
 split
 ·exact h.wrE _ _
 ·exact h.mono (Nat.le_succ k)
theorem wrAll_ok {n k : Nat} {s : Dv} (h : Ok n k s) : ∀ l : List (Nat × ByteArray), Ok n (k + l.length) (wrAll s l).1 := by
 refine snoc_ind (P := fun l => Ok n (k + l.length) (wrAll s l).1) h ?_
 intro l p ih
 have e : wrAll s (l ++ [p]) = wrStep (wrAll s l) p := by unfold wrAll; rw [List.foldl_append]; rfl
 rw [e, List.length_append, List.length_singleton, ← Nat.add_assoc]
 exact wrStep_ok ih p
theorem wrAll_epoch (s : Dv) : ∀ l : List (Nat × ByteArray), (wrAll s l).1.epoch = s.epoch := by
 refine snoc_ind (P := fun l => (wrAll s l).1.epoch = s.epoch) rfl ?_
 intro l p ih
 have e : wrAll s (l ++ [p]) = wrStep (wrAll s l) p := by unfold wrAll; rw [List.foldl_append]; rfl
 rw [e]
 unfold wrStep
 split
 ·rw [Dv.wrE_epoch, ih]
 ·exact ih
def slotOf (g : Nat) : Nat := g % 2 * 16
def placesK (g : Nat) (ps : List ByteArray) : List (Nat × ByteArray) := ps.mapIdx fun i p => (slotOf g + (i + 1), p)
theorem placesK_length (g : Nat) (ps : List ByteArray) : (placesK g ps).length = ps.length := by simp [placesK]
noncomputable def encB (s : Dv) (r : RootP) : ByteArray := ⟨(encRt (min (s.safe.length : Int) 16384) r).1.toArray⟩
noncomputable def toWrite (s : Dv) (l : List (Nat × ByteArray)) (r : RootP) : List (Nat × ByteArray) := l ++ placesK r.gen (piecesOf (encB s r))
def wrEnd (g : Nat) (a : Dv × Int) : Dv × Int :=
 if a.2 ≠ 0 then a else if a.1.syE.2 ≠ 0 then a.1.syE else if (a.1.syE.1.wrE (slotOf g) (headB g)).2 ≠ 0 then a.1.syE.1.wrE (slotOf g) (headB g) else (a.1.syE.1.wrE (slotOf g) (headB g)).1.syE
noncomputable def wrRoot (s : Dv) (l : List (Nat × ByteArray)) (r : RootP) : Dv × Int :=
 if (encRt (min (s.safe.length : Int) 16384) r).2 ≠ 0 then (s, 5) else wrEnd r.gen (wrAll s (toWrite s l r))
noncomputable def Fs.writeE (x : Fs) (s : Dv) (l : List (Nat × ByteArray)) (r : RootP) : Fs := if (wrRoot s l r).2 = 0 then { x with safe := r } else x
end Pl
end Go.Proofs.YtogblcdefbnbeaaGreat
