
/- The document's put: the plain side; Head. Condition: none. -/
import Derived.Test.YtogblcdefbnbeaaGreatQWRf5
import Derived.Test.YtogblcdefbnbeaaGreatQPh
import Derived.Test.YtogblcdefbnbeaaGreatQGk
import Derived.Test.YtogblcdefbnbeaaGreatQPi
import Derived.Test.YtogblcdefbnbeaaGreatQPj
import Derived.Deep.RegionHeld3
import Derived.Outline
set_option maxRecDepth 100000
namespace Go.Proofs.YtogblcdefbnbeaaGreat
section
open Go.RowKit
namespace Pl
theorem Dv.write_wrE {s : Dv} {i : Nat} {x : ByteArray} (hi : i < s.safe.length) (hx : x.size = 256) : s.write (i : Int) x = s.wrE i x := by
 unfold Dv.write Dv.wrE
 split
 ·rfl
 ·rw [if_pos ⟨⟨by omega, by omega⟩, hx⟩, Int.toNat_natCast]
theorem Fine.wrE {n k : Nat} {s : Dv} (h : Fine n k s) (i : Nat) (x : ByteArray) : Fine n (k + 1) (s.wrE i x).1 := by
 unfold Dv.wrE
 split
 ·exact h.mono (Nat.le_succ k)
 ·exact ⟨h.len, by show (s.wait ++ [(i, x)]).length ≤ k + 1; have := h.wait; simp; omega, by show s.acts + 1 ≤ k + 1; have := h.acts; omega, by show s.epoch ≤ k + 1; have := h.epoch; omega, by show s.armed - 1 ≤ 9223372036854775807; have := h.armed; omega⟩
theorem Fine.syE {n k : Nat} {s : Dv} (h : Fine n k s) : Fine n (k + 1) s.syE.1 := h.sync
theorem wrStep_fine {n k : Nat} {a : Dv × Int} (h : Fine n k a.1) (p : Nat × ByteArray) : Fine n (k + 1) (wrStep a p).1 := by
 unfold wrStep
 split
 ·exact h.wrE _ _
 ·exact h.mono (Nat.le_succ k)
theorem wrAll_fine {n k : Nat} {s : Dv} (h : Fine n k s) : ∀ l : List (Nat × ByteArray), Fine n (k + l.length) (wrAll s l).1 := by
 refine snoc_ind (P := fun l => Fine n (k + l.length) (wrAll s l).1) h ?_
 intro l p ih
 have e : wrAll s (l ++ [p]) = wrStep (wrAll s l) p := by unfold wrAll; rw [List.foldl_append]; rfl
 rw [e, List.length_append, List.length_singleton, ← Nat.add_assoc]
 exact wrStep_fine ih p
def placesN (g : Nat) (S : ByteArray) (j : Nat) : List (Nat × ByteArray) := (List.range j).map fun i => (slotOf g + (i + 1), pieceAt S i)
theorem placesN_length (g : Nat) (S : ByteArray) (j : Nat) : (placesN g S j).length = j := by simp [placesN]
theorem placesN_succ (g : Nat) (S : ByteArray) (j : Nat) : placesN g S (j + 1) = placesN g S j ++ [(slotOf g + (j + 1), pieceAt S j)] := by simp [placesN, List.range_succ]
theorem placesN_all (g : Nat) (S : ByteArray) : placesN g S (pieceN S.size) = placesK g (piecesOf S) := by
 unfold placesN placesK piecesOf
 refine List.ext_getElem (by simp) (fun i h1 h2 => ?_)
 simp
theorem cut_piece {S T : ByteArray} {j n : Nat} (hT : T = S.extract (256 * j) S.size) (hn : n = min T.size 256) : T.extract 0 n ++ zeros (256 - n) = pieceAt S j ∧ T.extract n T.size = S.extract (256 * (j + 1)) S.size := by
 have hz : T.size = S.size - 256 * j := by rw [hT, ByteArray.size_extract]; omega
 have e1 : T.extract 0 n = S.extract (256 * j) (256 * j + 256) := by
  rw [hT]
  apply ByteArray.ext
  have hd : S.data.size = S.size := rfl
  simp only [ByteArray.data_extract, Array.extract_extract, Nat.add_zero]
  by_cases h : 256 * j + 256 ≤ S.size
  ·congr 1; omega
  ·rw [show min (256 * j + n) S.size = S.data.size by omega, ← Array.extract_of_size_lt (show S.data.size < 256 * j + 256 by omega)]
 have e2 : T.extract n T.size = S.extract (256 * (j + 1)) S.size := by
  rw [hz, hT]
  apply ByteArray.ext
  have hd : S.data.size = S.size := rfl
  simp only [ByteArray.data_extract, Array.extract_extract]
  by_cases h : 256 * j + 256 ≤ S.size
  ·congr 1 <;> omega
  ·rw [Array.extract_eq_empty_of_le (by omega), Array.extract_eq_empty_of_le (by omega)]
 refine ⟨?_, e2⟩
 unfold pieceAt padB
 rw [e1]
 congr 2
 rw [ByteArray.size_extract]
 omega
theorem ofNat_byte (a : Nat) : UInt8.ofNat (a % 256) = UInt8.ofNat a := by
 apply UInt8.toNat_inj.1
 rw [UInt8.toNat_ofNat', UInt8.toNat_ofNat']
 omega
theorem be8_big (g : Nat) : be8 g = big g := by
 show [_, _, _, _, _, _, _, _] = [_, _, _, _, _, _, _, _]
 simp only [ofNat_byte]
 rw [show g / 2 ^ (8 * (7 - 7)) = g from Nat.div_one g]
theorem headB_big (g : Nat) : (⟨(big g).toArray⟩ : ByteArray) ++ zeros 240 ++ ⟨(big g).toArray⟩ = headB g := by
 unfold headB headL
 rw [be8_big]
 apply ByteArray.ext
 simp only [zeros, ByteArray.data_append, List.append_toArray, List.append_assoc]
end Pl
theorem wpList_appNew {P : Program} {ops : Array Oper} {rest : List Oper} {o : Oper} {a : Act} {Q : Exit → Act → World → Prop} (hgd : o.guard = none) (s x : Operand) (t : TypeId)
  (ho : o.op = .call { callee := .builtin .append, args := #[s, x], argTypes := #[t, t] })
  (B Bl : Nat) (e : TypeId) (z : Value) (size bytes : Nat) (ht : P.underlying t = some (.slice e)) (hi : (P.info? e).map (fun i => (i.zero, i.size, i.bytes)) = some (some z, size, bytes)) (hzs : z.cells.size = size) (hsz : 0 < size)
  (w0 : World) (hB : B ≤ w0.heap.size) (hs : a.eval s = .slice none 0 0) (m : Nat) (news : List Value) (v : Value)
  (hx : a.eval x = v) (hv : w0.ownsRow Bl e size v m news) (h1 : ∀ u ∈ news, u.oneCell' = true) (h63 : m * bytes ≤ 140737488355328) (hb0 : 0 < bytes)
  (h : ∀ v' w', w'.ownsRow B e size v' m news → Below B w0 w' → wpList P ops Q rest (a.put o.dst v') w') : wpList P ops Q (o :: rest) a w0 := by
 rcases id hv.2 with ⟨e1, h0⟩ | ⟨g, cap, cur, e1, _⟩
 ·subst h0
  obtain rfl : news = [] := List.length_eq_zero_iff.1 (by rw [hv.1, Nat.zero_mul])
  obtain ⟨i, hi', _⟩ := info_parts hi
  exact wpList_append_own_none hgd s x t ho B e i size ht hi' (.slice none 0 0) 0 [] hs (World.ownsRow_nil _ _ _ _) (by rw [hx, e1]) (h _ _ (World.ownsRow_nil _ _ _ _) (Below.refl _ _))
 ·have hc := fun j u => hv.cells (g := g) (by rw [e1]; rfl) j u
  refine wpList_appP hgd s x t ho B e z size bytes ht hi hzs hsz (.slice none 0 0) 0 [] w0 (World.ownsRow_nil _ _ _ _) hB hs ⟨g, 0, none⟩ m cap news (by rw [hx, e1]) hv.1 hc h1 (by rw [Nat.zero_add]; exact h63) hb0 ?_
  intro v' w' hown hb
  rw [Nat.zero_add, List.nil_append] at hown
  exact h v' w' hown hb
theorem info_wr : (Tryz.prog.info? 61).map (fun i => (i.zero, i.size, i.bytes)) = some (some (.agg #[.int .i64 0, .string .empty]), 2, 24) := by kernel_rfl
theorem wcells_one' (l : List (Nat × ByteArray)) : ∀ u ∈ wcells l, u.oneCell' = true := by
 induction l with
 | nil => intro u h; cases h
 | cons x l ih =>
  intro u h
  rcases List.mem_cons.1 h with rfl | h
  ·rfl
  ·rcases List.mem_cons.1 h with rfl | h
   ·rfl
   ·exact ih u h
theorem refHead_any (g : Nat) (hg : U64 g) (w : World) :
  Calls Tryz.prog 58 #[.int .u64 (g : Int)] w fun e w' => e = .returned (.string (Pl.headB g)) ∧ Below w.heap.size w w' := by
 have e := Lib.hid (Pl.headB_big g)
 have z1 : (⟨(Pl.big g).toArray⟩ : ByteArray).size = 8 := rfl
 have z2 : (Pl.zeros 240).size = 240 := Pl.zeros_size 240
 have PB := Lib.hid (refBig_any g w hg)
 have PN := Lib.hid (fun w => noughtsN_any 240 (by omega) w)
 generalize (⟨(Pl.big g).toArray⟩ : ByteArray) = BB at *
 generalize Pl.zeros 240 = ZZ at *
 go_enter Tryz.func58, Tryz.ntmps58
 go_wp2_with (first
  | (go_at_call 90; refine PB.out.mono ?_; rintro e w1 ⟨rfl, b1⟩)
  | (go_at_call 16; refine (PN.out w1).mono ?_; rintro e w2 ⟨rfl, b2⟩))
 go_ret
 exact ⟨by rw [← e.out]; rfl, b1.trans (b2.mono b1.size)⟩
end
section
open Go.RowKit
variable {B Br Bl q r N k : Nat} {vf vh vl vr : Value} {rp rp2 fp fpr : Nat → Prop} {hh : List (Pl.RF1 × Value)} {x : Pl.Rf} {s : Pl.Dv} {W W' : World}
noncomputable def Pl.Rf.putE (x : Pl.Rf) (s : Pl.Dv) (l : List (Nat × ByteArray)) (r : Pl.RootP) : Pl.Rf := if (Pl.wrRoot s l r).2 = 0 then { x with safe := r } else x
def PutEnds (B Br q r : Nat) (vh : Value) (rp2 fpr : Nat → Prop) (hh : List (Pl.RF1 × Value)) (s' : Pl.Dv) (x' : Pl.Rf) (W W' : World) : Prop :=
 ∃ fpr' vf', RfO B q r vf' vh rp2 hh x' W' ∧ RefAt Br r s' fpr' W' ∧ Step (fun z => z = q ∨ fpr z) (fun z => z = q ∨ fpr' z) W W' ∧ ∀ z, fpr' z → fpr z ∨ W.heap.size ≤ z
theorem RfO.wide (h : RfO B q r vf vh rp hh x W) (hs : ∀ z, rp z → rp2 z) (h2 : ∀ z, rp2 z → z < W.heap.size ∧ B ≤ z ∧ z ≠ q ∧ vh.ownBlock ≠ some z) : RfO B q r vf vh rp2 hh x W :=
 ⟨h.blk, h.files.keep (Keep.refl _ _) hs, h.hand, fun y hy => (h.ints y hy).keep (Keep.refl _ _) hs, h.heq, fun e => (h2 q e).2.2.1 rfl, fun z e => ⟨fun e2 => (h2 z e2).2.2.2 e, (h.nh z e).2⟩, fun z hz => (h2 z hz).1, fun z hz => (h2 z hz).2.1, h.lq⟩
theorem RfO.setSafe (h : RfO B q r vf vh rp hh x W) {r0 : Pl.RootP} (hr : FilesF rp W vr r0.files) :
  RfO B q r vr vh rp hh { x with safe := r0 } ((W.setCell ⟨q, 2, none⟩ (.int .u64 (r0.gen : Int))).setCell ⟨q, 3, none⟩ vr) ∧ Keep (fun z => z ≠ q) W ((W.setCell ⟨q, 2, none⟩ (.int .u64 (r0.gen : Int))).setCell ⟨q, 3, none⟩ vr) := by
 have k1 : Keep (fun z => z ≠ q) W ((W.setCell ⟨q, 2, none⟩ (.int .u64 (r0.gen : Int))).setCell ⟨q, 3, none⟩ vr) := (keep_set W q 2 _).trans (keep_set _ q 3 _) (fun _ h _ => h)
 have kr : Keep rp W ((W.setCell ⟨q, 2, none⟩ (.int .u64 (r0.gen : Int))).setCell ⟨q, 3, none⟩ vr) := k1.mono (fun z hz _ e => h.nq (e ▸ hz))
 exact ⟨⟨(h.blk.set 2 _).set 3 _, hr.keep kr (fun _ h => h), k1.ownsRow h.hand (fun z e => (h.nh z e).2), fun y hy => (h.ints y hy).keep kr (fun _ h => h), h.heq, h.nq, h.nh, fun z hz => Nat.lt_of_lt_of_le (h.lt z hz) k1.size, h.low, h.lq⟩, k1⟩
set_option maxHeartbeats 4000000 in
theorem rput_any (ho : RfO B q r vf vh rp hh x W) (hd : RefAt Br r s fpr W) (hO : Pl.Fine N k s) (hk : k ≤ 1099511627776) (hN1 : 40 ≤ N) (hN2 : N ≤ 16384) (hdj : ∀ z, rfFp q vh rp2 z → ¬ fpr z) (hBr : Br ≤ W.heap.size)
  (l : List (Nat × ByteArray)) (hl : W.ownsRow Bl 61 2 vl l.length (wcells l)) (hll : l.length ≤ 16384) (hlb : ∀ p ∈ l, p.1 < N ∧ p.2.size = 256)
  (r0 : Pl.RootP) (hrf : r0.fine) (hrr : FilesF rp2 W vr r0.files) (hsub : ∀ z, rp z → rp2 z) (hr2 : ∀ z, rp2 z → z < W.heap.size ∧ B ≤ z ∧ z ≠ q ∧ vh.ownBlock ≠ some z) :
  Calls Tryz.prog 59 #[.pointer (some ⟨q, 0, none⟩), vl, .agg #[.int .u64 (r0.gen : Int), vr]] W fun e w' => e = .returned (.int .i64 (Pl.wrRoot s l r0).2) ∧ PutEnds B Br q r vh rp2 fpr hh (Pl.wrRoot s l r0).1 (x.putE s l r0) W w' := by
 obtain ⟨ER, hER⟩ : ∃ ER, ER = Pl.wrRoot s l r0 := ⟨_, rfl⟩
 obtain ⟨EX, hEX⟩ : ∃ EX, EX = x.putE s l r0 := ⟨_, rfl⟩
 rw [← hER, ← hEX]
 have hlen := hO.len
 obtain ⟨va, vc, rfl⟩ := ownsRow_form hl
 obtain ⟨W1, hW1⟩ : ∃ W1, W1 = W.alloc (.cells #[.int .u64 (r0.gen : Int), vr] 71) := ⟨_, rfl⟩
 have hb1 : Below W.heap.size W W1 := by rw [hW1]; exact (Below.refl _ _).alloc (Nat.le_refl _) _
 have hX5 : Blk W1 W.heap.size #[.int .u64 (r0.gen : Int), vr] 71 := by rw [hW1]; exact Blk.new _ _ _
 obtain ⟨ra, rc, rfl, rl1, rl2, rl3⟩ := id hrr
 have ho1 := ho.beyond hb1
 have hd1 := hd.beyond hb1
 obtain ⟨c0, _⟩ := ho1.cells
 obtain ⟨sv, wv, hd0⟩ := id hd1
 obtain ⟨sa, sc, rfl⟩ := ownsRow_form hd0.safe
 have d0 : W1.cell? ⟨r, 0, none⟩ = some (.slice sa s.safe.length sc) := by simp [hd0.blk.cell]
 have hrl : r < W1.heap.size := hd0.blk.lt
 have x0 : W1.cell? ⟨W.heap.size, 0, none⟩ = some (.int .u64 (r0.gen : Int)) := by simp [hX5.cell]
 have x1 : W1.cell? ⟨W.heap.size, 1, none⟩ = some (.slice ra r0.files.length rc) := by simp [hX5.cell]
 have hbdr : Below W1.heap.size W1 W1.drew := (Below.refl _ _).drew
 have PE := Lib.hid (refEncRt_any r0 ra rc (s.safe.length : Int) W1.drew hrf ((hrr.at.below hb1).below hbdr) (by omega) (by omega))
 have hcl := Lib.hid (fun (w : World) (hb : Below W1.heap.size W1 w) => (⟨(ho1.beyond hb).cells.1, (hb.cell (p := ⟨r, 0, none⟩) hrl).trans d0, (hb.cell (p := ⟨W.heap.size, 0, none⟩) hX5.lt).trans x0, (hb.cell (p := ⟨W.heap.size, 1, none⟩) hX5.lt).trans x1⟩ : w.cell? ⟨q, 0, none⟩ = some (.pointer (some ⟨r, 0, none⟩)) ∧ w.cell? ⟨r, 0, none⟩ = some (.slice sa s.safe.length sc) ∧ w.cell? ⟨W.heap.size, 0, none⟩ = some (.int .u64 (r0.gen : Int)) ∧ w.cell? ⟨W.heap.size, 1, none⟩ = some (.slice ra r0.files.length rc)))
 clear hd0
 go_enter Tryz.func59, Tryz.ntmps59
 go_upto_region 1 with (fail)
 rw [← hW1]
 clear hW1
 replace hER := Lib.hid hER
 replace hEX := Lib.hid hEX
 replace hlen := Lib.hid hlen
 go_region_held3 (fun W' => W'.cell? ⟨q, 0, none⟩ = some (.pointer (some ⟨r, 0, none⟩)) ∧ W'.cell? ⟨r, 0, none⟩ = some (.slice sa s.safe.length sc) ∧ W'.cell? ⟨W.heap.size, 0, none⟩ = some (.int .u64 (r0.gen : Int)) ∧ W'.cell? ⟨W.heap.size, 1, none⟩ = some (.slice ra r0.files.length rc)) (first | exact kA | exact ⟨c0, d0, x0, x1⟩ | go_keep)
  ((go_at_call 76; refine PE.out.mono ?_; rintro e w3 ⟨rfl, b3⟩; have bA := hbdr.trans (b3.mono hbdr.size); have kA := hcl.out w3 bA))
 have hb3 : Below W.heap.size W w3 := hb1.trans (bA.mono hb1.size)
 have hX5c : Blk w3 W.heap.size #[.int .u64 (r0.gen : Int), .slice ra r0.files.length rc] 71 := (bA.block W.heap.size hX5.lt).trans hX5
 obtain ⟨SS, hSS⟩ : ∃ SS, SS = (⟨(Pl.encRt (min (s.safe.length : Int) 16384) r0).1.toArray⟩ : ByteArray) := ⟨_, rfl⟩
 obtain ⟨ee, hee⟩ : ∃ ee, ee = (Pl.encRt (min (s.safe.length : Int) 16384) r0).2 := ⟨_, rfl⟩
 rw [← hSS, ← hee]
 replace hSS := Lib.hid hSS
 replace hee := Lib.hid hee
 clear PE hcl hbdr b3 bA kA c0 d0 x0 x1 hX5 hb1 ho1 hd1 hrl
 by_cases he0 : ee = 0
 case neg =>
  have hR : ER = (s, 5) := by rw [hER.out]; unfold Pl.wrRoot; rw [if_pos (hee.out ▸ he0)]
  have hX : EX = x := by rw [hEX.out]; unfold Pl.Rf.putE; rw [← hER.out, hR]; rfl
  have hne : (ee != 0) = true := by simpa using he0
  obtain ⟨ho3, hd3⟩ := And.intro (ho.beyond hb3) (hd.beyond hb3)
  go_wp2
  go_ret
  rw [hR, hX]
  exact ⟨rfl, fpr, vf, ho3.wide hsub (fun z hz => ⟨Nat.lt_of_lt_of_le (hr2 z hz).1 hb3.size, (hr2 z hz).2⟩), hd3, ⟨Keep.of_below hb3 (fun _ _ h => h), fun z hz => .inl hz, fun z hz => by
   have := hb3.size
   rcases hz with rfl | hz
   ·have := ho.blk.lt; omega
   ·have := hd.lt z hz; omega⟩, fun _ h => .inl h⟩
 case pos =>
  subst he0
  have q0 : w3.cell? ⟨W.heap.size, 0, none⟩ = some (.int .u64 (r0.gen : Int)) := by simp [hX5c.cell]
  have hgu : (r0.gen : Int) ≤ 18446744073709551615 := by have := hrf.gen; omega
  have hcS := Lib.hid (show ((Pl.slotOf r0.gen : Nat) : Int) = 16 * ((r0.gen : Int) % 2) by unfold Pl.slotOf; omega)
  have hl3 : w3.ownsRow Bl 61 2 (.slice va l.length vc) l.length (wcells l) := (Keep.of_below (fp := fun q => q < W.heap.size) hb3 (fun _ h _ => h)).ownsRow hl (fun q e => (hl.lt q e).2)
  have hpn : (Pl.piecesOf SS).length ≤ 15 := by
   rw [hSS.out]
   obtain ⟨_, h1, _, h2⟩ := encRt_yes hee.out.symm
   rw [Pl.piecesOf_length, h1]
   show Pl.pieceN (Pl.frame 1 (Pl.rootBytes r0)).toArray.size ≤ 15
   rw [List.size_toArray]
   unfold Pl.pieceN
   omega
  rw [Pl.piecesOf_length] at hpn
  have hW3 := hb3.size
  go_upto_region 7 with (at_builtin; go_must (refine wpList_appNew (by rfl) _ _ 44 (by rfl) w3.heap.size Bl 61 (.agg #[.int .i64 0, .string .empty]) 2 24 Tryz.underlying44 info_wr rfl (by decide) w3 (Nat.le_refl _) (by rfl) l.length (wcells l) _ (by rfl) hl3 (wcells_one' l) (by omega) (by decide) ?_; intro v5 w5 hown5 hb5))
  have x5 : w5.cell? ⟨W.heap.size, 0, none⟩ = some (.int .u64 (r0.gen : Int)) := (hb5.cell (p := ⟨W.heap.size, 0, none⟩) hX5c.lt).trans q0
  have hex : SS.extract 0 SS.size = SS := by simp
  go_wp2
  rw [← hcS.out]
  have hsl : Pl.slotOf r0.gen ≤ 16 := by unfold Pl.slotOf; omega
  clear q0 x5 hl3
  go_loopw [7, 10, 11] (fun s7 v10 i11 X => ∃ (j : Nat) (v : Value), j ≤ Pl.pieceN SS.size ∧ s7 = .string (SS.extract (256 * j) SS.size) ∧ v10 = v ∧ i11 = .int .i64 ((j : Int) + 1) ∧ X.ownsRow w3.heap.size 61 2 v (l.length + j) (wcells (l ++ Pl.placesN r0.gen SS j)) ∧ Below w3.heap.size w3 X) (fun _ _ i11 _ => Pl.pieceN SS.size + 1 - (intOf i11).toNat)
  case atStart => exact ⟨0, v5, Nat.zero_le _, by rw [Nat.mul_zero, hex], rfl, rfl, by rw [show Pl.placesN r0.gen SS 0 = [] from rfl, List.append_nil]; exact hown5, hb5⟩
  clear hex hown5 hb5
  case round =>
   obtain ⟨j, v, hj, rfl, hv, rfl, hrow, hbr⟩ := hrel
   replace hv := hv.symm
   subst hv
   obtain ⟨T, hT⟩ : ∃ T, T = SS.extract (256 * j) SS.size := ⟨_, rfl⟩
   have hTz : T.size = SS.size - 256 * j := by rw [hT, ByteArray.size_extract]; omega
   have hPN : Pl.pieceN SS.size = (SS.size + 255) / 256 := rfl
   by_cases hjl : j < Pl.pieceN SS.size
   ·have hT0 : (0 : Int) < (T.size : Int) := by omega
    obtain ⟨n, hn⟩ : ∃ n, n = min T.size 256 := ⟨_, rfl⟩
    obtain ⟨e1, e2⟩ := Pl.cut_piece hT hn
    have hmin : min (T.size : Int) 256 = (n : Int) := by omega
    have hn1 : (n : Int) ≤ (T.size : Int) := by omega
    have hn0 : (0 : Int) ≤ (n : Int) := by omega
    have hn2 : (256 : Int) - (n : Int) = ((256 - n : Nat) : Int) := by omega
    have PN := Lib.hid (fun w => noughtsN_any (256 - n) (by omega) w)
    have hZz : (Pl.zeros (256 - n)).size = 256 - n := Pl.zeros_size _
    generalize Pl.zeros (256 - n) = ZN at PN hZz e1
    have hn5 : IntKind.i64.wrap (((Pl.slotOf r0.gen : Nat) : Int) + ((j : Int) + 1)) = ((Pl.slotOf r0.gen : Nat) : Int) + ((j : Int) + 1) := IntWalk.i64_in _ (by omega)
    have hexz : (T.extract 0 n).size = n := by rw [ByteArray.size_extract]; omega
    have g1 : (T.extract 0 n).size + ZN.size ≤ 9223372036854775807 := by omega
    have g2 : ¬ 9223372036854775807 < (T.extract 0 n).size + ZN.size := by omega
    have g3 : min n T.size + ZN.size ≤ 9223372036854775807 := by omega
    have g4 : ¬ 9223372036854775807 < min n T.size + ZN.size := by omega
    have g5 : n + ZN.size ≤ 9223372036854775807 := by omega
    have g6 : ¬ 9223372036854775807 < n + ZN.size := by omega
    replace hexz := Lib.hid hexz
    replace hZz := Lib.hid hZz
    have hn3 : n ≤ 256 := by omega
    have hn4 : IntKind.i64.wrap ((256 - n : Nat) : Int) = ((256 - n : Nat) : Int) := IntWalk.i64_in _ (by omega)
    rw [← hT]
    replace e1 := Lib.hid e1
    replace e2 := Lib.hid e2
    replace hn := Lib.hid hn
    replace hTz := Lib.hid hTz
    replace hPN := Lib.hid hPN
    clear hT
    go_upto_region 11 with (fail)
    have hbd : Below wr.heap.size wr wr.drew := (Below.refl _ _).drew
    have hres := Lib.hid (fun (w6 : World) (b6 : Below wr.drew.heap.size wr.drew w6) => (⟨(Keep.of_below (fp := fun z => z < wr.drew.heap.size) b6 (fun _ h _ => h)).ownsRow (hrow.drew) (fun z e => (hrow.lt z e).2), Nat.le_trans hbr.size (Nat.le_trans hbd.size b6.size)⟩ : w6.ownsRow w3.heap.size 61 2 v (l.length + j) (wcells (l ++ Pl.placesN r0.gen SS j)) ∧ w3.heap.size ≤ w6.heap.size))
    go_region_held3 (fun _ => True) (trivial)
     (first
     | (go_at_call 16; refine (PN.out _).mono ?_; rintro e w6 ⟨rfl, b6⟩; have ⟨hrow6, hB6⟩ := hres.out w6 b6)
     | (refine step_app2 (by rfl) _ _ 44 (by rfl) w3.heap.size 61 _ 2 24 Tryz.underlying44 info_wr rfl (by decide) v (l.length + j) _ w6 hrow6 hB6 (by rfl) #[.int .i64 ((Pl.slotOf r0.gen : Nat) + ((j : Int) + 1)), .string (T.extract 0 n ++ ZN)] 61 (by rfl) rfl (by simp [Value.oneCell']) (by omega) (by decide) ?_; intro g cap' w7 hown hgrow hat hg))
    rw [e1.out] at hown
    have hrow7 : w7.ownsRow w3.heap.size 61 2 (.slice (some ⟨g, 0, none⟩) (l.length + j + 1) cap') (l.length + (j + 1)) (wcells (l ++ Pl.placesN r0.gen SS (j + 1))) := by
     rw [Pl.placesN_succ, ← List.append_assoc, wcells_append, ← Nat.add_assoc]
     have e3 : ((Pl.slotOf r0.gen + (j + 1) : Nat) : Int) = (Pl.slotOf r0.gen : Int) + ((j : Int) + 1) := by omega
     show w7.ownsRow _ _ _ _ _ (_ ++ [.int .i64 ((Pl.slotOf r0.gen + (j + 1) : Nat) : Int), .string (Pl.pieceAt SS j)])
     rw [e3]
     exact hown
    have hb7 : Below w3.heap.size w3 w7 := (((hbr.trans (hbd.mono hbr.size)).trans (b6.mono (Nat.le_trans hbr.size hbd.size))).alloc hB6 _).grown hgrow (Nat.le_trans hB6 (by simp)) (fun z e => (hrow6.lt z e).1)
    clear hres hrow6 hB6 hown hgrow hrow hbr hbd b6
    go_wp2
    go_roundw
    case rel => exact ⟨j + 1, _, by omega, by rw [e2.out], rfl, by go_num, hrow7, hb7⟩
    case measure => simp [intOf]; omega
   ·obtain rfl : j = Pl.pieceN SS.size := by omega
    have hT0 : ¬ (0 : Int) < (T.size : Int) := by omega
    rw [← hT]
    clear hT
    obtain ⟨X, hX⟩ : ∃ X : World, X = wr := ⟨_, rfl⟩
    subst hX
    obtain ⟨LL, hLL⟩ : ∃ LL, LL = Pl.toWrite s l r0 := ⟨_, rfl⟩
    have eL : l ++ Pl.placesN r0.gen SS (Pl.pieceN SS.size) = LL := by rw [hLL, Pl.placesN_all, hSS.out]; rfl
    have hLn : l.length + Pl.pieceN SS.size = LL.length := by rw [← eL, List.length_append, Pl.placesN_length]
    rw [eL, hLn] at hrow
    have hLb : ∀ p ∈ LL, p.1 < N ∧ p.2.size = 256 := by
     intro p hp
     rw [← eL, Pl.placesN_all, List.mem_append] at hp
     rcases hp with hp | hp
     ·exact hlb p hp
     ·unfold Pl.placesK at hp
      rw [List.mem_mapIdx] at hp
      obtain ⟨i, hi, rfl⟩ := hp
      refine ⟨?_, Pl.piecesOf_mem (List.getElem_mem hi)⟩
      rw [Pl.piecesOf_length] at hi
      show Pl.slotOf r0.gen + (i + 1) < N
      omega
    have hLl : LL.length ≤ 16399 := by omega
    replace hLL := Lib.hid hLL
    clear eL hLn
    have hbX : Below W.heap.size W X := hb3.trans (hbr.mono hb3.size)
    have hWX := hbX.size
    have hdX := hd.beyond hbX
    have hoX := (ho.beyond hbX).wide hsub (fun z hz => ⟨Nat.lt_of_lt_of_le (hr2 z hz).1 hWX, (hr2 z hz).2⟩)
    have hrX : FilesF rp2 X (.slice ra r0.files.length rc) r0.files := hrr.keep (Keep.of_below hbX (fun z hz _ => (hr2 z hz).1)) (fun _ h => h)
    have hX5e : Blk X W.heap.size #[.int .u64 (r0.gen : Int), .slice ra r0.files.length rc] 71 := (hbr.block W.heap.size hX5c.lt).trans hX5c
    have hX5l := hX5e.lt
    have hfsl : ∀ z, rfFp q vh rp2 z → z < W.heap.size := fun z hz => by
     rcases hz with rfl | hz | hz
     ·exact ho.blk.lt
     ·exact (ho.hand.lt z hz).2
     ·exact (hr2 z hz).1
    have hst0 : Step (fun z => z = q ∨ fpr z) (fun z => z = q ∨ fpr z) W X :=
     ⟨Keep.of_below hbX (fun _ _ h => h), fun z hz => .inl hz, fun z hz => by
      rcases hz with rfl | hz
      ·have := ho.blk.lt; omega
      ·have := hd.lt z hz; omega⟩
    have hvn : ∀ z, v.ownBlock = some z → ¬ fpr z ∧ z < X.heap.size := fun z e => ⟨fun h => by have := hd.lt z h; have := (hrow.lt z e).1; omega, (hrow.lt z e).2⟩
    obtain ⟨vb, vcap, rfl⟩ := ownsRow_form hrow
    -- whatever ends the call, told at once
    have hEnd := Lib.hid (fun (a : Pl.Dv × Int) (x' : Pl.Rf) (vf' : Value) (fpk : Nat → Prop) (W1 : World) (e1 : ER = a) (e2 : EX = x') (hoW : RfO B q r vf' vh rp2 hh x' W1) (hdW : RefAt Br r a.1 fpk W1) (st : Step (fun z => z = q ∨ fpr z) (fun z => z = q ∨ fpk z) W W1) (hnk : ∀ z, fpk z → fpr z ∨ X.heap.size ≤ z) =>
     (show Ending.returned (Value.int .i64 a.2) = .returned (.int .i64 ER.2) ∧ PutEnds B Br q r vh rp2 fpr hh ER.1 EX W W1 from by
      subst e1 e2
      exact ⟨rfl, fpk, vf', hoW, hdW, st, fun z hz => (hnk z hz).imp id (fun h => Nat.le_trans hWX h)⟩))
    clear hbr hb3 hX5c hTz hPN hpn hbX
    go_wp2_with fail
    clear hT0
    go_loopw [13] (fun i W' => ∃ (j : Nat) (fpk : Nat → Prop), j ≤ LL.length ∧ i = .int .i64 (j : Int) ∧ (Pl.wrAll s (LL.take j)).2 = 0 ∧ RefAt Br r (Pl.wrAll s (LL.take j)).1 fpk W' ∧ Keep (fun z => z < X.heap.size ∧ ¬ fpr z) X W' ∧ Step (fun z => z = q ∨ fpr z) (fun z => z = q ∨ fpk z) W W' ∧ (∀ z, fpk z → fpr z ∨ X.heap.size ≤ z)) (fun i _ => LL.length - (intOf i).toNat)
    case atStart => exact ⟨0, fpr, Nat.zero_le _, rfl, rfl, hdX, Keep.refl _ _, hst0, fun _ h => .inl h⟩
    clear hdX hst0
    case round =>
     obtain ⟨j, fpk, hj, rfl, hok, hdr, hkr, hstr, hnk⟩ := hrel
     have hXr := hkr.size
     have hor := hoX.keep (hkr.mono (fun z hz _ => ⟨by have := hfsl z hz; omega, hdj z hz⟩))
     have hfk : ∀ z, z < X.heap.size → ¬ fpr z → ¬ fpk z := fun z h1 h2 h3 => by
      rcases hnk z h3 with h | h
      ·exact h2 h
      ·omega
     have hff : ¬ fpk q := hfk q (by have := hfsl q (.inl rfl); omega) (hdj q (.inl rfl))
     have hokr := Pl.wrAll_fine hO (LL.take j)
     have hjl : (LL.take j).length ≤ 16399 := by rw [List.length_take]; omega
     by_cases hjL : j < LL.length
     case pos =>
      have hjL2 : (j : Int) < (LL.length : Int) := by omega
      obtain ⟨g, rfl⟩ : ∃ g, vb = some ⟨g, 0, none⟩ := by
       rcases hrow.2 with ⟨e, h0⟩ | ⟨g, cap, cur, e, _⟩
       ·omega
       ·injection e with e _ _
        exact ⟨g, e⟩
      have hgn := hvn g rfl
      have hgk := hfk g hgn.2 hgn.1
      obtain ⟨w0, w1'⟩ := wcells_get LL j hjL
      have y0 := hrow.cells (g := g) rfl _ _ w0
      have y1 := hrow.cells (g := g) rfl _ _ w1'
      rw [Addr.add_lit, Nat.zero_add] at y0 y1
      replace y0 := hkr.cell (b := g) ⟨hgn.2, hgn.1⟩ y0
      replace y1 := hkr.cell (b := g) ⟨hgn.2, hgn.1⟩ y1
      obtain ⟨pb1, pb2⟩ := hLb LL[j] (List.getElem_mem hjL)
      have hsn := Lib.hid (Pl.wrAll_succ (s := s) hjL)
      generalize LL[j] = p at *
      obtain ⟨pn, ps⟩ := p
      simp only at y0 y1 pb1 pb2
      generalize Pl.wrAll s (LL.take j) = a at *
      obtain ⟨s1, e1⟩ := a
      simp only at hok hdr hokr
      subst hok
      go_upto_region 16 with (fail)
      have hBd4 : Below wr.heap.size wr wr.drew := (Below.refl _ _).drew
      have c0 := hor.cells.1
      have PW : Hid (Calls Tryz.prog 91 #[.pointer (some ⟨r, 0, none⟩), .int .i64 (pn : Int), .string ps] wr.drew fun e w' => e = .returned (.int .i64 (s1.wrE pn ps).2) ∧ ∃ fr', RefAt Br r (s1.wrE pn ps).1 fr' w' ∧ Step fpk fr' wr.drew w') := Lib.hid (by
       rw [← Pl.Dv.write_wrE (by rw [hokr.len]; exact pb1) pb2]
       exact refWrite_gen (pn : Int) ps (hdr.beyond hBd4) hokr (by omega) (by have := hBd4.size; omega))
      have hcl := Lib.hid (fun (w6 : World) (fp6 : Nat → Prop) (st : Step fpk fp6 wr.drew w6) => (⟨st.keep.cell hff (hBd4.cell (p := ⟨q, 0, none⟩) hor.blk.lt |>.trans c0), st.keep.cell hgk (hBd4.cell (p := ⟨g, j * 2, none⟩) (Nat.lt_of_lt_of_le hgn.2 hXr) |>.trans y0), st.keep.cell hgk (hBd4.cell (p := ⟨g, j * 2 + 1, none⟩) (Nat.lt_of_lt_of_le hgn.2 hXr) |>.trans y1)⟩ : w6.cell? ⟨q, 0, none⟩ = some (.pointer (some ⟨r, 0, none⟩)) ∧ w6.cell? ⟨g, j * 2, none⟩ = some (.int .i64 (pn : Int)) ∧ w6.cell? ⟨g, j * 2 + 1, none⟩ = some (.string ps)))
      go_region_held3 (fun W' => W'.cell? ⟨q, 0, none⟩ = some (.pointer (some ⟨r, 0, none⟩)) ∧ W'.cell? ⟨g, j * 2, none⟩ = some (.int .i64 (pn : Int)) ∧ W'.cell? ⟨g, j * 2 + 1, none⟩ = some (.string ps)) (first | exact kA | exact ⟨c0, y0, y1⟩ | go_keep)
       ((go_at_call 91; refine PW.out.mono ?_; rintro e w6 ⟨rfl, fp6, hd6, st6⟩; have kA := hcl.out w6 fp6 st6))
      have hsn2 : Hid (Pl.wrAll s (LL.take (j + 1)) = s1.wrE pn ps) := Lib.hid hsn.out
      obtain ⟨A, hA⟩ : ∃ A, A = s1.wrE pn ps := ⟨_, rfl⟩
      rw [← hA] at hd6 hsn2 ⊢
      have st6' : Step fpk fp6 wr w6 := Step.after hdr.lt hBd4 st6
      have hk6 : Keep (fun z => z < X.heap.size ∧ ¬ fpr z) X w6 := hkr.trans st6'.keep (fun z hz _ => hfk z hz.1 hz.2)
      have hst6 := hstr.trans (st6'.orL hor.blk.lt)
      have hn6 : ∀ z, fp6 z → fpr z ∨ X.heap.size ≤ z := fun z hz => by
       rcases st6'.new z hz with h | h
       ·exact hnk z h
       ·right; omega
      clear kA hcl PW c0 y0 y1 hA hstr hdr st6 st6' hBd4 w0 w1'
      by_cases he : A.2 = 0
      case pos =>
       go_wp2
       go_roundw
       case rel => exact ⟨j + 1, fp6, by omega, by go_num, by rw [hsn2.out]; exact he, by rw [hsn2.out]; exact hd6, hk6, hst6, hn6⟩
       case measure => simp [intOf]; omega
      case neg =>
       have hne : (A.2 != 0) = true := by simpa using he
       have hR : ER = A := by
        have h1 : Pl.wrAll s LL = A := by rw [Pl.wrAll_stop (k := j + 1) (by rw [hsn2.out]; exact he), hsn2.out]
        rw [hER.out]
        unfold Pl.wrRoot
        rw [if_neg (by rw [← hee.out]; decide), ← hLL.out, h1]
        unfold Pl.wrEnd
        rw [if_pos he]
       have hX : EX = x := by rw [hEX.out]; unfold Pl.Rf.putE; rw [← hER.out, hR, if_neg he]
       have ho6 := hoX.keep (hk6.mono (fun z hz _ => ⟨by have := hfsl z hz; omega, hdj z hz⟩))
       have hfin := hEnd.out A x vf fp6 w6 hR hX ho6 hd6 hst6 hn6
       replace hfin := Lib.hid hfin
       clear hR hX
       go_wp2
       go_ret
       exact hfin.out
     case neg =>
      obtain rfl : j = LL.length := by omega
      have hjL2 : ¬ (LL.length : Int) < (LL.length : Int) := by omega
      rw [List.take_of_length_le (Nat.le_refl _)] at hok hdr hokr
      have hWd : Hid (ER = Pl.wrEnd r0.gen (Pl.wrAll s LL)) := Lib.hid (by
       rw [hER.out]
       unfold Pl.wrRoot
       rw [if_neg (by rw [← hee.out]; decide), ← hLL.out])
      have hokk := hokr.mono (show k + LL.length ≤ 1099511644200 by omega)
      clear hokr hjl hjL
      generalize Pl.wrAll s LL = a at *
      obtain ⟨s1, e1⟩ := a
      simp only at hok hdr hokk
      subst hok
      have hWd1 : Hid (ER = if s1.syE.2 ≠ 0 then s1.syE else if (s1.syE.1.wrE (Pl.slotOf r0.gen) (Pl.headB r0.gen)).2 ≠ 0 then s1.syE.1.wrE (Pl.slotOf r0.gen) (Pl.headB r0.gen) else (s1.syE.1.wrE (Pl.slotOf r0.gen) (Pl.headB r0.gen)).1.syE) := Lib.hid hWd.out
      have hEXn := Lib.hid (show ER.2 ≠ 0 → EX = x from fun h => by rw [hEX.out]; unfold Pl.Rf.putE; rw [← hER.out, if_neg h])
      have hEXy := Lib.hid (show ER.2 = 0 → EX = { x with safe := r0 } from fun h => by rw [hEX.out]; unfold Pl.Rf.putE; rw [← hER.out, if_pos h])
      have hql := ho.blk.lt
      have c0 := hor.cells.1
      have PS : Hid (Calls Tryz.prog 92 #[.pointer (some ⟨r, 0, none⟩)] wr fun e w' => e = .returned (.int .i64 s1.syE.2) ∧ RefAt Br r s1.syE.1 fpk w' ∧ Step fpk fpk wr w') := Lib.hid (refSync_gen hdr hokk (by omega))
      have hoks := hokk.syE
      clear hWd hER hEX
      go_upto_region 20 with (go_at_call 92; refine PS.out.mono ?_; rintro e w6 ⟨rfl, hd6, st6⟩)
      have hk6 : Keep (fun z => z < X.heap.size ∧ ¬ fpr z) X w6 := hkr.trans st6.keep (fun z hz _ => hfk z hz.1 hz.2)
      have hst6 := hstr.trans (st6.orL (by omega))
      have ho6 := hoX.keep (hk6.mono (fun z hz _ => ⟨by have := hfsl z hz; omega, hdj z hz⟩))
      clear PS c0 hor hdr hkr hstr st6
      generalize s1.syE = a2 at *
      obtain ⟨s2, e2⟩ := a2
      simp only at hWd1 hoks hd6
      by_cases he2 : e2 = 0
      case neg =>
       have hne : (e2 == 0) = false := by simpa using he2
       have hR : ER = (s2, e2) := by rw [hWd1.out, if_pos he2]
       have hfin := Lib.hid (hEnd.out (s2, e2) x vf fpk w6 hR (hEXn.out (by rw [hR]; exact he2)) ho6 hd6 hst6 hnk)
       clear he2 hWd1 hR
       go_wp2
       go_ret
       exact hfin.out
      subst he2
      have hWd2 : Hid (ER = if (s2.wrE (Pl.slotOf r0.gen) (Pl.headB r0.gen)).2 ≠ 0 then s2.wrE (Pl.slotOf r0.gen) (Pl.headB r0.gen) else (s2.wrE (Pl.slotOf r0.gen) (Pl.headB r0.gen)).1.syE) := Lib.hid hWd1.out
      clear hWd1
      have hX5w : Blk w6 W.heap.size #[.int .u64 (r0.gen : Int), .slice ra r0.files.length rc] 71 := hX5e.keep hk6 ⟨hX5l, fun h => by have := hd.lt _ h; omega⟩
      have c0 := ho6.cells.1
      have x0 : w6.cell? ⟨W.heap.size, 0, none⟩ = some (.int .u64 (r0.gen : Int)) := by simp [hX5w.cell]
      go_upto_region 21 with (fail)
      have hBd6 : Below w6.heap.size w6 w6.drew := (Below.refl _ _).drew
      have PH := Lib.hid (refHead_any r0.gen (U64.mk' hrf.gen) w6.drew)
      have PW : Hid (∀ w7 : World, Below w6.heap.size w6 w7 → Calls Tryz.prog 91 #[.pointer (some ⟨r, 0, none⟩), .int .i64 ((Pl.slotOf r0.gen : Nat) : Int), .string (Pl.headB r0.gen)] w7 fun e w' => e = .returned (.int .i64 (s2.wrE (Pl.slotOf r0.gen) (Pl.headB r0.gen)).2) ∧ ∃ fp', RefAt Br r (s2.wrE (Pl.slotOf r0.gen) (Pl.headB r0.gen)).1 fp' w' ∧ Step fpk fp' w7 w') := Lib.hid (fun w7 b7 => by
       rw [← Pl.Dv.write_wrE (by rw [hoks.len]; omega) (Pl.headB_size _)]
       exact refWrite_gen ((Pl.slotOf r0.gen : Nat) : Int) (Pl.headB r0.gen) (hd6.beyond b7) hoks (by omega) (by have := b7.size; have := hk6.size; omega))
      have hcl7 := Lib.hid (fun (w7 : World) (b7 : Below w6.heap.size w6 w7) => (⟨(ho6.beyond b7).cells.1, (b7.cell (p := ⟨W.heap.size, 0, none⟩) hX5w.lt).trans x0⟩ : w7.cell? ⟨q, 0, none⟩ = some (.pointer (some ⟨r, 0, none⟩)) ∧ w7.cell? ⟨W.heap.size, 0, none⟩ = some (.int .u64 (r0.gen : Int))))
      have hxk : ¬ fpk W.heap.size := hfk _ hX5l (fun h => by have := hd.lt _ h; omega)
      have hcl8 := Lib.hid (fun (w7 w8 : World) (fp8 : Nat → Prop) (h : w7.cell? ⟨q, 0, none⟩ = some (.pointer (some ⟨r, 0, none⟩)) ∧ w7.cell? ⟨W.heap.size, 0, none⟩ = some (.int .u64 (r0.gen : Int))) (st : Step fpk fp8 w7 w8) => (⟨st.keep.cell hff h.1, st.keep.cell hxk h.2⟩ : w8.cell? ⟨q, 0, none⟩ = some (.pointer (some ⟨r, 0, none⟩)) ∧ w8.cell? ⟨W.heap.size, 0, none⟩ = some (.int .u64 (r0.gen : Int))))
      go_region_held3 (fun W' => W'.cell? ⟨q, 0, none⟩ = some (.pointer (some ⟨r, 0, none⟩)) ∧ W'.cell? ⟨W.heap.size, 0, none⟩ = some (.int .u64 (r0.gen : Int))) (first | exact kB | exact kA | exact ⟨c0, x0⟩ | go_keep)
       (first
       | (go_at_call 58; refine PH.out.mono ?_; rintro e w7 ⟨rfl, b7⟩; have bA := hBd6.trans (b7.mono hBd6.size); have kA := hcl7.out w7 bA)
       | (go_at_call 91; refine (PW.out _ bA).mono ?_; rintro e w8 ⟨rfl, fp8, hd8, st8⟩; have kB := hcl8.out w7 w8 fp8 kA st8))
      have st8' : Step fpk fp8 w6 w8 := Step.after hd6.lt bA st8
      have hk8 : Keep (fun z => z < X.heap.size ∧ ¬ fpr z) X w8 := hk6.trans st8'.keep (fun z hz _ => hfk z hz.1 hz.2)
      have hst8 := hst6.trans (st8'.orL ho6.blk.lt)
      have hn8 : ∀ z, fp8 z → fpr z ∨ X.heap.size ≤ z := fun z hz => by
       rcases st8'.new z hz with h | h
       ·exact hnk z h
       ·have := hk6.size; right; omega
      have ho8 := hoX.keep (hk8.mono (fun z hz _ => ⟨by have := hfsl z hz; omega, hdj z hz⟩))
      have hfk8 : ∀ z, z < X.heap.size → ¬ fpr z → ¬ fp8 z := fun z h1 h2 h3 => by
       rcases hn8 z h3 with h | h
       ·exact h2 h
       ·omega
      have hok8 := hoks.wrE (Pl.slotOf r0.gen) (Pl.headB r0.gen)
      clear PH PW hcl7 hcl8 kA kB bA b7 st8 st8' hBd6 c0 x0 hX5w hst6 hd6 ho6 hk6 hoks
      generalize s2.wrE (Pl.slotOf r0.gen) (Pl.headB r0.gen) = a3 at *
      obtain ⟨s3, e3⟩ := a3
      simp only at hWd2 hok8 hd8
      by_cases he3 : e3 = 0
      case neg =>
       have hne : (e3 == 0) = false := by simpa using he3
       have hR : ER = (s3, e3) := by rw [hWd2.out, if_pos he3]
       have hfin := Lib.hid (hEnd.out (s3, e3) x vf fp8 w8 hR (hEXn.out (by rw [hR]; exact he3)) ho8 hd8 hst8 hn8)
       clear he3 hWd2 hR
       go_wp2
       go_ret
       exact hfin.out
      subst he3
      have hWd3 : Hid (ER = s3.syE) := Lib.hid hWd2.out
      clear hWd2
      have c0 := ho8.cells.1
      have PS : Hid (Calls Tryz.prog 92 #[.pointer (some ⟨r, 0, none⟩)] w8 fun e w' => e = .returned (.int .i64 s3.syE.2) ∧ RefAt Br r s3.syE.1 fp8 w' ∧ Step fp8 fp8 w8 w') := Lib.hid (refSync_gen hd8 hok8 (by omega))
      go_upto_region 24 with (go_at_call 92; refine PS.out.mono ?_; rintro e w9 ⟨rfl, hd9, st9⟩)
      have hk9 : Keep (fun z => z < X.heap.size ∧ ¬ fpr z) X w9 := hk8.trans st9.keep (fun z hz _ => hfk8 z hz.1 hz.2)
      have hst9 := hst8.trans (st9.orL ho8.blk.lt)
      have ho9 := hoX.keep (hk9.mono (fun z hz _ => ⟨by have := hfsl z hz; omega, hdj z hz⟩))
      have hr9 : FilesF rp2 w9 (.slice ra r0.files.length rc) r0.files := hrX.keep (hk9.mono (fun z hz _ => ⟨by have := hfsl z (.inr (.inr hz)); omega, hdj z (.inr (.inr hz))⟩)) (fun _ h => h)
      have hX5w : Blk w9 W.heap.size #[.int .u64 (r0.gen : Int), .slice ra r0.files.length rc] 71 := hX5e.keep hk9 ⟨hX5l, fun h => by have := hd.lt _ h; omega⟩
      clear PS c0 ho8 hd8 hk8 hst8 st9 hok8
      generalize s3.syE = a4 at *
      obtain ⟨s4, e4⟩ := a4
      simp only at hWd3 hd9
      by_cases he4 : e4 = 0
      case neg =>
       have hne : (e4 == 0) = false := by simpa using he4
       have hfin := Lib.hid (hEnd.out (s4, e4) x vf fp8 w9 hWd3.out (hEXn.out (by rw [hWd3.out]; exact he4)) ho9 hd9 hst9 hn8)
       clear he4 hWd3
       go_wp2
       go_ret
       exact hfin.out
      subst he4
      obtain ⟨hoF, hkF⟩ := ho9.setSafe hr9
      have hdF := hd9.keep (hkF.mono (fun z hz _ e => by subst e; exact hfk8 _ (by omega) (hdj _ (.inl rfl)) hz))
      have hstF : Step (fun z => z = q ∨ fp8 z) (fun z => z = q ∨ fp8 z) w9 ((w9.setCell ⟨q, 2, none⟩ (.int .u64 (r0.gen : Int))).setCell ⟨q, 3, none⟩ (.slice ra r0.files.length rc)) :=
       ⟨hkF.mono (fun z hz _ e => hz (.inl e)), fun z hz => .inl hz, fun z hz => Nat.lt_of_lt_of_le (hst9.lt z hz) hkF.size⟩
      have hfin := Lib.hid (hEnd.out (s4, 0) { x with safe := r0 } (.slice ra r0.files.length rc) fp8 _ hWd3.out (hEXy.out (by rw [hWd3.out])) hoF hdF (hst9.trans hstF) hn8)
      have x0 : w9.cell? ⟨W.heap.size, 0, none⟩ = some (.int .u64 (r0.gen : Int)) := by simp [hX5w.cell]
      have x1 : w9.cell? ⟨W.heap.size, 1, none⟩ = some (.slice ra r0.files.length rc) := by simp [hX5w.cell]
      obtain ⟨c0, c1, c2, c3, _⟩ := ho9.cells
      have z2 := ho9.blk.frozen 2
      have z3 := ho9.blk.frozen 3
      have lq9 := ho9.blk.lt
      go_wp2
      go_ret
      exact hfin.out
end
end Go.Proofs.YtogblcdefbnbeaaGreat
