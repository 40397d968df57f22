
/- Walk: the law FrameRows returns true. Condition: frames that are not many. -/
import Derived.Test.YtlchkpmmemdjcaaLFrameWalks
import Derived.Test.YtlchkpmmemdjcaaPlainRw
import Derived.Test.YtlchkpmmemdjcaaFrs
import Derived.Deep.RegionLaw
import Derived.Deep.RegionHeld3
namespace Go.Proofs.Ytlchkpmmemdjcaa
open Go.RowKit Go.Shelf

attribute [local go_sem] Oper.semAt_some

def goodF (x : Frm) : Bool := decide (x.1 ≠ 0 ∧ x.2.size ≤ 262144)
/-- those that may be put -/
def goods (l : List Frm) : List Frm := l.filter goodF
def plainF (x : Frm) : UInt8 × List UInt8 := (x.1, x.2.data.toList)
/-- as bytes, one behind the other -/
def catB (P : List Frm) : ByteArray := ⟨(Pl.fcat (P.map plainF)).toArray⟩
theorem goods_succ {l : List Frm} {i : Nat} (h : i < l.length) : goods (l.take (i + 1)) = goods (l.take i) ++ if goodF l[i] then [l[i]] else [] := by
  unfold goods
  rw [List.take_succ_eq_append_getElem h, List.filter_append, List.filter_cons, List.filter_nil]
theorem catB_snoc (P : List Frm) (x : Frm) : catB P ++ ⟨(Pl.frame x.1 x.2.data.toList).toArray⟩ = catB (P ++ [x]) := by
  apply ByteArray.ext
  simp [catB, ByteArray.data_append, Pl.fcat_append, Pl.fcat_one, plainF]
theorem goods_good (l : List Frm) : ∀ y ∈ (goods l).map plainF, Pl.good y := by
  intro y hy
  obtain ⟨x, hx, rfl⟩ := List.mem_map.1 hy
  have := of_decide_eq_true (List.mem_filter.1 hx).2
  refine ⟨this.1, ?_⟩
  show x.2.data.toList.length ≤ 262144
  rw [Pl.size_data]; exact this.2
theorem info_frame : (Try.prog.info? 32).map (fun i => (i.zero, i.size, i.bytes)) = some (some (.agg #[.int .u8 0, .string .empty]), 2, 24) := by kernel_rfl

/-- one frame is appended to a row, as a step of a region that draws -/
theorem step_frame {ops : Array Oper} {o : Oper} {a : Act} {K : Act → World → Prop} {Q : Exit → Act → World → Prop} {E : Prop} {s x : Operand} (w0 : World) (B n : Nat) (v : Value) (xs : List Value) (k0 : Int) (k1 : ByteArray) (hr : w0.ownsRow B 32 2 v n xs) (hB : B ≤ w0.heap.size) (hn : n + 1 ≤ 5864062014635)
    (hgd : o.guard = none) (ho : o.op = .call { callee := .builtin .append, args := #[s, x], argTypes := #[66, 66] }) (hs : a.eval s = v) (hx : a.eval x = .slice (some ⟨w0.heap.size, 0, none⟩) 1 1)
    (h : ∀ g cap w', w'.ownsRow B 32 2 (.slice (some ⟨g, 0, none⟩) (n + 1) cap) (n + 1) (xs ++ [.int .u8 k0, .string k1]) → (w0.alloc (.cells #[.int .u8 k0, .string k1] 32)).grownBy w' v.ownBlock → K (a.put o.dst (.slice (some ⟨g, 0, none⟩) (n + 1) cap)) w') :
    if Region.wanted o (yielded ops a.tmps) = true then Oper.wp Try.prog o a (w0.alloc (.cells #[.int .u8 k0, .string k1] 32)).drew K Q else E := by
  have hw : Region.wanted o (yielded ops a.tmps) = true := by simp [Region.wanted, hgd]
  rw [if_pos hw]
  obtain ⟨i, hi', hz0, hz1, hz2⟩ := info_parts info_frame
  refine wp_append_own _ s x 66 ho B 32 i (.agg #[.int .u8 0, .string .empty]) 2 24 Try.underlying66 hi' hz0 hz1 hz2 rfl (by decide) v n xs hs (hr.alloc _) ⟨w0.heap.size, 0, none⟩ 1 1 [.int .u8 k0, .string k1] hx rfl ?_ (by simp [Value.oneCell']) (by unfold maxLen; omega) (by omega) (by show B ≤ (w0.alloc _).heap.size; simp; omega) ?_
  · intro j u hj
    have hw : (w0.alloc (.cells #[.int .u8 k0, .string k1] 32)).drew.cell? ⟨w0.heap.size, j, none⟩ = (#[Value.int .u8 k0, .string k1] : Array Value)[j]? := World.cell?_alloc_mark w0 _ 32 (0, 0) j
    have ha : (⟨w0.heap.size, 0, none⟩ : Addr).add j = ⟨w0.heap.size, j, none⟩ := by rw [Addr.add_lit]; simp
    rw [ha, hw, ← Array.getElem?_toList]; exact hj
  · intro v' w' ho' hg _
    obtain ⟨g, cap, rfl⟩ := ownsRow_succ ho'
    exact h g cap w' ho' ⟨hg.os, hg.tape, hg.output, hg.size, hg.block⟩

set_option maxRecDepth 100000 in
set_option maxHeartbeats 2000000 in
theorem frameRows_any (ao : Option Addr) (cap : Nat) (l : List Frm) (behind : ByteArray) (w : World) (hv : 0 < l.length → ∃ b off, ao = some ⟨b, off, none⟩ ∧ FrsIn w b off l) (hl : l.length ≤ 5864062014634) (hsz : ∀ x ∈ l, x.2.size ≤ 9223372036854775807) (hbe : behind.size ≤ 140737488351232) :
    Calls Try.prog 12 #[.slice ao l.length cap, .string behind] w fun e w' => e = .returned (.bool true) ∧ Below w.heap.size w w' := by
  have bR := Boxed.new w 4 (.bool false)
  have hb0 : Below w.heap.size w (w.alloc (.cells #[.bool false] 4)) := (Below.refl _ _).alloc (Nat.le_refl _) _
  have hz0 : (w.alloc (.cells #[.bool false] 4)).heap.size = w.heap.size + 1 := by simp
  have P1 := Lib.hid shown_any
  refine callsIn_wide.1 (callsIn_of_wp_marks (n := 9) Try.func12 rfl trivial (wpIn_wide.2 ?_) rfl)
  simp only [Try.ntmps12, List.size_toArray, List.length_cons, List.length_nil, Nat.reduceAdd, Nat.reduceSub, Array.replicate_succ, Array.replicate_zero, List.push_toArray, List.append_toArray, List.nil_append, List.cons_append]
  go_wp2_with fail
  generalize (w.alloc (.cells #[.bool false] 4)) = wa at bR hb0 hz0 ⊢
  refine (P1.out _).mono ?_
  rintro e1 w1 ⟨rfl, b1⟩
  replace bR : Boxed w1 w.heap.size 4 (.bool false) := (b1.block _ bR.lt).trans bR
  replace hb0 := hb0.trans (b1.mono hb0.size)
  have hz1 : w.heap.size + 1 ≤ w1.heap.size := by have := b1.size; omega
  replace hv : 0 < l.length → ∃ b off, ao = some ⟨b, off, none⟩ ∧ FrsIn w1 b off l ∧ b < w.heap.size := fun h => by
    obtain ⟨b, off, e, hf⟩ := hv h
    exact ⟨b, off, e, hf.kept hb0.size (hb0.block b hf.1), hf.1⟩
  clear b1 P1 hz0
  have bP := Boxed.new w1 66 (.slice none 0 0)
  go_wp2_with fail
  generalize hW0 : w1.alloc (.cells #[.slice none 0 0] 66) = W0 at bP ⊢
  have hzW : W0.heap.size = w1.heap.size + 1 := by rw [← hW0]; simp
  have hkW : Keep (fun z => z < w1.heap.size) w1 W0 := by rw [← hW0]; exact (Keep.refl _ _).alloc _
  clear hW0
  go_loopw [6, 8, 9, 10] (fun st i _ _ W => ∃ (j : Nat) (v : Value), j ≤ l.length ∧ i = .int .i64 (j : Int) ∧ st = .string (catB (goods (l.take j))) ∧ (catB (goods (l.take j))).size ≤ j * 262170 ∧ Boxed W w1.heap.size 66 v ∧ W.ownsRow (w1.heap.size + 1) 32 2 v (goods (l.take j)).length (fcells (goods (l.take j))) ∧ Keep (fun z => z < w1.heap.size) w1 W)
    (fun _ i _ _ _ => l.length - (intOf i).toNat)
  case atStart => exact ⟨0, _, by omega, rfl, rfl, by simp [goods, catB, Pl.fcat]; rfl, bP, World.ownsRow_nil _ _ _ _, hkW⟩
  case round =>
    obtain ⟨j, v, hj, rfl, rfl, hcs, bPW, hown, hkp⟩ := hrel
    by_cases h1 : j < l.length
    · obtain ⟨b, off, rfl, hf1, hbw⟩ := hv (by omega)
      have hf := hf1.kept hkp.size (hkp.block b (by omega) hf1.1)
      obtain ⟨x0, x1⟩ := hf.2 j h1
      have hgs := goods_succ h1
      have hxs := hsz _ (List.getElem_mem h1)
      have hk2 : ∀ {W' : World}, Below wr.heap.size wr W' → Keep (fun _ => True) wr W' := fun hb => (Keep.refl _ _).beyond hb
      have hjN : (goods (l.take j)).length ≤ j := Nat.le_trans (List.length_filter_le _ _) (by rw [List.length_take]; omega)
      by_cases hgd : goodF l[j] = true
      · rw [if_pos hgd] at hgs
        have hg2 := of_decide_eq_true hgd
        generalize l[j] = x at *
        obtain ⟨kd, ld⟩ := x
        simp only at hg2 x0 x1 hxs
        have P := Lib.hid (fun w => put_ok kd ld w hg2.1 hg2.2)
        have hfl : (ByteArray.mk (Pl.frame kd ld.data.toList).toArray).size ≤ 262159 := by
          show (Pl.frame kd ld.data.toList).toArray.size ≤ _
          have h64 := Pl.putUint_length64 ld.data.toList.length (by rw [Pl.size_data]; omega)
          rw [List.size_toArray, Pl.frame_length, Pl.putText, List.length_append, Pl.size_data] at *
          omega
        have hcat := catB_snoc (goods (l.take j)) (kd, ld)
        simp only at hcat
        generalize hP : goods (l.take j) = PP at *
        generalize ByteArray.mk (Pl.frame kd ld.data.toList).toArray = fb at *
        replace hcat := Lib.hid hcat
        replace hgs := Lib.hid hgs
        replace hP := Lib.hid hP
        go_wp2_with fail
        refine (P.out _).mono ?_
        rintro e2 w2 ⟨rfl, b2⟩
        have hkk := hk2 b2
        have bP2 := hkk.boxed trivial bPW
        have own2 := hkk.ownsRow hown (fun _ _ => trivial)
        have y0 := hkk.cell trivial x0
        have y1 := hkk.cell trivial x1
        have cP2 := bP2.cell
        have hkp2 := hkp.beyond b2
        have hB2 : w1.heap.size + 1 ≤ w2.heap.size := bP2.lt
        have hnr := bP2.not_row (by decide) own2
        clear x0 x1 hf hf1 hkk P b2
        have hnP : PP.length + 1 ≤ 5864062014635 := by omega
        have bPA := bP2.alloc (.cells #[.int .u8 (kd.toNat : Int), .string ld] 32)
        have cPA := bPA.cell
        have lt2 := bP2.lt
        go_wp2_with fail
        refine wp_region_noPanic ?_
        go_region_law (refine step_frame w2 (w1.heap.size + 1) PP.length _ (fcells PP) (kd.toNat : Int) ld own2 hB2 hnP rfl rfl rfl rfl ?_; intro g cp w3 ho3 hg3; have bL := (bP2.alloc (.cells #[.int .u8 (kd.toNat : Int), .string ld] 32)).kept hg3 hnr; have cL := bL.cell; have fL := bL.frozen; have lL := bL.lt)
        all_goals
          refine NoPanic.normal ?_
          go_wp2
          go_roundw
          case rel => exact ⟨j + 1, .slice (some ⟨g, 0, none⟩) (PP.length + 1) cp, by omega, by go_num, by rw [hgs.out, ← hcat.out], by
            rw [hgs.out, ← hcat.out, ByteArray.size_append]
            omega, bL.set _, by
            rw [hgs.out, fcells_append, List.length_append, List.length_singleton]
            exact ho3.kept (grownBy_setCell' w3 w1.heap.size (.slice (some ⟨g, 0, none⟩) (PP.length + 1) cp)) (.inr (bL.not_row (by decide) ho3).symm), ((hkp2.alloc _).grown hg3 (fun k e h _ => by have := (own2.lt k e).1; omega)).setCell _ _ _ (fun h _ => by omega)⟩
          case measure => simp [intOf]; omega
      · rw [if_neg hgd, List.append_nil] at hgs
        have hbd : ¬ (l[j].1 ≠ 0 ∧ l[j].2.size ≤ 262144) := fun h => hgd (by unfold goodF; exact decide_eq_true h)
        generalize l[j] = x at *
        obtain ⟨kd, ld⟩ := x
        simp only at hbd x0 x1 hxs
        have hbd' : kd = 0 ∨ 262144 < ld.size := by
          by_cases e : kd = 0
          · exact .inl e
          · right
            apply Classical.byContradiction
            intro h
            exact hbd ⟨e, by omega⟩
        have P := Lib.hid (fun w => put_bad kd ld w hbd')
        generalize hP : goods (l.take j) = PP at *
        replace hgs := Lib.hid hgs
        replace hP := Lib.hid hP
        have hcs2 : (catB PP).size ≤ (j + 1) * 262170 := Nat.le_trans hcs (Nat.mul_le_mul_right _ (Nat.le_succ j))
        go_wp2_with fail
        refine (P.out _).mono ?_
        rintro e2 w2 ⟨rfl, b2⟩
        have hkk := hk2 b2
        have bP2 := hkk.boxed trivial bPW
        have own2 := hkk.ownsRow hown (fun _ _ => trivial)
        have y0 := hkk.cell trivial x0
        have y1 := hkk.cell trivial x1
        have hkp2 := hkp.beyond b2
        clear x0 x1 hf hf1 hkk P b2 hgd hbd
        by_cases hk0 : kd = 0
        · subst hk0
          go_wp2_with fail
          go_roundw
          case rel => exact ⟨j + 1, _, by omega, by go_num, by rw [hgs.out], by rw [hgs.out]; exact hcs2, bP2, by rw [hgs.out]; exact own2, hkp2⟩
          case measure => simp [intOf]; omega
        · have hkn := kind_ne hk0
          have hkp0 := kind_pos hk0
          have hbig : 262144 < ld.size := hbd'.resolve_left hk0
          have hbig2 : decide ((ld.size : Int) ≤ 262144) = false := by simp; omega
          have hbig3 : decide (ld.size ≤ 262144) = false := by simp; omega
          go_wp2_with fail
          go_roundw
          case rel => exact ⟨j + 1, _, by omega, by go_num, by rw [hgs.out], by rw [hgs.out]; exact hcs2, bP2, by rw [hgs.out]; exact own2, hkp2⟩
          case measure => simp [intOf]; omega
    · obtain rfl : j = l.length := by omega
      rw [List.take_length] at hcs hown ⊢
      generalize hP : goods l = PP at *
      replace hP := Lib.hid hP
      have hPl : PP.length ≤ 5864062014634 := by rw [← hP.out]; exact Nat.le_trans (List.length_filter_le _ _) hl
      have hts : (catB PP ++ behind).size ≤ 9223372036854775000 := by rw [ByteArray.size_append]; have : l.length * 262170 ≤ 5864062014634 * 262170 := Nat.mul_le_mul_right _ hl; omega
      -- BEHIND THE LOOP
      have hnf : ∀ (l : Array Value) (w : World), (binOp .eql 61 (.func (.func 58) #[] l) .nilFunc).run Try.prog w = .ok (.bool false) w := fun l w => by kernel_rfl
      go_wp2_with (go_at_call 49; refine (callsIn_wide.1 (all_in 3 _ _)).mono ?_; rintro e w' ⟨rfl, rfl⟩)
      have bN := (Boxed.new wr 3 (.int .i64 0)).alloc (.cells #[.string (catB PP ++ behind)] 9)
      have bS := Boxed.new (wr.alloc (.cells #[.int .i64 0] 3)) 9 (.string (catB PP ++ behind))
      simp only [World.size_alloc] at bS
      have hk0 : ∀ f : Nat → Prop, Keep f wr ((wr.alloc (.cells #[.int .i64 0] 3)).alloc (.cells #[.string (catB PP ++ behind)] 9)) := fun f => ((Keep.refl f wr).alloc _).alloc _
      have hzz : ((wr.alloc (.cells #[.int .i64 0] 3)).alloc (.cells #[.string (catB PP ++ behind)] 9)).heap.size = wr.heap.size + 2 := by simp
      generalize (wr.alloc (.cells #[.int .i64 0] 3)).alloc (.cells #[.string (catB PP ++ behind)] 9) = W0 at bN bS hk0 hzz ⊢
      have hlist : (catB PP ++ behind).data.toList = Pl.fcat (PP.map plainF) ++ behind.data.toList := by simp [catB, ByteArray.data_append]
      have hgood : ∀ y ∈ PP.map plainF, Pl.good y := by rw [← hP.out]; exact goods_good l
      have hlen' : (PP.map plainF).length = PP.length := by simp
      have hrows : Pl.Run (catB PP ++ behind).data.toList PP.length ∧ ∀ i (h : i < PP.length), (Pl.frameAt (catB PP ++ behind).data.toList i).2 = plainF PP[i] := by
        obtain ⟨q1, _, q3⟩ := Pl.rows_run (PP.map plainF) behind.data.toList hgood
        rw [hlist]
        refine ⟨by rw [← hlen']; exact q1, fun i h => ?_⟩
        rw [q3 i (by rw [hlen']; exact h), List.getElem_map]
      have hends : ∀ K, Pl.Ends (catB PP ++ behind).data.toList K → PP.length ≤ K ∧ (catB PP).size ≤ Pl.pos (catB PP ++ behind).data.toList K ∧ (behind.data.toList = [] → K = PP.length ∧ Pl.pos (catB PP ++ behind).data.toList K = (catB PP).size) := fun K h => by
        have hc : (catB PP).size = (Pl.fcat (PP.map plainF)).length := rfl
        rw [hlist] at h ⊢
        rw [hc, ← hlen']
        exact Pl.rows_ends (PP.map plainF) behind.data.toList hgood h
      have hpbl : w1.heap.size < wr.heap.size := bPW.lt
      have bRW := hkp.boxed (by omega) bR
      obtain ⟨pao, pcap, rfl, hpr⟩ : ∃ (pao : Option Addr) (pcap : Nat), v = .slice pao PP.length pcap ∧ (0 < PP.length → ∃ b, pao = some ⟨b, 0, none⟩ ∧ FrsIn wr b 0 PP) := by
        have h' := hown
        rcases hown.2 with ⟨rfl, h0⟩ | ⟨g, cp, cur, rfl, _, h2, _, _, _⟩
        · exact ⟨none, 0, by rw [h0], fun h => by omega⟩
        · refine ⟨_, cp, rfl, fun _ => ⟨g, rfl, (Array.getElem?_eq_some_iff.1 h2).1, fun i hi => ?_⟩⟩
          have hp := fcells_get PP i hi
          simp only [Nat.zero_add]
          exact ⟨(h'.cellAt _ (by omega)).trans hp.1, (h'.cellAt _ (by omega)).trans hp.2⟩
      have hb1 : Below w.heap.size w wr := hkp.below hb0 (Nat.le_refl _) (fun z hz => by omega)
      clear hown hv hsz hb0 hkp hkW bP bR
      refine wpIn_wide.1 (wpIn_rangeG (n := 9) (F := Fence.wide) rfl (by omega) (gf := 58) (lb := #[.pointer (some ⟨wr.heap.size + 1, 0, none⟩)]) rfl trivial (enters_of Try.func58 (by kernel_rfl) rfl)
        (all1_seq 8 (wr.heap.size + 1) (catB PP ++ behind) W0 hts bS) (fun _ => rfl) (fun z h => by have h' : z = wr.heap.size + 1 := h; omega) (fun z h => by have h' : z = wr.heap.size + 1 := h; omega)
        (fun pre fp X => ((∀ z, z < wr.heap.size + 1 → fp z) ∧ Boxed X wr.heap.size 3 (.int .i64 ((pre.length : Nat) : Int)) ∧ Keep (fun z => z < wr.heap.size) wr X)) (fun _ _ _ _ => False)
        (fun pre x a' fp X => ((∀ z, z < wr.heap.size + 1 → fp z) ∧ Boxed X wr.heap.size 3 (.int .i64 ((pre.length : Nat) : Int)) ∧ Keep (fun z => z < wr.heap.size) wr X) ∧ ∃ bx, Fr bx (x.2.1.toNat : Int) ⟨x.2.2.toArray⟩ X ∧ fp bx ∧ wr.heap.size + 1 ≤ bx ∧ a' = (
          { tmps := #[.slice ao l.length cap, .string behind, undef, undef, .pointer (some ⟨w.heap.size, 0, none⟩), .bool true, .string (catB PP), .pointer (some ⟨w1.heap.size, 0, none⟩), .int .i64 (l.length : Int), u9, u10, .pointer (some ⟨wr.heap.size, 0, none⟩), .func (.func 58) #[] #[.pointer (some ⟨wr.heap.size + 1, 0, none⟩)], .int .i64 (x.1 : Int), .pointer (some ⟨bx, 0, none⟩), undef, .bool true, .bool true, .bool false, .int .i64 (l.length : Int), .slice ao l.length cap, .int .i64 (l.length : Int), .bool false, u23, u24, u25, u26, u27, u28, u29, u30, u31, u32, u33, u34, u35, u36, u37, u38, u39, u40, u41, u42, u43, u44, u45, u46, u47, u48, u49, u50, u51, u52, u53, u54, u55, u56, u57, u58, u59, .string (catB PP), .string behind, .string (catB PP ++ behind), .func (.func 58) #[] #[.pointer (some ⟨wr.heap.size + 1, 0, none⟩)], .func (.func 58) #[] #[.pointer (some ⟨wr.heap.size + 1, 0, none⟩)], .bool false, .func (.func 58) #[] #[.pointer (some ⟨wr.heap.size + 1, 0, none⟩)], .int .i64 (x.1 : Int), .agg #[.int .u8 (x.2.1.toNat : Int), .string ⟨x.2.2.toArray⟩], undef, undef, undef, undef, undef, undef, undef, undef, undef, undef, undef, undef, undef, undef, undef, undef, undef, undef, undef, undef, undef, undef, undef, undef, undef, undef, undef, undef, undef, undef, undef, undef, undef, undef, undef, undef, undef, undef, undef, undef, undef, undef, undef, undef, undef, undef, undef, undef], defers := [] } : Act))
        ?_ ?_ ?_ (fun z => z < wr.heap.size + 1) ?_ ?_ ?_ ?assign ?body ?done ?stop)
      case assign =>
        intro l' pre x fp X KK hI hlt hlen hKK
        unfold encF
        rw [fold2]
        simp only [List.setIfInBounds_toArray, List.set_cons_succ, List.set_cons_zero]
        gi_wp2
        obtain ⟨h1, h2, h3⟩ := hI
        refine hKK _ _ _ (Step.alloc hlt _) ⟨⟨fun z a => .inl (h1 z a), h2.alloc _, h3.alloc _⟩, X.heap.size, Fr.new _ _ _ _, .inr rfl, ?_, rfl⟩
        have := hlt _ (h1 wr.heap.size (by omega))
        omega
      case body =>
        rintro l' pre x a' fp X ⟨⟨h1, h2, h3⟩, bx, ⟨x0, x1, xB⟩, hbx, hbx2, rfl⟩ hlt hlen
        obtain ⟨rfl, hok, hpre, hrun⟩ := Pl.sp_last hlen
        have hTl : (catB PP ++ behind).data.toList.length = (catB PP ++ behind).size := Pl.size_data _
        have hnb : pre.length ≤ 9223372036854775000 := by have := Pl.pos_le hrun; omega
        have hfr := hrows.2 pre.length
        have cn := h2.cell
        have fzn := h2.frozen
        have ltn := h2.lt
        have cP := (h3.boxed hpbl bPW).cell
        have hFX : ∀ b, FrsIn wr b 0 PP → FrsIn X b 0 PP := fun b h => h.kept h3.size (h3.block b h.1 h.1)
        clear hlen hpre hrun hok hrows hends hgood hlist hTl hb1 bN bS hk0 bRW bPW hcs hts
        generalize Pl.frameAt (catB PP ++ behind).data.toList pre.length = x at *
        obtain ⟨p, kd, ld⟩ := x
        simp only at x0 x1 hfr
        have hp0 : decide ((p : Int) < 0) = false := by simp
        have fin : ∀ nq, (∀ z, z < wr.heap.size + 1 → fp z) ∧ Boxed ((X.drewN nq).setCell ⟨wr.heap.size, 0, none⟩ (.int .i64 ((pre.length : Int) + 1))) wr.heap.size 3 (.int .i64 (((pre ++ [((p, kd, ld) : Pl.AtF)]).length : Nat) : Int)) ∧
            Keep (fun z => z < wr.heap.size) wr ((X.drewN nq).setCell ⟨wr.heap.size, 0, none⟩ (.int .i64 ((pre.length : Int) + 1))) := fun nq => by
          refine ⟨h1, ?_, (h3.drewN nq).setCell _ _ _ (fun h _ => by omega)⟩
          rw [List.length_append, List.length_singleton]
          have hs2 : Boxed (X.setCell ⟨wr.heap.size, 0, none⟩ (.int .i64 ((pre.length : Int) + 1))) wr.heap.size 3 (.int .i64 ((pre.length : Int) + 1)) := h2.set _
          exact hs2
        have st : ∀ nq, Step fp fp X ((X.drewN nq).setCell ⟨wr.heap.size, 0, none⟩ (.int .i64 ((pre.length : Int) + 1))) := fun nq =>
          ⟨((Keep.refl _ X).drewN nq).setCell _ _ _ (fun h _ => h (h1 _ (by omega))), fun _ h => .inl h, fun z h => by have := hlt z h; simpa [World.setCell] using this⟩
        by_cases hin : pre.length < PP.length
        · obtain ⟨b, rfl, hb⟩ := hpr (by omega)
          obtain ⟨y0, y1⟩ := (hFX b hb).2 pre.length hin
          have e := hfr hin
          unfold plainF at e
          simp only [Prod.mk.injEq] at e
          obtain ⟨rfl, rfl⟩ := e
          rw [Array.toArray_toList] at x1
          simp only [Nat.zero_add] at y0 y1
          have hin2 : (pre.length : Int) < (PP.length : Int) := by omega
          clear hfr hpr hFX hb
          gi_wp2
          refine wpIn_round_quiet (by kernel_rfl) (by kernel_rfl) (by rintro ⟨a, w, h⟩; exact h) (by kernel_rfl) ?_
          repeat go_big_quiet_step (fail)
          refine wpQuiet_nil ?_
          rintro _ ⟨nq, rfl⟩
          gi_wp2
          exact ⟨fp, fin nq, st nq⟩
        · have hout : decide (pre.length < PP.length) = false := by simpa using hin
          have hout2 : decide ((pre.length : Int) < (PP.length : Int)) = false := by simp; omega
          clear hfr hpr hFX
          gi_wp2
          refine wpIn_round_quiet (by kernel_rfl) (by kernel_rfl) (by rintro ⟨a, w, h⟩; exact h) (by kernel_rfl) ?_
          repeat go_big_quiet_step (fail)
          refine wpQuiet_nil ?_
          rintro _ ⟨nq, rfl⟩
          gi_wp2
          exact ⟨fp, fin nq, st nq⟩
      case done =>
        rintro D ys fp X hD hnD hnew hlt hkT ⟨k', hek, rfl⟩ ⟨h1, h2, h3⟩ hKD
        rw [Pl.frames_length] at h2
        obtain ⟨e1, e2, e3⟩ := hends k' hek
        have P3 := Lib.hid (end_any (catB PP ++ behind) X hts)
        have hsum : (catB PP).size + behind.size ≤ 9223372036854775000 := by rw [← ByteArray.size_append]; exact hts
        have hsum1 : (catB PP).size ≤ 9223372036854775000 := by omega
        have bPX := h3.boxed hpbl bPW
        have bRX := h3.boxed (by omega) bRW
        have hbX : Below w.heap.size w X := h3.below hb1 (Nat.le_refl _) (fun z hz => by have := hb1.size; omega)
        have hDX : D < X.heap.size := (Array.getElem?_eq_some_iff.1 hKD).1
        clear hends hgood hlist hrows hcs bN bS hk0 bPW bRW hb1 hpr hkT hnew
        go_wp2_with fail
        refine P3.out.mono ?_
        rintro e4 W3 ⟨v3, rfl, ⟨k2, hek2, rfl⟩, b3⟩
        obtain rfl := hek2.unique hek
        have bN3 : Boxed W3 wr.heap.size 3 (.int .i64 (k2 : Int)) := (b3.block _ h2.lt).trans h2
        have bP3 : Boxed W3 w1.heap.size 66 (.slice pao PP.length pcap) := (b3.block _ bPX.lt).trans bPX
        have bR3 : Boxed W3 w.heap.size 4 (.bool false) := (b3.block _ bRX.lt).trans bRX
        have hKD3 : W3.heap[D]? = some (.deferred (some [])) := (b3.block _ hDX).trans hKD
        have hb3 := hbX.trans (b3.mono hbX.size)
        have cN3 := bN3.cell
        have cP3 := bP3.cell
        have cR3 := bR3.cell
        have fR3 := bR3.frozen
        have lR3 := bR3.lt
        clear h1 h2 h3 b3 hbX hKD P3 hek hek2 bPX bRX hlt hnD
        generalize Pl.pos (catB PP ++ behind).data.toList k2 = q at *
        have hge1 : decide (PP.length ≤ k2) = true := by simpa using e1
        have hge2 : decide ((catB PP).size ≤ q) = true := by simpa using e2
        have hge3 : (PP.length : Int) ≤ (k2 : Int) := by omega
        have hge4 : ((catB PP).size : Int) ≤ (q : Int) := by omega
        have bR4 := bR3.set (.bool true)
        have hk4 : Keep (fun z => z ≠ w.heap.size) W3 (W3.setCell ⟨w.heap.size, 0, none⟩ (.bool true)) := (Keep.refl _ _).setCell _ _ _ (fun h _ => h rfl)
        have hb4 : Below w.heap.size w (W3.setCell ⟨w.heap.size, 0, none⟩ (.bool true)) := hb3.setCell (by show w.heap.size ≤ w.heap.size; omega) _
        have hM4 : Marked [D] (W3.setCell ⟨w.heap.size, 0, none⟩ (.bool true)) := (((Marked.nil W3).cons hKD3 (by simp)).keep hk4 (fun d hd => by
          rcases List.mem_singleton.1 hd with rfl
          omega))
        have hDn : ¬ w.heap.size ∈ [D] := fun h => by have := List.mem_singleton.1 h; omega
        clear e1 e2 bN3 bP3 bR3 hb3 hk4 hKD3
        cases eb : behind.toList.isEmpty
        · clear e3
          go_wp2
          refine leaves_marks [D] _ hM4 (fun W' hk' => ?_)
          exact ⟨_, results_bool rfl rfl (hk'.boxed hDn bR4).cell, rfl, hk'.below hb4 (Nat.le_refl _) (fun z hz h => by have := List.mem_singleton.1 h; omega)⟩
        · have hbn : behind.data.toList = [] := by
            rw [ByteArray.toList_eq] at eb
            exact List.isEmpty_iff.1 eb
          obtain ⟨rfl, rfl⟩ := e3 hbn
          clear e3 hbn
          go_wp2
          refine leaves_marks [D] _ hM4 (fun W' hk' => ?_)
          exact ⟨_, results_bool rfl rfl (hk'.boxed hDn bR4).cell, rfl, hk'.below hb4 (Nat.le_refl _) (fun z hz h => by have := List.mem_singleton.1 h; omega)⟩
      case stop =>
        rintro D c pre fp X _ _ _ _ _ _ h
        exact h.elim
      · rintro pre fp X X' ⟨h1, h2, h3⟩ hkp
        exact ⟨h1, hkp.boxed (h1 _ (by omega)) h2, h3.trans hkp (fun i hi _ => h1 i (by omega))⟩
      · rintro c pre fp X X' h
        exact h.elim
      · rintro pre x a' _ fp X X' ⟨⟨h1, h2, h3⟩, bx, ⟨x0, x1, xB⟩, hbx, hbx2, he⟩ hkp
        exact ⟨⟨h1, hkp.boxed (h1 _ (by omega)) h2, h3.trans hkp (fun i hi _ => h1 i (by omega))⟩, bx, ⟨hkp.cell hbx x0, hkp.cell hbx x1, Nat.lt_of_lt_of_le xB hkp.size⟩, hbx, hbx2, he⟩
      · intro z h1 h2
        have h2' : z = wr.heap.size + 1 := h2
        omega
      · intro z h1
        omega
      · exact ⟨fun _ h => h, bN, hk0 _⟩
end Go.Proofs.Ytlchkpmmemdjcaa
