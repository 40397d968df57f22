
/- Walk: the document's pairs. Condition: rows whose bytes fit. -/
import Derived.Test.YtiogjebekadmcaaWRef9
import Derived.Test.YtiogjebekadmcaaPlainMg2
import Derived.Deep.RegionLaw
namespace Go.Proofs.Ytiogjebekadmcaa
open Go.RowKit

/-- 'append(v, x1, .., xm)' as a step of a region that draws: the new elements lie in the block that the region has just laid -/
theorem step_app {P : Program} {ops : Array Oper} {o : Oper} {a : Act} {K : Act → World → Prop} {Q : Exit → Act → World → Prop} {E : Prop} (hgd : o.guard = none) (s x : Operand) (t : TypeId)
    (ho : o.op = .call { callee := .builtin .append, args := #[s, x], argTypes := #[t, t] })
    (B : Nat) (e : TypeId) (z : Value) (size bytes : Nat) (ht : P.underlying t = some (.slice e)) (hi : (P.info? e).map (fun i => (i.zero, i.size, i.bytes)) = some (some z, size, bytes)) (hzs : z.cells.size = size) (hsz : 0 < size)
    (v : Value) (n : Nat) (xs : List Value) (W0 w0 : World) (hb : Own B e size v n xs W0 w0) (hs : a.eval s = v) (cs : Array Value) (m : Nat)
    (hx : a.eval x = .slice (some ⟨w0.heap.size, 0, none⟩) m m) (hl : cs.size = m * size) (h1 : ∀ u ∈ cs.toList, u.oneCell' = true) (h63 : n + m ≤ 9223372036854775807) (hbytes : (n + m) * bytes ≤ 140737488355328)
    (h : ∀ v' w', Own B e size v' (n + m) (xs ++ cs.toList) W0 w' → K (a.put o.dst v') w') : if Region.wanted o (yielded ops a.tmps) = true then Oper.wp P o a (w0.alloc (.cells cs e)).drew K Q else E := by
  have hw : Region.wanted o (yielded ops a.tmps) = true := by simp [Region.wanted, hgd]
  rw [if_pos hw]
  obtain ⟨i, hi', hz0, hz1, hz2⟩ := info_parts hi
  have hb' := (hb.alloc (.cells cs e)).drew
  refine wp_append_own _ s x t ho B e i z size bytes ht hi' hz0 hz1 hz2 hzs hsz v n xs hs hb'.1 ⟨w0.heap.size, 0, none⟩ m m cs.toList hx (by simpa using hl) ?_ h1 (by unfold maxLen; omega) hbytes hb'.2.2 ?_
  · intro j u hj
    have hw : (w0.alloc (.cells cs e)).drew.cell? ⟨w0.heap.size, j, none⟩ = cs[j]? := World.cell?_alloc_mark w0 cs e (0, 0) j
    have ha : (⟨w0.heap.size, 0, none⟩ : Addr).add j = ⟨w0.heap.size, j, none⟩ := by rw [Addr.add_lit]; simp
    rw [ha, hw, ← Array.getElem?_toList]; exact hj
  · intro v' w' ho' hg _
    exact h v' w' (hb'.grown ho' hg)

theorem step_pair {ops : Array Oper} {o : Oper} {a : Act} {K : Act → World → Prop} {Q : Exit → Act → World → Prop} {E : Prop} {s x : Operand} (W0 w0 : World) (B n : Nat) (v : Value) (xs : List Value) (k0 k1 : ByteArray) (hb : Own B 72 2 v n xs W0 w0) (hn : n + 1 ≤ 2932031007318)
    (hgd : o.guard = none) (ho : o.op = .call { callee := .builtin .append, args := #[s, x], argTypes := #[32, 32] }) (hs : a.eval s = v) (hx : a.eval x = .slice (some ⟨w0.heap.size, 0, none⟩) 1 1)
    (h : ∀ v' w', Own B 72 2 v' (n + 1) (xs ++ [.string k0, .string k1]) W0 w' → K (a.put o.dst v') w') :
    if Region.wanted o (yielded ops a.tmps) = true then Oper.wp Try.prog o a (w0.alloc (.cells #[.string k0, .string k1] 72)).drew K Q else E :=
  step_app hgd s x 32 ho B 72 (.agg #[.string .empty, .string .empty]) 2 32 Try.underlying32 info_pair rfl (by decide) v n xs W0 w0 hb hs #[.string k0, .string k1] 1 hx rfl (by simp [Value.oneCell']) (by omega) (by omega) h

theorem cut_take {hi : ByteArray} {l : List Ver} {j : Nat} (hj : j < l.length) (h : ∀ u ∈ l.take j, Pl.high hi u = false) (hx : Pl.high hi l[j] = true) : Pl.cutHi hi l = l.take j := by
  have e : l = l.take j ++ l[j] :: l.drop (j + 1) := by
    conv => lhs; rw [← List.take_append_drop j l, List.drop_eq_getElem_cons hj]
  conv => lhs; rw [e]
  exact Pl.cutHi_stop h hx
theorem cut_whole {hi : ByteArray} {l : List Ver} (h : ∀ u ∈ l.take l.length, Pl.high hi u = false) : Pl.cutHi hi l = l.take l.length := by
  rw [List.take_length] at h ⊢
  exact Pl.cutHi_all h
theorem take_low {hi : ByteArray} {l : List Ver} {j : Nat} (hj : j < l.length) (h : ∀ u ∈ l.take j, Pl.high hi u = false) (hx : Pl.high hi l[j] = false) : ∀ u ∈ l.take (j + 1), Pl.high hi u = false := by
  intro u hu
  rw [List.take_succ_eq_append_getElem hj] at hu
  rcases List.mem_append.1 hu with h1 | h1
  · exact h u h1
  · rw [List.mem_singleton.1 h1]; exact hx

set_option maxRecDepth 100000 in
set_option maxHeartbeats 2000000 in
theorem refPairs_any (v : Value) (l : List Ver) (sq : Nat) (lo hi : ByteArray) (w : World) (hv : VersAt w v l) (hl : l.length ≤ 2932031007317) :
    Calls Try.prog 12 #[v, .int .u64 (sq : Int), .string lo, .string hi] w fun e w' => ∃ v', e = .returned v' ∧ PairsAt w' v' (Pl.pairsOf sq lo hi l) ∧ Below w.heap.size w w' := by
  obtain ⟨ao, cap, rfl, _, _, hv⟩ := hv
  go_enter Try.func12, Try.ntmps12
  go_wp2
  go_loopw [9, 10] (fun o i wr => ∃ j : Nat, j ≤ l.length ∧ i = .int .i64 j ∧ (∀ u ∈ l.take j, Pl.high hi u = false) ∧ Own w.heap.size 44 4 o j (vcells (l.take j)) w wr) (fun _ i _ => l.length - (intOf i).toNat)
  case atStart => exact ⟨0, by omega, rfl, (fun u h => by simp at h), Own.nil (Below.refl _ _) (Nat.le_refl _)⟩
  case round =>
    obtain ⟨j, hj, rfl, hlow, hown⟩ := hrel
    by_cases h1 : j < l.length
    · obtain ⟨b, off, rfl, hrow⟩ := hv (by omega)
      replace hrow := hrow.below (hown.below.mono (Nat.le_refl _))
      obtain ⟨x0, x1, x2, x3⟩ := hrow.2 j h1
      have htk : Hid (vcells (l.take (j + 1)) = vcells (l.take j) ++ [.string l[j].key, .int .u64 (l[j].seq : Int), .bool l[j].del, .string l[j].val]) := by
        show _ = _
        rw [List.take_succ_eq_append_getElem h1, vcells_append]; rfl
      clear hrow
      cases e1 : hi.toList.isEmpty
      · cases e2 : Op.bytesLess l[j].key.toList hi.toList
        · have hh : Pl.high hi l[j] = true := by unfold Pl.high; rw [e1, e2]; rfl
          have hcut := cut_take h1 hlow hh
          have hfin : Hid (Pl.pairsOf sq lo hi l = Pl.prun lo sq Pl.s0 (Pl.cutHi hi l)) := Lib.hid rfl
          have hcl : (Pl.cutHi hi l).length = j := by rw [hcut, List.length_take]; omega
          rw [← hcut] at hown
          clear hcut
          generalize Pl.cutHi hi l = L at *
          obtain rfl : j = L.length := hcl.symm
          have hbW := hown.below
          have hV1 := own_vers hown.1
          obtain ⟨ao2, cap2, rfl, c1, c2, hV⟩ := hV1
          have P := Lib.hid (groups_any (.slice ao2 L.length cap2) L wr ⟨_, _, rfl, c1, c2, hV⟩ (by omega))
          clear hown
          go_wp2_with fail
          refine P.out.mono ?_
          rintro e w2 ⟨v2, rfl, g, hg, hgl, howng⟩
          obtain ⟨hg0, hgle, hge, hg00, hglast, hgrp⟩ := hg.at
          have hbg := howng.below
          have hb2 := hbW.trans (hbg.mono hbW.size)
          rcases own_at howng.1 with ⟨h0, _⟩ | ⟨gb, gcap, rfl, gp1, gp2, gp3, gp4, hgc⟩
          · omega
          have hgat : ∀ k (hk : k < g.length), w2.cell? ⟨gb, k, none⟩ = some (.int .i64 (g[k] : Int)) := fun k hk => (hgc k (by omega)).trans (icells_get g k hk)
          clear P hgc howng hg
          have hVb : ∀ i, i < L.length → ∃ b off, ao2 = some ⟨b, off, none⟩ ∧ RowIn w2 b off L := fun i hi => by
            obtain ⟨b, off, e, hr⟩ := hV (by omega)
            exact ⟨b, off, e, hr.below hbg⟩
          clear hV hbg
          have hgD : ∀ k (hk : k < g.length), g[k]?.getD 0 = g[k] := fun k hk => by rw [List.getElem?_eq_getElem hk]; rfl
          have hz0 : Hid (Pl.prun lo sq Pl.s0 (L.take (g[0]?.getD 0)) = []) := by show _ = _; rw [hg00]; rfl
          go_wp2
          go_loopw [11, 13, 14] (fun o k _ W => ∃ kk : Nat, kk + 1 ≤ g.length ∧ k = .int .i64 kk ∧ Own w2.heap.size 72 2 o (Pl.prun lo sq Pl.s0 (L.take (g[kk]?.getD 0))).length (pcells (Pl.prun lo sq Pl.s0 (L.take (g[kk]?.getD 0)))) w2 W) (fun _ k _ _ => g.length - (intOf k).toNat)
          case atStart => exact ⟨0, by omega, rfl, by rw [hz0.out]; exact Own.nil (Below.refl _ _) (Nat.le_refl _)⟩
          case round =>
            obtain ⟨kk, hk1, rfl, hown⟩ := hrel
            by_cases h2 : kk + 1 < g.length
            · obtain ⟨hab, hst, hin⟩ := hgrp kk h2
              have hble := hgle (kk + 1) h2
              have ga := (hown.below.cell (p := ⟨gb, kk, none⟩) gp2).trans (hgat kk (by omega))
              have gbc := (hown.below.cell (p := ⟨gb, kk + 1, none⟩) gp2).trans (hgat (kk + 1) h2)
              have hD1 := Lib.hid (hgD (kk + 1) h2)
              rw [hgD kk (by omega)] at hown
              have hend := fun h => Lib.hid (Pl.group_end (lo := lo) (sq := sq) hab hble hst hin h)
              have hlowg := fun i h1 h2 h => Lib.hid (Pl.group_low (lo := lo) (sq := sq) hab hble hin (i := i) h1 h2 h)
              have hfound := fun i h1 h2 h3 h4 h5 => Lib.hid (Pl.group_found (lo := lo) (sq := sq) hab hble hst hin (i := i) h1 h2 h3 h4 h5)
              generalize ha : g[kk] = a at *
              generalize hb : g[kk + 1] = b at *
              have hlenL := Pl.prun_length (lo := lo) (sq := sq) Pl.s0 (L.take a)
              rw [List.length_take] at hlenL
              generalize hP : Pl.prun lo sq Pl.s0 (L.take a) = PA at *
              clear hgat hgle hge hg00 hglast hgrp hgD hst hin
              obtain ⟨W3, rfl⟩ : ∃ X : World, X = wr := ⟨_, rfl⟩
              obtain ⟨o3, rfl⟩ : ∃ X : Value, X = u11 := ⟨_, rfl⟩
              go_wp2
              go_loopw [11, 14] (fun o' i W' => ∃ i0 : Nat, a ≤ i0 ∧ i0 ≤ b ∧ i = .int .i64 i0 ∧ o' = o3 ∧ W' = W3 ∧ Hid (∀ q (h : q < L.length), a ≤ q → q < i0 → sq < L[q].seq)) (fun _ i _ => b - (intOf i).toNat)
              case atStart => exact ⟨a, by omega, by omega, rfl, rfl, rfl, Lib.hid (fun q _ h1 h2 => absurd h1 (by omega))⟩
              case round =>
                obtain ⟨i, hi1, hi2, rfl, rfl, rfl, hlate⟩ := hrel
                by_cases h3 : i < b
                · have hiL : i < L.length := by omega
                  obtain ⟨bb, off2, rfl, hrow2⟩ := hVb i hiL
                  obtain ⟨y0, y1, y2, y3⟩ := (hrow2.below hown.below).2 i hiL
                  clear hVb hrow2
                  cases e5 : Op.bytesLess L[i].key.toList lo.toList
                  · by_cases h6 : L[i].seq ≤ sq
                    · have hf := hfound i hi1 h3 e5 hlate.out h6
                      clear hfound hend hlowg
                      cases e7 : L[i].del
                      · go_wp2
                        have hf2 := hf
                        rw [e7] at hf2
                        clear hf
                        have hlenP : PA.length + 1 ≤ 2932031007318 := by omega
                        go_region_law (refine step_pair w2 wr w2.heap.size PA.length _ (pcells PA) L[i].key L[i].val hown hlenP rfl rfl rfl rfl ?_; intro v' w1 hown1)
                        all_goals
                          go_wp2
                          go_roundw
                          case rel => exact ⟨kk + 1, by omega, by go_num, by
                            rw [hD1.out, hf2.out]
                            simp only [Bool.false_eq_true, if_false]
                            rw [pcells_append, List.length_append, List.length_singleton]
                            exact hown1⟩
                          case measure => simp [intOf]; omega
                      · have hf2 := hf
                        rw [e7] at hf2
                        clear hf
                        go_wp2
                        go_roundw
                        case rel => exact ⟨kk + 1, by omega, by go_num, by
                          rw [hD1.out, hf2.out]
                          simpa using hown⟩
                        case measure => simp [intOf]; omega
                    · clear hfound hend hlowg
                      go_wp2
                      go_roundw
                      case rel => exact ⟨i + 1, by omega, by omega, by go_num, (by first | trivial | rfl), (by first | trivial | rfl), Lib.hid (fun q h h1 h2 => by
                        by_cases e : q = i
                        · subst e; omega
                        · exact hlate.out q h h1 (by omega))⟩
                      case measure => simp [intOf]; omega
                  · have hf2 := hlowg i hi1 h3 e5
                    clear hfound hend hlowg
                    go_wp2
                    go_roundw
                    case rel => exact ⟨kk + 1, by omega, by go_num, by
                      rw [hD1.out, hf2.out]
                      exact hown⟩
                    case measure => simp [intOf]; omega
                · obtain rfl : i = b := by omega
                  have hf2 := hend hlate.out
                  clear hfound hend hlowg
                  go_wp2
                  go_roundw
                  case rel => exact ⟨kk + 1, by omega, by go_num, by
                    rw [hD1.out, hf2.out]
                    exact hown⟩
                  case measure => simp [intOf]; omega
            · have hkk : kk + 1 = g.length := by omega
              have e : L.take (g[kk]?.getD 0) = L := by rw [hglast kk hkk]; simp
              rw [e] at hown
              clear hgat hgle hge hg00 hglast hgrp hgD e hkk
              go_wp2
              go_ret
              rw [hfin.out]
              exact ⟨_, rfl, own_pairs hown.1, hb2.trans (hown.below.mono hb2.size)⟩
        · have hh : Pl.high hi l[j] = false := by unfold Pl.high; rw [e1, e2]; rfl
          have hlow2 := Lib.hid (take_low h1 hlow hh)
          clear hlow hh
          go_wp2_with (at_builtin; go_must (refine wpList_app (by rfl) _ _ 22 (by rfl) w.heap.size 44 (.agg #[.string .empty, .int .u64 0, .bool false, .string .empty]) 4 48 Try.underlying22 info_version rfl (by decide) _ j (vcells (l.take j)) w _ hown (by rfl) #[.string l[j].key, .int .u64 (l[j].seq : Int), .bool l[j].del, .string l[j].val] 1 (by rfl) (by rfl) (by simp [Value.oneCell']) (by omega) (by omega) ?_; intro v' w1 hown1))
          go_roundw
          case rel => exact ⟨j + 1, by omega, by go_num, hlow2.out, by
            rw [htk.out]
            exact hown1⟩
          case measure => simp [intOf]; omega
      · have hh : Pl.high hi l[j] = false := by unfold Pl.high; rw [e1]; rfl
        have hlow2 := Lib.hid (take_low h1 hlow hh)
        clear hlow hh
        go_wp2_with (at_builtin; go_must (refine wpList_app (by rfl) _ _ 22 (by rfl) w.heap.size 44 (.agg #[.string .empty, .int .u64 0, .bool false, .string .empty]) 4 48 Try.underlying22 info_version rfl (by decide) _ j (vcells (l.take j)) w _ hown (by rfl) #[.string l[j].key, .int .u64 (l[j].seq : Int), .bool l[j].del, .string l[j].val] 1 (by rfl) (by rfl) (by simp [Value.oneCell']) (by omega) (by omega) ?_; intro v' w1 hown1))
        go_roundw
        case rel => exact ⟨j + 1, by omega, by go_num, hlow2.out, by
          rw [htk.out]
          exact hown1⟩
        case measure => simp [intOf]; omega
    · have hjl : j = l.length := by omega
      have hcut : Pl.cutHi hi l = l.take j := by rw [hjl] at hlow ⊢; exact cut_whole hlow
      clear hjl
      have hfin : Hid (Pl.pairsOf sq lo hi l = Pl.prun lo sq Pl.s0 (Pl.cutHi hi l)) := Lib.hid rfl
      have hcl : (Pl.cutHi hi l).length = j := by rw [hcut, List.length_take]; omega
      rw [← hcut] at hown
      clear hcut
      generalize Pl.cutHi hi l = L at *
      obtain rfl : j = L.length := hcl.symm
      have hbW := hown.below
      have hV1 := own_vers hown.1
      obtain ⟨ao2, cap2, rfl, c1, c2, hV⟩ := hV1
      have P := Lib.hid (groups_any (.slice ao2 L.length cap2) L wr ⟨_, _, rfl, c1, c2, hV⟩ (by omega))
      clear hown
      go_wp2_with fail
      refine P.out.mono ?_
      rintro e w2 ⟨v2, rfl, g, hg, hgl, howng⟩
      obtain ⟨hg0, hgle, hge, hg00, hglast, hgrp⟩ := hg.at
      have hbg := howng.below
      have hb2 := hbW.trans (hbg.mono hbW.size)
      rcases own_at howng.1 with ⟨h0, _⟩ | ⟨gb, gcap, rfl, gp1, gp2, gp3, gp4, hgc⟩
      · omega
      have hgat : ∀ k (hk : k < g.length), w2.cell? ⟨gb, k, none⟩ = some (.int .i64 (g[k] : Int)) := fun k hk => (hgc k (by omega)).trans (icells_get g k hk)
      clear P hgc howng hg
      have hVb : ∀ i, i < L.length → ∃ b off, ao2 = some ⟨b, off, none⟩ ∧ RowIn w2 b off L := fun i hi => by
        obtain ⟨b, off, e, hr⟩ := hV (by omega)
        exact ⟨b, off, e, hr.below hbg⟩
      clear hV hbg
      have hgD : ∀ k (hk : k < g.length), g[k]?.getD 0 = g[k] := fun k hk => by rw [List.getElem?_eq_getElem hk]; rfl
      have hz0 : Hid (Pl.prun lo sq Pl.s0 (L.take (g[0]?.getD 0)) = []) := by show _ = _; rw [hg00]; rfl
      go_wp2
      go_loopw [11, 13, 14] (fun o k _ W => ∃ kk : Nat, kk + 1 ≤ g.length ∧ k = .int .i64 kk ∧ Own w2.heap.size 72 2 o (Pl.prun lo sq Pl.s0 (L.take (g[kk]?.getD 0))).length (pcells (Pl.prun lo sq Pl.s0 (L.take (g[kk]?.getD 0)))) w2 W) (fun _ k _ _ => g.length - (intOf k).toNat)
      case atStart => exact ⟨0, by omega, rfl, by rw [hz0.out]; exact Own.nil (Below.refl _ _) (Nat.le_refl _)⟩
      case round =>
        obtain ⟨kk, hk1, rfl, hown⟩ := hrel
        by_cases h2 : kk + 1 < g.length
        · obtain ⟨hab, hst, hin⟩ := hgrp kk h2
          have hble := hgle (kk + 1) h2
          have ga := (hown.below.cell (p := ⟨gb, kk, none⟩) gp2).trans (hgat kk (by omega))
          have gbc := (hown.below.cell (p := ⟨gb, kk + 1, none⟩) gp2).trans (hgat (kk + 1) h2)
          have hD1 := Lib.hid (hgD (kk + 1) h2)
          rw [hgD kk (by omega)] at hown
          have hend := fun h => Lib.hid (Pl.group_end (lo := lo) (sq := sq) hab hble hst hin h)
          have hlowg := fun i h1 h2 h => Lib.hid (Pl.group_low (lo := lo) (sq := sq) hab hble hin (i := i) h1 h2 h)
          have hfound := fun i h1 h2 h3 h4 h5 => Lib.hid (Pl.group_found (lo := lo) (sq := sq) hab hble hst hin (i := i) h1 h2 h3 h4 h5)
          generalize ha : g[kk] = a at *
          generalize hb : g[kk + 1] = b at *
          have hlenL := Pl.prun_length (lo := lo) (sq := sq) Pl.s0 (L.take a)
          rw [List.length_take] at hlenL
          generalize hP : Pl.prun lo sq Pl.s0 (L.take a) = PA at *
          clear hgat hgle hge hg00 hglast hgrp hgD hst hin
          obtain ⟨W3, rfl⟩ : ∃ X : World, X = wr := ⟨_, rfl⟩
          obtain ⟨o3, rfl⟩ : ∃ X : Value, X = u11 := ⟨_, rfl⟩
          go_wp2
          go_loopw [11, 14] (fun o' i W' => ∃ i0 : Nat, a ≤ i0 ∧ i0 ≤ b ∧ i = .int .i64 i0 ∧ o' = o3 ∧ W' = W3 ∧ Hid (∀ q (h : q < L.length), a ≤ q → q < i0 → sq < L[q].seq)) (fun _ i _ => b - (intOf i).toNat)
          case atStart => exact ⟨a, by omega, by omega, rfl, rfl, rfl, Lib.hid (fun q _ h1 h2 => absurd h1 (by omega))⟩
          case round =>
            obtain ⟨i, hi1, hi2, rfl, rfl, rfl, hlate⟩ := hrel
            by_cases h3 : i < b
            · have hiL : i < L.length := by omega
              obtain ⟨bb, off2, rfl, hrow2⟩ := hVb i hiL
              obtain ⟨y0, y1, y2, y3⟩ := (hrow2.below hown.below).2 i hiL
              clear hVb hrow2
              cases e5 : Op.bytesLess L[i].key.toList lo.toList
              · by_cases h6 : L[i].seq ≤ sq
                · have hf := hfound i hi1 h3 e5 hlate.out h6
                  clear hfound hend hlowg
                  cases e7 : L[i].del
                  · go_wp2
                    have hf2 := hf
                    rw [e7] at hf2
                    clear hf
                    have hlenP : PA.length + 1 ≤ 2932031007318 := by omega
                    go_region_law (refine step_pair w2 wr w2.heap.size PA.length _ (pcells PA) L[i].key L[i].val hown hlenP rfl rfl rfl rfl ?_; intro v' w1 hown1)
                    all_goals
                      go_wp2
                      go_roundw
                      case rel => exact ⟨kk + 1, by omega, by go_num, by
                        rw [hD1.out, hf2.out]
                        simp only [Bool.false_eq_true, if_false]
                        rw [pcells_append, List.length_append, List.length_singleton]
                        exact hown1⟩
                      case measure => simp [intOf]; omega
                  · have hf2 := hf
                    rw [e7] at hf2
                    clear hf
                    go_wp2
                    go_roundw
                    case rel => exact ⟨kk + 1, by omega, by go_num, by
                      rw [hD1.out, hf2.out]
                      simpa using hown⟩
                    case measure => simp [intOf]; omega
                · clear hfound hend hlowg
                  go_wp2
                  go_roundw
                  case rel => exact ⟨i + 1, by omega, by omega, by go_num, (by first | trivial | rfl), (by first | trivial | rfl), Lib.hid (fun q h h1 h2 => by
                    by_cases e : q = i
                    · subst e; omega
                    · exact hlate.out q h h1 (by omega))⟩
                  case measure => simp [intOf]; omega
              · have hf2 := hlowg i hi1 h3 e5
                clear hfound hend hlowg
                go_wp2
                go_roundw
                case rel => exact ⟨kk + 1, by omega, by go_num, by
                  rw [hD1.out, hf2.out]
                  exact hown⟩
                case measure => simp [intOf]; omega
            · obtain rfl : i = b := by omega
              have hf2 := hend hlate.out
              clear hfound hend hlowg
              go_wp2
              go_roundw
              case rel => exact ⟨kk + 1, by omega, by go_num, by
                rw [hD1.out, hf2.out]
                exact hown⟩
              case measure => simp [intOf]; omega
        · have hkk : kk + 1 = g.length := by omega
          have e : L.take (g[kk]?.getD 0) = L := by rw [hglast kk hkk]; simp
          rw [e] at hown
          clear hgat hgle hge hg00 hglast hgrp hgD e hkk
          go_wp2
          go_ret
          rw [hfin.out]
          exact ⟨_, rfl, own_pairs hown.1, hb2.trans (hown.below.mono hb2.size)⟩
end Go.Proofs.Ytiogjebekadmcaa
