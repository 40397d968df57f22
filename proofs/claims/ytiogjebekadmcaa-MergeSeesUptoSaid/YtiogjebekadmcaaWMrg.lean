
/- Walks: merge.Merge's sequence. Condition: rows whose bytes fit. -/
import Derived.Test.YtiogjebekadmcaaWSrcs
import Derived.Test.YtiogjebekadmcaaPlainMr
import Derived.Test.YtiogjebekadmcaaWLess
import Derived.Test.YtiogjebekadmcaaApp1
import Derived.Deep.RegionHeld3
import Derived.Sort.LoopGhostIn
import Derived.BigQuiet
namespace Go.Proofs.Ytiogjebekadmcaa
open Go.RowKit Go.Shelf

attribute [local go_sem] Oper.semAt_some

/-- in W, g is a sequence of this row, or none -/
def FunAt (W : World) (g : Value) (l : List Ver) : Prop :=
  (g = .nilFunc ∧ l = []) ∨ ∃ r v, g = .func (.func 34) #[] #[.pointer (some ⟨r, 0, none⟩)] ∧ Boxed W r 22 v ∧ VersAt W v l
/-- in W, u is a slice of such sequences -/
def FunsAt (W : World) (u : Value) (ls : List (List Ver)) : Prop :=
  ∃ (ao : Option Addr) (cap : Nat), u = .slice ao ls.length cap ∧ (0 < ls.length → ∃ b off, ao = some ⟨b, off, none⟩ ∧ b < W.heap.size ∧ ∀ i (h : i < ls.length), ∃ g, W.cell? ⟨b, off + i, none⟩ = some g ∧ FunAt W g ls[i])
theorem FunAt.below {W W' : World} {g : Value} {l : List Ver} (h : FunAt W g l) (hb : Below W.heap.size W W') : FunAt W' g l := by
  rcases h with h | ⟨r, v, e, hr, hv⟩
  · exact .inl h
  · exact .inr ⟨r, v, e, (hb.block _ hr.lt).trans hr, hv.below hb⟩
theorem FunsAt.below {W W' : World} {u : Value} {ls : List (List Ver)} (h : FunsAt W u ls) (hb : Below W.heap.size W W') : FunsAt W' u ls := by
  obtain ⟨ao, cap, rfl, h⟩ := h
  refine ⟨ao, cap, rfl, fun h0 => ?_⟩
  obtain ⟨b, off, rfl, hB, hc⟩ := h h0
  refine ⟨b, off, rfl, Nat.lt_of_lt_of_le hB hb.size, fun i hi => ?_⟩
  obtain ⟨g, g1, g2⟩ := hc i hi
  exact ⟨g, (hb.cell (p := ⟨b, off + i, none⟩) hB).trans g1, g2.below hb⟩
theorem keep_below {w W : World} {B : Nat} (h : Keep (fun k => k < B) w W) (hB : B ≤ w.heap.size) : Below B w W := ⟨h.os, h.tape, h.output, h.size, fun k hk => h.block k hk (Nat.lt_of_lt_of_le hk hB)⟩
theorem vers_own {W : World} {v : Value} {l : List Ver} (h : VersAt W v l) : 0 < l.length → ∀ k, v.ownBlock = some k → k < W.heap.size := by
  obtain ⟨ao, cap, rfl, _, _, h⟩ := h
  intro h0 k e
  obtain ⟨b, off, rfl, hr⟩ := h h0
  have : b = k := by simpa [Value.ownBlock] using e
  exact this ▸ hr.1
theorem info_src : (Try.prog.info? 83).map (fun i => (i.zero, i.size, i.bytes)) = some (some (.pointer none), 1, 8) := by kernel_rfl

theorem row_typed {W : World} {base n sz : Nat} {e : TypeId} {v : Value} {xs : List Value} (h : W.ownsRow base e sz v n xs) : ∀ k, v.ownBlock = some k → ∃ cs z, W.heap[k]? = some (.cells cs e z) := by
  rcases h.2 with ⟨rfl, h0⟩ | ⟨g, cap, cur, rfl, h1, h2, _⟩
  · intro k e; cases e
  · intro k e
    have : g = k := by simpa [Value.ownBlock] using e
    exact this ▸ ⟨_, _, h2⟩
theorem rest_own {lo base : Nat} {W : World} {d : Nat} {v : Value} {l : List Ver} (hlo : lo ≤ base) (h : W.ownsRow base 44 4 v l.length (vcells l)) (hd : Boxed W d 22 v) {hi : Nat} (hh : ∀ k, v.ownBlock = some k → k < hi) : Rest lo hi W d l := by
  obtain ⟨ao, cap, rfl, c1, c2, hr⟩ := own_vers h
  refine ⟨ao, cap, hd, c1, c2, fun h0 => ?_⟩
  obtain ⟨b, off, rfl, hrow⟩ := hr h0
  exact ⟨b, off, rfl, hrow, Nat.le_trans hlo (h.lt b rfl).1, hh b rfl, row_typed h b rfl⟩
/-- a new source -/
theorem srcs_new {lo d : Nat} {Wi wr w1 W2 w3 : World} {ds : List Nat} {Rs : List (List Ver)} {v3 : Value} {l : List Ver} (hlo : lo ≤ wr.heap.size) (hown : wr.ownsRow lo 83 1 v3 ds.length (ptrs ds)) (hsr : Srcs lo wr.heap.size wr ds Rs) (hb : Below lo Wi wr) (hb1 : Below wr.heap.size wr w1) (hd : d = w1.heap.size) (hb2 : Below w1.heap.size w1 W2) (hz2 : W2.heap.size = d + 2) (hk3 : Keep (fun k => k ≠ d + 1 ∧ k ≠ d) W2 w3) (hs3 : Src lo (d + 2) w3 d l) :
    w3.ownsRow lo 83 1 v3 ds.length (ptrs ds) ∧ Srcs lo w3.heap.size w3 (ds ++ [d]) (Rs ++ [l]) ∧ Below lo Wi w3 ∧ lo ≤ w3.heap.size := by
  have z1 := hb1.size
  have z3 := hk3.size
  have K : Keep (fun k => k < wr.heap.size) wr w3 := ((Keep.of_below hb1 (fun _ h _ => h)).trans (Keep.of_below hb2 (fun k (h : k < wr.heap.size) _ => by omega)) (fun _ h _ => h)).trans hk3 (fun k h _ => ⟨by omega, by omega⟩)
  refine ⟨K.ownsRow hown (fun k e => (hown.lt k e).2), ⟨by simp [hsr.len], fun i h1 h2 => ?_, fun i j h1 h2 hij => ?_⟩, hb.trans ((keep_below K (Nat.le_refl _)).mono hlo), by omega⟩
  · by_cases hi : i < ds.length
    · have hi2 : i < Rs.length := by have := hsr.len; omega
      rw [List.getElem_append_left hi, List.getElem_append_left hi2]
      exact ((hsr.kept K (fun k _ h => h) (Nat.le_refl _)).src i hi hi2).wider (by omega)
    · have e : i = ds.length := by simp at h1; omega
      subst e
      have e2 : ds.length = Rs.length := hsr.len
      simp only [List.getElem_append_right (Nat.le_refl _), Nat.sub_self, List.getElem_cons_zero]
      rw [List.getElem_append_right (by omega)]
      simp only [e2, Nat.sub_self, List.getElem_cons_zero]
      exact hs3.wider (by omega)
  · by_cases hj : j < ds.length
    · rw [List.getElem_append_left (by omega), List.getElem_append_left hj]
      exact hsr.inc i j (by omega) hj hij
    · have e : j = ds.length := by simp at h2; omega
      subst e
      rw [List.getElem_append_left hij]
      simp only [List.getElem_append_right (Nat.le_refl _), Nat.sub_self, List.getElem_cons_zero]
      have := (hsr.src i hij (by have := hsr.len; omega)).2.1
      omega
/-- its pointer is laid behind the others -/
theorem srcs_app {lo : Nat} {Wi w3 w4 : World} {ds dt : List Nat} {Rs : List (List Ver)} {v3 : Value} {tmp : Obj} (hlo : lo ≤ w3.heap.size) (hown : w3.ownsRow lo 83 1 v3 dt.length (ptrs dt)) (hsr : Srcs lo w3.heap.size w3 ds Rs) (hb : Below lo Wi w3) (hgrow : (w3.alloc tmp).grownBy w4 v3.ownBlock) :
    Srcs lo w4.heap.size w4 ds Rs ∧ Below lo Wi w4 := by
  have hs : (w3.alloc tmp).heap.size = w3.heap.size + 1 := by simp
  have h2 := hgrow.size
  have ht := row_typed hown
  have hne : ∀ (b : Nat) (cs : Array Value) (t : TypeId) (z : Nat × Nat), w3.heap[b]? = some (Obj.cells cs t z) → t ≠ 83 → w4.heap[b]? = w3.heap[b]? := fun b cs t z h hte => by
    have hb3 : b < w3.heap.size := (Array.getElem?_eq_some_iff.1 h).1
    refine (hgrow.block b (by omega) (fun e => ?_)).trans (((Below.refl w3.heap.size w3).alloc (Nat.le_refl _) tmp).block b hb3)
    obtain ⟨cs', z', h'⟩ := ht b e.symm
    exact typed_ne h h' hte rfl
  refine ⟨⟨hsr.len, fun i h1 h3 => ?_, hsr.inc⟩, (hb.alloc hlo tmp).grown hgrow (by omega) (fun k e => (hown.lt k e).1)⟩
  have hS := hsr.src i h1 h3
  refine (hS.kept (by omega) ?_ ?_ ?_).wider (by omega)
  · obtain ⟨_, _, _, ao, cap, hd, _⟩ := hS; exact hne _ _ _ _ hd (by decide)
  · exact hne _ _ _ _ hS.2.2.1 (by decide)
  · rintro b ⟨_, _, cs, z, hB⟩; exact hne _ _ _ _ hB (by decide)

/-- who of the first k sources has the least one at hand -/
def Who (ds : List Nat) (Rs : List (List Ver)) (k : Nat) (v : Value) : Prop :=
  (v = .pointer none ∧ Pl.best (Rs.take k) = none) ∨ ∃ (j : Nat) (h : j < Rs.length) (hd : j < ds.length) (x : Ver) (r : List Ver), v = .pointer (some ⟨ds[j] + 1, 0, none⟩) ∧ Rs[j] = x :: r ∧ Pl.best (Rs.take k) = some x

theorem Who.skip {ds : List Nat} {Rs : List (List Ver)} {k : Nat} {v : Value} (h : Who ds Rs k v) (hk : k < Rs.length) (e : Rs[k] = []) : Who ds Rs (k + 1) v := by
  have hb : Pl.best (Rs.take (k + 1)) = Pl.best (Rs.take k) := by rw [Pl.best_take hk, e]; rfl
  rcases h with ⟨h1, h2⟩ | ⟨j, hj, hd, x, r, h1, h2, h3⟩
  · exact .inl ⟨h1, hb.trans h2⟩
  · exact .inr ⟨j, hj, hd, x, r, h1, h2, hb.trans h3⟩
theorem Who.first {ds : List Nat} {Rs : List (List Ver)} {k : Nat} {x : Ver} {r : List Ver} (h : Pl.best (Rs.take k) = none) (hk : k < Rs.length) (hd : k < ds.length) (e : Rs[k] = x :: r) : Who ds Rs (k + 1) (.pointer (some ⟨ds[k] + 1, 0, none⟩)) :=
  .inr ⟨k, hk, hd, x, r, rfl, e, by rw [Pl.best_take hk, e, h]; rfl⟩
theorem Who.less {ds : List Nat} {Rs : List (List Ver)} {k : Nat} {x y : Ver} {r : List Ver} (h : Pl.best (Rs.take k) = some y) (hk : k < Rs.length) (hd : k < ds.length) (e : Rs[k] = x :: r) (hl : lessV x.key x.seq y.key y.seq = true) : Who ds Rs (k + 1) (.pointer (some ⟨ds[k] + 1, 0, none⟩)) :=
  .inr ⟨k, hk, hd, x, r, rfl, e, by rw [Pl.best_take hk, e, h]; show (if _ then _ else _) = _; rw [hl]; rfl⟩
theorem Who.stays {ds : List Nat} {Rs : List (List Ver)} {k j : Nat} {x y : Ver} {r s : List Ver} (h : Pl.best (Rs.take k) = some y) (hk : k < Rs.length) (e : Rs[k] = x :: r) (hl : lessV x.key x.seq y.key y.seq = false) (hj : j < Rs.length) (hd : j < ds.length) (ej : Rs[j] = y :: s) : Who ds Rs (k + 1) (.pointer (some ⟨ds[j] + 1, 0, none⟩)) :=
  .inr ⟨j, hj, hd, y, s, rfl, ej, by rw [Pl.best_take hk, e, h]; show (if _ then _ else _) = _; rw [hl]; rfl⟩

set_option maxRecDepth 100000 in
set_option maxHeartbeats 800000 in
theorem merge1_seq (n : Nat) (hn : 3 ≤ n) (bL : Nat) (u : Value) (ls : List (List Ver)) (w : World) (hL : Boxed w bL 54 u) (hf : FunsAt w u ls) (hl : ∀ l ∈ ls, l.length ≤ 2932031007317) (hll : ls.length ≤ 2932031007317) :
    SeqK Fence.wide n Try.prog 44 #[.pointer (some ⟨bL, 0, none⟩)] (ElE Ver.v) (fun k => k < w.heap.size) (fun k => k < w.heap.size) (fun ys => ys = Pl.mergeOf ls) (fun ys => ys <+: Pl.mergeOf ls) w := by
  intro lp J Jx Wi fp hkm hd hlt hJ hJx hY h0
  have h1n : 1 ≤ n := by omega
  have hbi := keep_below hkm (Nat.le_refl _)
  have hL1 : Boxed Wi bL 54 u := (hbi.block _ hL.lt).trans hL
  obtain ⟨ao, cap, rfl, hfs⟩ := hf.below hbi
  have hLl := hL1.lt
  have hsz := hkm.size
  clear hL hf hbi
  refine callsIn_of_wp Try.func44 rfl trivial (wpIn_wide.2 ?_) rfl
  simp only [Try.ntmps44, List.size_toArray, List.length_cons, List.length_nil, Nat.reduceAdd, Nat.reduceSub, Array.replicate_succ, Array.replicate_zero, List.push_toArray, List.append_toArray, List.nil_append, List.cons_append]
  have cL := hL1.cell
  have hq : ∀ (l : Array Value) (w : World), (binOp .eql 30 (.func (.func 34) #[] l) .nilFunc).run Try.prog w = .ok (.bool false) w := fun l w => by kernel_rfl
  have hqn : ∀ (w : World), (binOp .eql 30 .nilFunc .nilFunc).run Try.prog w = .ok (.bool true) w := fun w => by kernel_rfl
  go_wp2
  go_loopw [3, 5, 6, 15] (fun v3 _ _ i wr => ∃ (k : Nat) (ds : List Nat) (Rs : List (List Ver)), k ≤ ls.length ∧ i = .int .i64 k ∧ ds.length ≤ k ∧ wr.ownsRow Wi.heap.size 83 1 v3 ds.length (ptrs ds) ∧ Srcs Wi.heap.size wr.heap.size wr ds Rs ∧ Hid (Pl.nz Rs = Pl.nz (ls.take k)) ∧ Below Wi.heap.size Wi wr) (fun _ _ _ i _ => ls.length - (intOf i).toNat)
  case atStart => exact ⟨0, [], [], by omega, rfl, by simp, World.ownsRow_nil _ _ _ _, ⟨rfl, fun i h1 _ => by simp at h1, fun i j h1 => by simp at h1⟩, Lib.hid rfl, Below.refl _ _⟩
  case round =>
    obtain ⟨k, ds, Rs, hk, rfl, hdk, hown, hsr, hnz, hb⟩ := hrel
    by_cases h1 : k < ls.length
    · obtain ⟨b, off, rfl, hbl, hc⟩ := hfs (by omega)
      obtain ⟨g, g1, g2⟩ := hc k h1
      have g1w := (hb.cell (p := ⟨b, off + k, none⟩) hbl).trans g1
      have htk := List.take_succ_eq_append_getElem h1
      have hlk := hl _ (List.getElem_mem h1)
      generalize ls[k] = l at *
      rcases g2 with ⟨rfl, rfl⟩ | ⟨r, v, rfl, hr, hv⟩
      · have hnz' : Hid (Pl.nz Rs = Pl.nz (ls.take (k + 1))) := by show _ = _; rw [htk, Pl.nz_append, hnz.out]; simp [Pl.nz]
        clear htk hc hfs hnz
        go_wp2
        go_roundw
        case rel => exact ⟨k + 1, ds, Rs, by omega, by go_num, by omega, hown, hsr, hnz', hb⟩
        case measure => simp [intOf]; omega
      · have P0 := Lib.hid (collect_row r v l wr hlk ((hb.block _ hr.lt).trans hr) (hv.below hb) (fun h0 k e => by have := vers_own hv h0 k e; have := hb.size; omega))
        have hnz' : Hid (Pl.nz (Rs ++ [l]) = Pl.nz (ls.take (k + 1))) := by show _ = _; rw [htk, Pl.nz_append, Pl.nz_append, hnz.out]
        have hlo := hb.size
        clear htk hc hfs hnz hr hv
        go_wp2_with (first
          | (go_at_call 46; go_must ((with_reducible refine P0.out.mono ?_); rintro e w1 ⟨v1, rfl, ho1, hb1⟩; have hv1 := own_vers ho1; obtain ⟨ao1, cap1, rfl, c1, c2, hr1⟩ := hv1))
          | (go_at_call 45; go_must (refine (drawn_any _ _ _ _).mono ?_; rintro e w2 ⟨rfl, rfl⟩)))
        obtain ⟨W2, hW2⟩ : ∃ W2, (w1.alloc (.cells #[.slice ao1 l.length cap1] 22)).alloc (.cells #[.func (.func 65) #[] #[.pointer (some ⟨w1.heap.size, 0, none⟩)], .string ⟨#[]⟩, .int .u64 0, .bool false, .string ⟨#[]⟩, .bool false] 88) = W2 := ⟨_, rfl⟩
        rw [hW2]
        have hb2 : Below w1.heap.size w1 W2 := by rw [← hW2]; exact ((Below.refl _ _).alloc (Nat.le_refl _) _).alloc (by simp) _
        have hz2 : W2.heap.size = w1.heap.size + 2 := by rw [← hW2]; simp
        have hd2 : Boxed W2 w1.heap.size 22 (.slice ao1 l.length cap1) := by rw [← hW2]; exact (Boxed.new _ _ _).alloc _
        have hp2 : PBlk W2 (w1.heap.size + 1) #[.func (.func 65) #[] #[.pointer (some ⟨w1.heap.size, 0, none⟩)], .string ⟨#[]⟩, .int .u64 0, .bool false, .string ⟨#[]⟩, .bool false] := by
          rw [← hW2]
          have := World.alloc_heap_new (w1.alloc (.cells #[.slice ao1 l.length cap1] 22)) (.cells #[.func (.func 65) #[] #[.pointer (some ⟨w1.heap.size, 0, none⟩)], .string ⟨#[]⟩, .int .u64 0, .bool false, .string ⟨#[]⟩, .bool false] 88)
          rwa [World.size_alloc] at this
        have ho2 : W2.ownsRow wr.heap.size 44 4 (.slice ao1 l.length cap1) l.length (vcells l) := by rw [← hW2]; exact (ho1.alloc _).alloc _
        have hR2 : Rest Wi.heap.size (w1.heap.size + 2) W2 w1.heap.size l := rest_own hlo ho2 hd2 (fun k e => by have := (ho1.lt k e).2; omega)
        have hz1 := hb1.size
        refine (goes_any Wi.heap.size (w1.heap.size + 2) w1.heap.size _ _ _ _ _ W2 l (by omega) (by omega) hp2 hR2).mono ?_
        rintro e w3 ⟨⟨u', rfl⟩, hk3, hs3⟩
        obtain ⟨hown3, hsr3, hb3, hlo3⟩ := srcs_new hlo hown hsr hb hb1 rfl hb2 hz2 hk3 hs3
        clear hW2 hb2 hz2 hd2 hp2 ho2 hR2 hk3 hs3 hown hsr hb hb1 ho1 hr1 P0 hY g1 g1w cL
        go_wp2_with (at_builtin; go_must (refine wpList_app1 (by rfl) _ _ 82 (by rfl) Wi.heap.size 83 (.pointer none) 1 8 Try.underlying82 info_src rfl (by decide) _ ds.length (ptrs ds) w3 hown3 hlo3 (by rfl) #[.pointer (some ⟨w1.heap.size + 1, 0, none⟩)] 83 (by rfl) rfl (by simp [Value.oneCell']) (by omega) (by decide) ?_; intro g0 cap0 w4 hown4 hgrow hat hg0; obtain ⟨hsr4, hb4⟩ := srcs_app hlo3 hown3 hsr3 hb3 hgrow))
        go_roundw
        case rel => exact ⟨k + 1, ds ++ [w1.heap.size], Rs ++ [l], by omega, by go_num, by simp; omega, by rw [List.length_append, List.length_singleton, ptrs_snoc]; exact hown4, hsr4, hnz', hb4⟩
        case measure => simp [intOf]; omega
    · obtain rfl : k = ls.length := by omega
      have hmo : Hid ([] ++ Pl.mergeOf Rs = Pl.mergeOf ls) := by
        show [] ++ _ = _
        rw [List.nil_append]
        refine Pl.mergeOf_nz ?_
        have := hnz.out
        rwa [List.take_length] at this
      have hAll := all_own hown (by omega)
      obtain ⟨H, hH⟩ : ∃ H, H = wr.heap.size := ⟨_, rfl⟩
      rw [← hH] at hAll hsr
      have hbs := hb.size
      obtain ⟨T, hT⟩ : ∃ T : Nat → Prop, T = fun k => k < w.heap.size := ⟨_, rfl⟩
      obtain ⟨fo, hfo⟩ : ∃ fo : Nat → Prop, fo = fun k => Wi.heap.size ≤ k ∧ k < H := ⟨_, rfl⟩
      have it0 : ItS J T Wi [] fo fp wr := by
        refine ⟨hJ _ _ _ _ h0 (Keep.of_below hb (fun k h _ => hlt k h)), Keep.of_below hb (fun k h _ => ?_), fun k h => ?_, fun k h => ?_, fun k h => ?_, fun k h h1 => ?_, fun k h h1 => ?_, fun k h h1 => hd k h1 (by rw [hT] at h; exact h)⟩
        · rw [hT] at h; omega
        · rw [hT] at h; omega
        · rw [hfo] at h; omega
        · have := hlt k h; omega
        · rw [hfo] at h; have := hlt k h1; omega
        · rw [hT] at h; rw [hfo] at h1; omega
      have hdl : ds.length ≤ 2932031007317 := by omega
      clear hfs hnz hown hb h0 hlt hkm hd cL hL1 hq hqn hl
      obtain ⟨ao3, cap3, rfl, hal, _⟩ := id hAll
      go_wp2
      refine (wpIn_wide (n := n)).1 ?_
      gi_loopg [7, 9, 10, 12] (Pl.total Rs) (fun m _ _ _ _ W => ∃ (pre : List Ver) (Rs : List (List Ver)) (fj : Nat → Prop), m = Pl.total Rs ∧ Hid (pre ++ Pl.mergeOf Rs = Pl.mergeOf ls) ∧ ItS J T Wi pre fo fj W ∧ Srcs Wi.heap.size H W ds Rs ∧ AllAt Wi.heap.size H W (.slice ao3 ds.length cap3) ds ∧ H ≤ W.heap.size ∧ ∀ k, fj k → fp k ∨ Wi.heap.size ≤ k)
      case atStart => exact ⟨[], Rs, fp, rfl, hmo, it0, hsr, hAll, by omega, fun _ h => .inl h⟩
      case round =>
        obtain ⟨pre, Rs, fj, rfl, hmo, it, hsr, hAll, hHw, hfn⟩ := hrel
        obtain ⟨W3, rfl⟩ : ∃ X : World, X = wr := ⟨_, rfl⟩
        gi_wp2
        gi_loopw [7, 9, 35] (fun v7 _ i W' => ∃ k : Nat, k ≤ ds.length ∧ i = .int .i64 k ∧ Who ds Rs k v7 ∧ Below W3.heap.size W3 W') (fun _ _ i _ => ds.length - (intOf i).toNat)
        case atStart => exact ⟨0, by omega, rfl, .inl ⟨rfl, rfl⟩, Below.refl _ _⟩
        case round =>
          obtain ⟨k, hk, rfl, hwho, hb3⟩ := hrel
          by_cases h1 : k < ds.length
          · have hk2 : k < Rs.length := by have := hsr.len; omega
            obtain ⟨_, _, e3, _, hac⟩ := hAll
            cases e3
            obtain ⟨b3, rfl, a1, a2, a3, a4, a5⟩ := hac (by omega)
            have ak := (hb3.cell (p := ⟨b3, k, none⟩) a3).trans (a5 k h1)
            obtain ⟨_, s2, s3, _⟩ := hsr.src k h1 hk2
            replace s3 : PBlk wr (ds[k] + 1) (srcHead ds[k] Rs[k]) := (hb3.block _ s3.lt).trans s3
            clear hac a4 a5
            cases hR : Rs[k] with
            | nil =>
              rw [hR] at s3
              have w1 := Lib.hid (hwho.skip hk2 hR)
              have c5 := s3.cell 5
              simp [srcHead] at c5
              clear hR hsr it hY hmo
              gi_wp2
              refine wpIn_wide.2 ?_
              go_quiet (fail)
              gi_wp2
              go_roundw
              case rel => exact ⟨k + 1, by omega, by go_num, w1.out, below_drewN hb3 nq⟩
              case measure => simp [intOf]; omega
            | cons x r =>
              rw [hR] at s3
              have c1 := s3.cell 1
              have c2 := s3.cell 2
              have c3 := s3.cell 3
              have c4 := s3.cell 4
              have c5 := s3.cell 5
              simp [srcHead] at c1 c2 c3 c4 c5
              rcases hwho with ⟨rfl, hn⟩ | ⟨j, hj, hjd, y, q, rfl, ej, hbst⟩
              · have w2 := Lib.hid (Who.first hn hk2 h1 hR)
                clear hn hR hsr it hY hmo s3
                gi_wp2
                refine wpIn_wide.2 ?_
                go_quiet (fail)
                gi_wp2
                go_roundw
                case rel => exact ⟨k + 1, by omega, by go_num, w2.out, below_drewN hb3 nq⟩
                case measure => simp [intOf]; omega
              · obtain ⟨_, _, sj, _⟩ := hsr.src j hjd hj
                replace sj : PBlk wr (ds[j] + 1) (srcHead ds[j] Rs[j]) := (hb3.block _ sj.lt).trans sj
                rw [ej] at sj
                have b1 := sj.cell 1
                have b2 := sj.cell 2
                have b3' := sj.cell 3
                have b4 := sj.cell 4
                simp [srcHead] at b1 b2 b3' b4
                have P := Lib.hid (fun W => less_any x y W)
                have hpk := s3.lt
                have hpj := sj.lt
                have hkp0 : Hid (∀ w1 : World, Below wr.drew.heap.size wr.drew w1 → w1.cell? ⟨ds[k] + 1, 1, none⟩ = some (.string x.key) ∧ w1.cell? ⟨ds[k] + 1, 2, none⟩ = some (.int .u64 (x.seq : Int)) ∧ w1.cell? ⟨ds[k] + 1, 3, none⟩ = some (.bool x.del) ∧ w1.cell? ⟨ds[k] + 1, 4, none⟩ = some (.string x.val) ∧ w1.cell? ⟨ds[k] + 1, 5, none⟩ = some (.bool true) ∧ w1.cell? ⟨ds[j] + 1, 1, none⟩ = some (.string y.key) ∧ w1.cell? ⟨ds[j] + 1, 2, none⟩ = some (.int .u64 (y.seq : Int)) ∧ w1.cell? ⟨ds[j] + 1, 3, none⟩ = some (.bool y.del) ∧ w1.cell? ⟨ds[j] + 1, 4, none⟩ = some (.string y.val)) := Lib.hid (fun w1 hbl => ⟨(hbl.cell (p := ⟨ds[k] + 1, 1, none⟩) hpk).trans c1, (hbl.cell (p := ⟨ds[k] + 1, 2, none⟩) hpk).trans c2, (hbl.cell (p := ⟨ds[k] + 1, 3, none⟩) hpk).trans c3, (hbl.cell (p := ⟨ds[k] + 1, 4, none⟩) hpk).trans c4, (hbl.cell (p := ⟨ds[k] + 1, 5, none⟩) hpk).trans c5, (hbl.cell (p := ⟨ds[j] + 1, 1, none⟩) hpj).trans b1, (hbl.cell (p := ⟨ds[j] + 1, 2, none⟩) hpj).trans b2, (hbl.cell (p := ⟨ds[j] + 1, 3, none⟩) hpj).trans b3', (hbl.cell (p := ⟨ds[j] + 1, 4, none⟩) hpj).trans b4⟩)
                cases hle : lessV x.key x.seq y.key y.seq
                · have w2 := Lib.hid (Who.stays hbst hk2 hR hle hj hjd ej)
                  rw [hle] at P
                  clear hbst hR hsr it hY hmo s3 sj ej hle
                  gi_wp2
                  refine wpIn_wide.2 ?_
                  go_region_held3 (fun w' => w'.cell? ⟨ds[k] + 1, 1, none⟩ = some (.string x.key) ∧ w'.cell? ⟨ds[k] + 1, 2, none⟩ = some (.int .u64 (x.seq : Int)) ∧ w'.cell? ⟨ds[k] + 1, 3, none⟩ = some (.bool x.del) ∧ w'.cell? ⟨ds[k] + 1, 4, none⟩ = some (.string x.val) ∧ w'.cell? ⟨ds[k] + 1, 5, none⟩ = some (.bool true) ∧ w'.cell? ⟨ds[j] + 1, 1, none⟩ = some (.string y.key) ∧ w'.cell? ⟨ds[j] + 1, 2, none⟩ = some (.int .u64 (y.seq : Int)) ∧ w'.cell? ⟨ds[j] + 1, 3, none⟩ = some (.bool y.del) ∧ w'.cell? ⟨ds[j] + 1, 4, none⟩ = some (.string y.val)) (first | exact ⟨c1, c2, c3, c4, c5, b1, b2, b3', b4⟩ | exact hkp | go_keep)
                    (first | (go_at_call 48; (with_reducible refine (P.out _).mono ?_); rintro e w1 ⟨rfl, hbl⟩; have hkp := hkp0.out w1 hbl))
                  all_goals
                    gi_wp2
                    go_roundw
                    case rel => exact ⟨k + 1, by omega, by go_num, w2.out, below_seq hb3.drew hbl⟩
                    case measure => simp [intOf]; omega
                · have w2 := Lib.hid (Who.less hbst hk2 h1 hR hle)
                  rw [hle] at P
                  clear hbst hR hsr it hY hmo s3 sj ej hle
                  gi_wp2
                  refine wpIn_wide.2 ?_
                  go_region_held3 (fun w' => w'.cell? ⟨ds[k] + 1, 1, none⟩ = some (.string x.key) ∧ w'.cell? ⟨ds[k] + 1, 2, none⟩ = some (.int .u64 (x.seq : Int)) ∧ w'.cell? ⟨ds[k] + 1, 3, none⟩ = some (.bool x.del) ∧ w'.cell? ⟨ds[k] + 1, 4, none⟩ = some (.string x.val) ∧ w'.cell? ⟨ds[k] + 1, 5, none⟩ = some (.bool true) ∧ w'.cell? ⟨ds[j] + 1, 1, none⟩ = some (.string y.key) ∧ w'.cell? ⟨ds[j] + 1, 2, none⟩ = some (.int .u64 (y.seq : Int)) ∧ w'.cell? ⟨ds[j] + 1, 3, none⟩ = some (.bool y.del) ∧ w'.cell? ⟨ds[j] + 1, 4, none⟩ = some (.string y.val)) (first | exact ⟨c1, c2, c3, c4, c5, b1, b2, b3', b4⟩ | exact hkp | go_keep)
                    (first | (go_at_call 48; (with_reducible refine (P.out _).mono ?_); rintro e w1 ⟨rfl, hbl⟩; have hkp := hkp0.out w1 hbl))
                  all_goals
                    gi_wp2
                    go_roundw
                    case rel => exact ⟨k + 1, by omega, by go_num, w2.out, below_seq hb3.drew hbl⟩
                    case measure => simp [intOf]; omega
          · obtain rfl : k = ds.length := by omega
            have hlen := hsr.len
            have it1 := it.abide hJ (Keep.of_below hb3 (fun k _ h => h))
            have hsr1 := hsr.kept (f := fun _ => True) (Keep.of_below hb3 (fun _ _ h => h)) (fun _ _ _ => trivial) hHw
            have hAll1 := hAll.kept hb3.size (fun b _ h _ => hb3.block b (by omega))
            have hHw1 : H ≤ wr.heap.size := by have := hb3.size; omega
            clear it hsr hAll hb3
            have hT2 : Rs.take ds.length = Rs := by rw [hlen, List.take_length]
            unfold Who at hwho
            rw [hT2] at hwho
            clear hT2 hlen
            have hTk := it1.keep
            rw [hT] at hTk
            rcases hwho with ⟨rfl, hn⟩ | ⟨j, hj, hjd, x, r, rfl, ej, hbst⟩
            · have hmo' := hmo.out
              rw [Pl.mergeOf_none hn, List.append_nil] at hmo'
              replace hmo' := Lib.hid hmo'
              clear hY hmo
              gi_wp2
              refine ⟨fun _ h => (by cases h), ?_⟩
              gi_wp2
              first
                | (go_end0; exact SeqEnd.all hTk hfn it1.jlt _ hmo'.out it1.j)
                | exact bodyPost_ret (results_none rfl _ _ _) rfl (SeqEnd.all hTk hfn it1.jlt _ hmo'.out it1.j)
                | (trace_state; fail)
            · have hmo' := hmo.out
              rw [Pl.mergeOf_some hbst] at hmo'
              have hp1 : pre ++ [x] <+: Pl.mergeOf ls := ⟨Pl.mergeOf (Pl.pop x Rs), by rw [← hmo']; simp⟩
              replace hmo' := Lib.hid hmo'
              have htot := Pl.total_best hbst
              obtain ⟨_, _, sj, _⟩ := hsr1.src j hjd hj
              rw [ej] at sj
              have b1 := sj.cell 1
              have b2 := sj.cell 2
              have b3 := sj.cell 3
              have b4 := sj.cell 4
              simp [srcHead] at b1 b2 b3 b4
              obtain ⟨fn, tmps, assign, body, hy, hRd⟩ := hY pre x _ (fun _ => False) fj wr it1.j it1.jlt ⟨rfl, fun _ h => h⟩ (fun _ h => h.elim) hTk hp1
              unfold Ver.v at hy
              clear hY hmo hbst sj
              gi_wp2
              refine hRd.mono ?_
              rintro e W5 (⟨rfl, fj3, hJ3, st3⟩ | ⟨rfl, fj3, hJ3, st3⟩)
              · clear hy
                replace st3 := st3.bare
                obtain ⟨it5, k5, st6⟩ := it1.yieldV st3 hJ3
                have hsr5 := hsr1.kept k5 (fun k g1 g2 => by rw [hfo]; exact ⟨g1, g2⟩) hHw1
                have hAll5 := hAll1.kept k5.size (fun b g1 g2 ⟨cs, z, g3⟩ => k5.block b (by rw [hfo]; exact ⟨g1, g2⟩) (by omega))
                have hn5 : ∀ k, fj3 k → fp k ∨ Wi.heap.size ≤ k := fun k h => by
                  rcases st3.new k h with h | h
                  · exact hfn k h
                  · right; omega
                have hHw5 : H ≤ W5.heap.size := by have := k5.size; omega
                obtain ⟨_, _, sj, _⟩ := hsr5.src j hjd hj
                rw [ej] at sj
                have d1 := sj.cell 1
                have d2 := sj.cell 2
                have d3 := sj.cell 3
                have d4 := sj.cell 4
                simp [srcHead] at d1 d2 d3 d4
                have v6 : VrAt W5.heap.size x.key (x.seq : Int) x.del x.val (W5.alloc (.cells #[.string x.key, .int .u64 (x.seq : Int), .bool x.del, .string x.val] 44)) := VrAt.new _ _ _ _ _ _
                obtain ⟨W6, hW6⟩ : ∃ W6, W5.alloc (.cells #[.string x.key, .int .u64 (x.seq : Int), .bool x.del, .string x.val] 44) = W6 := ⟨_, rfl⟩
                have hk6 : ∀ f : Nat → Prop, Keep f W5 W6 := fun f => by rw [← hW6]; exact (Keep.refl f W5).alloc _
                rw [hW6] at v6
                have hsr6 := hsr5.kept (hk6 (fun _ => True)) (fun _ _ _ => trivial) hHw5
                have hAll6 := hAll5.kept (hk6 (fun _ => True)).size (fun b _ g2 _ => (hk6 (fun _ => True)).block b trivial (by omega))
                have it6 := it5.abide hJ (hk6 _)
                have hHw6 : H ≤ W6.heap.size := by have := (hk6 (fun _ => True)).size; omega
                have hB10 : ¬ fo W5.heap.size := by rw [hfo]; omega
                clear it1 it5 st3 st6 k5 hsr5 hAll5 hsr1 hAll1 sj hTk hfn
                gi_wp2
                gi_loopw [12, 77] (fun _ i W' => ∃ k : Nat, k ≤ ds.length ∧ i = .int .i64 k ∧ Srcs Wi.heap.size H W' ds (Pl.popN x Rs k) ∧ Keep (fun k => k < W6.heap.size ∧ ¬ fo k) W6 W' ∧ AllAt Wi.heap.size H W' (.slice ao3 ds.length cap3) ds) (fun _ i _ => ds.length - (intOf i).toNat)
                case atStart => exact ⟨0, by omega, rfl, by rw [Pl.popN_zero]; exact hsr6, Keep.refl _ _, hAll6⟩
                case round =>
                  obtain ⟨k, hk, rfl, hsr7, hk7, hAll7⟩ := hrel
                  have v7 := v6.keep hk7 ⟨v6.2.2.2.2, hB10⟩
                  obtain ⟨y0, y1, y2, y3, yB⟩ := v7
                  have hHw7 : H ≤ wr.heap.size := by have := hk7.size; omega
                  have hlen7 := hsr6.len
                  by_cases h1 : k < ds.length
                  · have hk2 : k < Rs.length := by omega
                    have hkp : k < (Pl.popN x Rs k).length := by rw [Pl.popN_length]; exact hk2
                    obtain ⟨_, _, e3, _, hac⟩ := id hAll7
                    cases e3
                    obtain ⟨b3, rfl, a1, a2, a3, a4, a5⟩ := hac (by omega)
                    have ak := a5 k h1
                    have hs := hsr7.src k h1 hkp
                    rw [Pl.popN_at hk2] at hs
                    have hnx := Pl.popN_set (v := x) hk2
                    have hns := Pl.popN_skip (v := x) hk2
                    replace hlen7 := Lib.hid hlen7
                    clear hac a4 a5 hAll6
                    cases hR : Rs[k] with
                    | nil =>
                      rw [hR] at hs hns
                      have hnx' := Lib.hid (hns rfl)
                      have c5 := hs.2.2.1.cell 5
                      simp [srcHead] at c5
                      have e1 := 0
                      clear e1 hR hs
                      gi_wp2
                      refine wpIn_wide.2 ?_
                      go_quiet (fail)
                      gi_wp2
                      go_roundw
                      case rel => exact ⟨k + 1, by omega, by go_num, by rw [hnx'.out]; exact hsr7.kept ((Keep.refl (fun _ => True) wr).drewN nq) (fun _ _ _ => trivial) hHw7, hk7.drewN nq, hAll7.kept (Nat.le_refl _) (fun _ _ _ _ => rfl)⟩
                      case measure => simp [intOf]; omega
                    | cons z r' =>
                      rw [hR] at hs hns hnx
                      have c1 := hs.2.2.1.cell 1
                      have c2 := hs.2.2.1.cell 2
                      have c5 := hs.2.2.1.cell 5
                      simp [srcHead] at c1 c2 c5
                      cases e1 : z.key.toList == x.key.toList
                      · have hnx' := Lib.hid (hns (Pl.pop1_no (by unfold placeV; rw [e1]; rfl)))
                        clear hns hnx
                        clear hR hs
                        gi_wp2
                        refine wpIn_wide.2 ?_
                        go_quiet (fail)
                        gi_wp2
                        go_roundw
                        case rel => exact ⟨k + 1, by omega, by go_num, by rw [hnx'.out]; exact hsr7.kept ((Keep.refl (fun _ => True) wr).drewN nq) (fun _ _ _ => trivial) hHw7, hk7.drewN nq, hAll7.kept (Nat.le_refl _) (fun _ _ _ _ => rfl)⟩
                        case measure => simp [intOf]; omega
                      · by_cases e2 : z.seq = x.seq
                        · have hse : ((z.seq : Int) == (x.seq : Int)) = true := by simp; omega
                          rw [Pl.pop1_yes (by unfold placeV; rw [e1, show (z.seq == x.seq) = true from by simpa using e2]; rfl)] at hnx
                          have hnx' := Lib.hid hnx
                          have hdr : ∀ q, Keep (fun _ => True) wr (wr.drewN q) := fun q => (Keep.refl _ wr).drewN q
                          have htl : Hid ((Pl.popN x Rs k)[k].tail = r') := by show _ = _; rw [Pl.popN_at hk2, hR]; rfl
                          have P := Lib.hid (fun q => goes_any Wi.heap.size H ds[k] _ _ _ _ _ (wr.drewN q) r' hs.1 hs.2.1 (show PBlk (wr.drewN q) (ds[k] + 1) #[.func (.func 65) #[] #[.pointer (some ⟨ds[k], 0, none⟩)], .string z.key, .int .u64 (z.seq : Int), .bool z.del, .string z.val, .bool true] from hs.2.2.1) (hs.2.2.2.kept (hdr q).size rfl (fun _ _ => rfl)))
                          have hsH := Lib.hid hs
                          clear hns hnx hR hs
                          gi_wp2
                          refine wpIn_wide.2 ?_
                          go_quiet (fail)
                          gi_wp2
                          refine ⟨trivial, (callsIn_wide.2 (P.out _)).mono ?_⟩
                          rintro e w8 ⟨⟨u8, rfl⟩, hk8, hs8⟩
                          gi_wp2
                          have hs := hsH.out
                          have hsr8 := (hsr7.kept (hdr nq) (fun _ _ _ => trivial) hHw7).goes hHw7 k h1 hkp hk8 (by rw [htl.out]; exact hs8)
                          rw [htl.out] at hsr8
                          obtain ⟨_, _, hbd, _⟩ := hs.2.2.2
                          have hbp := hs.2.2.1
                          have hkz := hk8.size
                          have hAll8 := hAll7.kept hkz (fun b g1 g2 ⟨cs, q, g3⟩ => hk8.block b ⟨typed_ne g3 hbp (by decide), typed_ne g3 hbd (by decide)⟩ (Nat.lt_of_lt_of_le g2 hHw7))
                          have hlo := hs.1
                          have hhi := hs.2.1
                          have hk9 : Keep (fun k => k < W6.heap.size ∧ ¬ fo k) W6 w8 := (hk7.drewN nq).trans hk8 (fun i hi _ => ⟨fun e => hi.2 (by rw [hfo, e]; omega), fun e => hi.2 (by rw [hfo, e]; omega)⟩)
                          go_roundw
                          case rel => exact ⟨k + 1, by omega, by go_num, by rw [hnx'.out]; exact hsr8, hk9, hAll8⟩
                          case measure => simp [intOf]; omega
                        · have hse : ((z.seq : Int) == (x.seq : Int)) = false := by simp; omega
                          have hnx' := Lib.hid (hns (Pl.pop1_no (by unfold placeV; rw [e1, show (z.seq == x.seq) = false from by simpa using e2]; rfl)))
                          clear hns hnx
                          clear hR hs
                          gi_wp2
                          refine wpIn_wide.2 ?_
                          go_quiet (fail)
                          gi_wp2
                          go_roundw
                          case rel => exact ⟨k + 1, by omega, by go_num, by rw [hnx'.out]; exact hsr7.kept ((Keep.refl (fun _ => True) wr).drewN nq) (fun _ _ _ => trivial) hHw7, hk7.drewN nq, hAll7.kept (Nat.le_refl _) (fun _ _ _ _ => rfl)⟩
                          case measure => simp [intOf]; omega
                  · have hkd : k = ds.length := by omega
                    rw [hkd, hlen7, Pl.popN_all] at hsr7
                    obtain ⟨it8, _⟩ := it6.step hJ (fo' := fo) (W' := wr) ⟨hk7.mono (fun i hi hl => ⟨hl, hi⟩), fun _ h => .inl h, fun i hi => by rw [hfo] at hi; omega⟩
                    have hmo8 : Hid ((pre ++ [x]) ++ Pl.mergeOf (Pl.pop x Rs) = Pl.mergeOf ls) := by show _ = _; rw [← hmo'.out]; simp
                    clear it6 hsr6 hAll6 hk7 hmo' ej
                    replace hlen7 := Lib.hid hlen7
                    gi_wp2
                    gi_roundg (Pl.total (Pl.pop x Rs))
                    case rel => exact ⟨pre ++ [x], Pl.pop x Rs, fj3, rfl, hmo8, it8, hsr7, hAll7, hHw7, hn5⟩
                    case measure => exact htot
              · clear hy
                replace st3 := st3.bare
                obtain ⟨it5, k5, st6⟩ := it1.yieldV st3 hJ3
                have hTk5 := it5.keep
                rw [hT] at hTk5
                have hn5 : ∀ k, fj3 k → fp k ∨ Wi.heap.size ≤ k := fun k h => by
                  rcases st3.new k h with h | h
                  · exact hfn k h
                  · right; omega
                clear it1 st6 k5 hsr1 hAll1 hfn
                gi_wp2
                first
                  | (go_end0; exact SeqEnd.part hTk5 hn5 st3.lt _ hp1 hJ3)
                  | exact bodyPost_ret (results_none rfl _ _ _) rfl (SeqEnd.part hTk5 hn5 st3.lt _ hp1 hJ3)
                  | (trace_state; fail)
end Go.Proofs.Ytiogjebekadmcaa
