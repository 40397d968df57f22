
/- Walks: merge's sources: made and drawn from. Condition: rows whose bytes fit. -/
import Derived.Test.YtiogjebekadmcaaWCollect
import Derived.Deep.MidRow
namespace Go.Proofs.Ytiogjebekadmcaa
open Go.RowKit Go.Shelf

set_option maxRecDepth 100000 in
set_option maxHeartbeats 800000 in
theorem collect_row (r : Nat) (v : Value) (l : List Ver) (W : World) (hl : l.length ≤ 2932031007317) (hR : Boxed W r 22 v) (hv : VersAt W v l) (hb : 0 < l.length → ∀ k, v.ownBlock = some k → k < W.heap.size) :
    Calls Try.prog 46 #[.func (.func 34) #[] #[.pointer (some ⟨r, 0, none⟩)]] W fun e w' => ∃ v', e = .returned v' ∧ w'.ownsRow W.heap.size 44 4 v' l.length (vcells l) ∧ Below W.heap.size W w' := by
  have hrl := hR.lt
  have P := Lib.hid (callsIn_wide.1 (appendSeq_in 9 (by omega) 34 #[.pointer (some ⟨r, 0, none⟩)] W (fun k => k < W.heap.size) l l.length (fun _ h => h) (by omega) (enters_of Try.func34 (by kernel_rfl) rfl) (fun W' hk => by
    have hv' : VersAt W' v l := by
      obtain ⟨ao, cap, rfl, c1, c2, h⟩ := hv
      refine ⟨ao, cap, rfl, c1, c2, fun hp => ?_⟩
      obtain ⟨b, off, rfl, hr⟩ := h hp
      exact ⟨b, off, rfl, hr.kept hk.size (hk.block b hr.1 hr.1)⟩
    exact row1_seq 8 (by omega) r v l W' (fun k => k < W.heap.size) (by omega) (hk.boxed hrl hR) hv' hrl hb)))
  clear hv hR hb
  go_enter Try.func46, Try.ntmps46
  go_wp2_with (go_at_call 66; go_must ((with_reducible refine P.out.mono ?_); rintro e w1 ⟨v1, rfl, h1, h2⟩))
  go_ret
  exact ⟨_, rfl, h1, h2⟩

theorem drawn_any (ao : Option Addr) (len cap : Nat) (w : World) :
    Calls Try.prog 45 #[.slice ao len cap] w fun e w' => e = .returned (.func (.func 65) #[] #[.pointer (some ⟨w.heap.size, 0, none⟩)]) ∧ w' = w.alloc (.cells #[.slice ao len cap] 22) := by
  go_enter Try.func45, Try.ntmps45
  go_wp2
  go_ret
  exact ⟨rfl, rfl⟩

theorem heap_set {W : World} {b : Nat} {cs : Array Value} {t : TypeId} (h : W.heap[b]? = some (.cells cs t (0, 0))) (k : Nat) (v : Value) : (W.setCell ⟨b, k, none⟩ v).heap[b]? = some (.cells (cs.setIfInBounds k v) t (0, 0)) := by
  obtain ⟨hlt, hk⟩ := Array.getElem?_eq_some_iff.1 h
  show (W.heap.modify b _)[b]? = _
  rw [Array.getElem?_eq_getElem (by rw [Array.size_modify]; exact hlt), Array.getElem_modify_self, hk]
  simp
theorem heap_set4 (W : World) (b : Nat) (u0 u1 u2 u3 : Value) (k : Nat) (h : k ≠ b) : ((((W.setCell ⟨b, 0, none⟩ u0).setCell ⟨b, 1, none⟩ u1).setCell ⟨b, 2, none⟩ u2).setCell ⟨b, 3, none⟩ u3).heap[k]? = W.heap[k]? :=
  (Below.heap_setCell _ _ _ k h).trans ((Below.heap_setCell _ _ _ k h).trans ((Below.heap_setCell _ _ _ k h).trans (Below.heap_setCell _ _ _ k h)))
/-- a block of cells, known whole -/
def PBlk (W : World) (p : Nat) (cs : Array Value) : Prop := W.heap[p]? = some (.cells cs 88 (0, 0))
theorem PBlk.lt {W : World} {p : Nat} {cs : Array Value} (h : PBlk W p cs) : p < W.heap.size := (Array.getElem?_eq_some_iff.1 h).1
theorem PBlk.cell {W : World} {p : Nat} {cs : Array Value} (h : PBlk W p cs) (k : Nat) : W.cell? ⟨p, k, none⟩ = cs[k]? := by simp [World.cell?, show W.heap[p]? = _ from h]
theorem PBlk.frozen {W : World} {p : Nat} {cs : Array Value} (h : PBlk W p cs) (k : Nat) : W.frozen? ⟨p, k, none⟩ = false := by simp [World.frozen?, show W.heap[p]? = _ from h]

theorem ver_loadVar {B : Nat} {k : ByteArray} {q : Int} {dl : Bool} {v : ByteArray} {W : World} (h : VrAt B k q dl v W) : (loadVar 44 ⟨B, 0, none⟩).run Try.prog W = .ok (.agg #[.string k, .int .u64 q, .bool dl, .string v]) W :=
  run_loadVar_mid (P := Try.prog) W B 0 44 [.string k, .int .u64 q, .bool dl, .string v] _ (fun j u hj => by
    rcases j with _ | _ | _ | _ | j
    · obtain rfl : Value.string k = u := by simpa using hj
      exact h.1
    · obtain rfl : Value.int .u64 q = u := by simpa using hj
      exact h.2.1
    · obtain rfl : Value.bool dl = u := by simpa using hj
      exact h.2.2.1
    · obtain rfl : Value.string v = u := by simpa using hj
      exact h.2.2.2.1
    · simp at hj) Try.underlying44 rfl (by kernel_rfl)
theorem results_ver {fn : Func} {p u : Tmp} (h : fn.results = #[.cell p 44, .tmp u]) {tmps : Array Value} {B : Nat} {k : ByteArray} {q : Int} {dl : Bool} {v : ByteArray} {w : World} (hp : tmps.getD p undef = .pointer (some ⟨B, 0, none⟩)) (hf : VrAt B k q dl v w) :
    (results fn tmps).run Try.prog w = .ok (.tuple #[.agg #[.string k, .int .u64 q, .bool dl, .string v], tmps.getD u undef]) w := by
  have hp' : tmps[p]?.getD undef = .pointer (some ⟨B, 0, none⟩) := by simpa using hp
  simp [results, h, hp', asAddr, ver_loadVar hf, Result.andThen]

set_option maxRecDepth 100000 in
set_option maxHeartbeats 800000 in
theorem drawn1_none (d : Nat) (ao : Option Addr) (cap : Nat) (W : World) (hd : Boxed W d 22 (.slice ao 0 cap)) :
    Calls Try.prog 65 #[.pointer (some ⟨d, 0, none⟩)] W fun e w' => e = .returned (.tuple #[.agg #[.string .empty, .int .u64 0, .bool false, .string .empty], .bool false]) ∧ Below W.heap.size W w' := by
  have cd := (hd.alloc (.cells #[.string ⟨#[]⟩, .int .u64 0, .bool false, .string ⟨#[]⟩] 44)).cell
  have v0 := VrAt.new W ⟨#[]⟩ 0 false ⟨#[]⟩ 44
  have hb0 : Below W.heap.size W (W.alloc (.cells #[.string ⟨#[]⟩, .int .u64 0, .bool false, .string ⟨#[]⟩] 44)) := (Below.refl _ W).alloc (Nat.le_refl _) _
  go_enter Try.func65, Try.ntmps65
  go_wp2
  exact bodyPost_ret (results_ver rfl rfl v0) rfl ⟨rfl, hb0⟩

/-- a version's block, known whole -/
def VBlk (W : World) (b : Nat) (k : ByteArray) (q : Int) (dl : Bool) (v : ByteArray) : Prop := W.heap[b]? = some (.cells #[.string k, .int .u64 q, .bool dl, .string v] 44 (0, 0))
theorem VBlk.lt {W : World} {b : Nat} {k : ByteArray} {q : Int} {dl : Bool} {v : ByteArray} (h : VBlk W b k q dl v) : b < W.heap.size := (Array.getElem?_eq_some_iff.1 h).1
theorem VBlk.cell {W : World} {b : Nat} {k : ByteArray} {q : Int} {dl : Bool} {v : ByteArray} (h : VBlk W b k q dl v) (j : Nat) : W.cell? ⟨b, j, none⟩ = (#[.string k, .int .u64 q, .bool dl, .string v] : Array Value)[j]? := by simp [World.cell?, show W.heap[b]? = _ from h]
theorem VBlk.frozen {W : World} {b : Nat} {k : ByteArray} {q : Int} {dl : Bool} {v : ByteArray} (h : VBlk W b k q dl v) (j : Nat) : W.frozen? ⟨b, j, none⟩ = false := by simp [World.frozen?, show W.heap[b]? = _ from h]

theorem VBlk.at {W : World} {b : Nat} {k : ByteArray} {q : Int} {dl : Bool} {v : ByteArray} (h : VBlk W b k q dl v) : VrAt b k q dl v W := ⟨h.cell 0, h.cell 1, h.cell 2, h.cell 3, h.lt⟩
/-- a version laid over another one -/
theorem VBlk.over {W : World} {b : Nat} {k k' : ByteArray} {q q' : Int} {dl dl' : Bool} {v v' : ByteArray} (h : VBlk W b k q dl v) :
    VBlk ((((W.setCell ⟨b, 0, none⟩ (.string k')).setCell ⟨b, 1, none⟩ (.int .u64 q')).setCell ⟨b, 2, none⟩ (.bool dl')).setCell ⟨b, 3, none⟩ (.string v')) b k' q' dl' v' :=
  heap_set (heap_set (heap_set (heap_set h 0 _) 1 _) 2 _) 3 _

set_option maxRecDepth 100000 in
set_option maxHeartbeats 800000 in
theorem drawn1_some (d b off : Nat) (x : Ver) (q : List Ver) (cap : Nat) (W : World) (hd : Boxed W d 22 (.slice (some ⟨b, off, none⟩) (q.length + 1) cap)) (hc : q.length + 1 ≤ cap) (hc2 : cap ≤ 9223372036854775807) (hr : RowIn W b off (x :: q)) :
    Calls Try.prog 65 #[.pointer (some ⟨d, 0, none⟩)] W fun e w' => e = .returned (.tuple #[x.v, .bool true]) ∧ ∃ off' cap', Boxed w' d 22 (.slice (some ⟨b, off', none⟩) q.length cap') ∧ q.length ≤ cap' ∧ cap' ≤ 9223372036854775807 ∧ (0 < q.length → off' = off + 4) ∧ Keep (fun k => k ≠ d) W w' := by
  have hd1 := hd.alloc (.cells #[.string ⟨#[]⟩, .int .u64 0, .bool false, .string ⟨#[]⟩] 44)
  have hd2 := hd1.alloc (.cells #[.string x.key, .int .u64 (x.seq : Int), .bool x.del, .string x.val] 44)
  have cd := hd1.cell
  have cd2 := hd2.cell
  have fd2 := hd2.frozen
  have hdl := hd.lt
  have hrb := (hr.below ((Below.refl _ W).alloc (Nat.le_refl _) (.cells #[.string ⟨#[]⟩, .int .u64 0, .bool false, .string ⟨#[]⟩] 44))).2 0 (by simp)
  obtain ⟨x0, x1, x2, x3⟩ := hrb
  simp only [List.getElem_cons_zero, Nat.zero_mul, Nat.add_zero] at x0 x1 x2 x3
  have b0 : VBlk ((W.alloc (.cells #[.string ⟨#[]⟩, .int .u64 0, .bool false, .string ⟨#[]⟩] 44)).alloc (.cells #[.string x.key, .int .u64 (x.seq : Int), .bool x.del, .string x.val] 44)) W.heap.size ⟨#[]⟩ 0 false ⟨#[]⟩ :=
    (((Below.refl _ _).alloc (Nat.le_refl _) _).block W.heap.size (by simp)).trans (World.alloc_heap_new W _)
  have b1 : VBlk ((W.alloc (.cells #[.string ⟨#[]⟩, .int .u64 0, .bool false, .string ⟨#[]⟩] 44)).alloc (.cells #[.string x.key, .int .u64 (x.seq : Int), .bool x.del, .string x.val] 44)) (W.heap.size + 1) x.key (x.seq : Int) x.del x.val := by
    have := World.alloc_heap_new (W.alloc (.cells #[.string ⟨#[]⟩, .int .u64 0, .bool false, .string ⟨#[]⟩] 44)) (.cells #[.string x.key, .int .u64 (x.seq : Int), .bool x.del, .string x.val] 44)
    rwa [World.size_alloc] at this
  have hk : Keep (fun k => k ≠ d) W ((W.alloc (.cells #[.string ⟨#[]⟩, .int .u64 0, .bool false, .string ⟨#[]⟩] 44)).alloc (.cells #[.string x.key, .int .u64 (x.seq : Int), .bool x.del, .string x.val] 44)) := ((Keep.refl _ W).alloc _).alloc _
  generalize hWW : ((W.alloc (.cells #[.string ⟨#[]⟩, .int .u64 0, .bool false, .string ⟨#[]⟩] 44)).alloc (.cells #[.string x.key, .int .u64 (x.seq : Int), .bool x.del, .string x.val] 44)) = WW at hd2 cd2 fd2 b0 b1 hk
  have main : ∀ sl, Hid (VBlk (WW.setCell ⟨d, 0, none⟩ sl) W.heap.size ⟨#[]⟩ 0 false ⟨#[]⟩ ∧ VBlk (WW.setCell ⟨d, 0, none⟩ sl) (W.heap.size + 1) x.key (x.seq : Int) x.del x.val ∧ Boxed (WW.setCell ⟨d, 0, none⟩ sl) d 22 sl ∧ Keep (fun k => k ≠ d) W (WW.setCell ⟨d, 0, none⟩ sl)) := fun sl =>
    Lib.hid ⟨(Below.heap_setCell _ _ _ _ (show W.heap.size ≠ d by omega)).trans b0, (Below.heap_setCell _ _ _ _ (show W.heap.size + 1 ≠ d by omega)).trans b1, hd2.set sl, hk.setCell _ _ _ (fun h _ => h rfl)⟩
  clear b0 b1 hk hd1 hr
  by_cases h1 : cap = 1
  · subst h1
    obtain rfl : q = [] := List.eq_nil_of_length_eq_zero (by omega)
    simp only [List.length_nil, Nat.zero_add] at *
    obtain ⟨m0, m1, m2, m3⟩ := (main (.slice (some ⟨b, off, none⟩) 0 0)).out
    obtain ⟨WS, hWS⟩ : ∃ WS, WW.setCell ⟨d, 0, none⟩ (.slice (some ⟨b, off, none⟩) 0 0) = WS := ⟨_, rfl⟩
    rw [hWS] at m0 m1 m2 m3
    have y0 := m1.cell 0
    have y1 := m1.cell 1
    have y2 := m1.cell 2
    have y3 := m1.cell 3
    have z0 := m0.frozen 0
    have z1 := m0.frozen 1
    have z2 := m0.frozen 2
    have z3 := m0.frozen 3
    have r0 := m0.cell 0
    have r1 := m0.cell 1
    have r2 := m0.cell 2
    have r3 := m0.cell 3
    simp at y0 y1 y2 y3 r0 r1 r2 r3
    go_enter Try.func65, Try.ntmps65
    go_wp2
    refine bodyPost_ret (results_ver rfl rfl (m0.over (k' := x.key) (q' := (x.seq : Int)) (dl' := x.del) (v' := x.val)).at) rfl ⟨ret_val rfl, off, 0, ?_, by simp, by omega, by simp, ?_⟩
    · exact (heap_set4 _ _ _ _ _ _ d (by omega)).trans m2
    · exact (((m3.setCell _ _ _ (fun _ h => by omega)).setCell _ _ _ (fun _ h => by omega)).setCell _ _ _ (fun _ h => by omega)).setCell _ _ _ (fun _ h => by omega)
  · have hc3 : 2 ≤ cap := by omega
    obtain ⟨m0, m1, m2, m3⟩ := (main (.slice (some ⟨b, off + 4, none⟩) q.length (cap - 1))).out
    obtain ⟨WS, hWS⟩ : ∃ WS, WW.setCell ⟨d, 0, none⟩ (.slice (some ⟨b, off + 4, none⟩) q.length (cap - 1)) = WS := ⟨_, rfl⟩
    rw [hWS] at m0 m1 m2 m3
    have y0 := m1.cell 0
    have y1 := m1.cell 1
    have y2 := m1.cell 2
    have y3 := m1.cell 3
    have z0 := m0.frozen 0
    have z1 := m0.frozen 1
    have z2 := m0.frozen 2
    have z3 := m0.frozen 3
    have r0 := m0.cell 0
    have r1 := m0.cell 1
    have r2 := m0.cell 2
    have r3 := m0.cell 3
    simp at y0 y1 y2 y3 r0 r1 r2 r3
    go_enter Try.func65, Try.ntmps65
    go_wp2
    refine bodyPost_ret (results_ver rfl rfl (m0.over (k' := x.key) (q' := (x.seq : Int)) (dl' := x.del) (v' := x.val)).at) rfl ⟨ret_val rfl, off + 4, cap - 1, ?_, by omega, by omega, fun _ => rfl, ?_⟩
    · exact (heap_set4 _ _ _ _ _ _ d (by omega)).trans m2
    · exact (((m3.setCell _ _ _ (fun _ h => by omega)).setCell _ _ _ (fun _ h => by omega)).setCell _ _ _ (fun _ h => by omega)).setCell _ _ _ (fun _ h => by omega)

set_option maxRecDepth 100000 in
set_option maxHeartbeats 800000 in
theorem goes_none (d p : Nat) (c1 c2 c3 c4 c5 : Value) (ao : Option Addr) (cap : Nat) (W : World) (hd : Boxed W d 22 (.slice ao 0 cap)) (hp : PBlk W p #[.func (.func 65) #[] #[.pointer (some ⟨d, 0, none⟩)], c1, c2, c3, c4, c5]) :
    Calls Try.prog 47 #[.pointer (some ⟨p, 0, none⟩)] W fun e w' => (∃ u, e = .returned u) ∧ Keep (fun k => k ≠ p) W w' ∧ PBlk w' p #[.func (.func 65) #[] #[.pointer (some ⟨d, 0, none⟩)], .string .empty, .int .u64 0, .bool false, .string .empty, .bool false] := by
  have q0 := hp.cell 0
  have pl := hp.lt
  simp at q0
  have P := Lib.hid (drawn1_none d ao cap W hd)
  go_enter Try.func47, Try.ntmps47
  go_wp2_with (go_at_call 65; go_must ((with_reducible refine P.out.mono ?_); rintro e w1 ⟨rfl, hb⟩; have hp1 : PBlk w1 p _ := (hb.block p pl).trans hp; have p1 := hp1.cell 1; have p2 := hp1.cell 2; have p3 := hp1.cell 3; have p4 := hp1.cell 4; have p5 := hp1.cell 5; have f1 := hp1.frozen 1; have f2 := hp1.frozen 2; have f3 := hp1.frozen 3; have f4 := hp1.frozen 4; have f5 := hp1.frozen 5; simp at p1 p2 p3 p4 p5))
  go_end0
  refine ⟨⟨_, rfl⟩, ?_, heap_set (heap_set (heap_set (heap_set (heap_set hp1 1 _) 2 _) 3 _) 4 _) 5 _⟩
  exact (((((Keep.of_below hb (fun _ _ h => h) : Keep (fun k => k ≠ p) W w1).setCell _ _ _ (fun h _ => h rfl)).setCell _ _ _ (fun h _ => h rfl)).setCell _ _ _ (fun h _ => h rfl)).setCell _ _ _ (fun h _ => h rfl)).setCell _ _ _ (fun h _ => h rfl)

set_option maxRecDepth 100000 in
set_option maxHeartbeats 800000 in
theorem goes_some (d p : Nat) (c1 c2 c3 c4 c5 : Value) (b off : Nat) (x : Ver) (q : List Ver) (cap : Nat) (W : World) (hpd : p ≠ d) (hd : Boxed W d 22 (.slice (some ⟨b, off, none⟩) (q.length + 1) cap)) (hc : q.length + 1 ≤ cap) (hc2 : cap ≤ 9223372036854775807) (hr : RowIn W b off (x :: q)) (hp : PBlk W p #[.func (.func 65) #[] #[.pointer (some ⟨d, 0, none⟩)], c1, c2, c3, c4, c5]) :
    Calls Try.prog 47 #[.pointer (some ⟨p, 0, none⟩)] W fun e w' => (∃ u, e = .returned u) ∧ Keep (fun k => k ≠ p ∧ k ≠ d) W w' ∧ PBlk w' p #[.func (.func 65) #[] #[.pointer (some ⟨d, 0, none⟩)], .string x.key, .int .u64 (x.seq : Int), .bool x.del, .string x.val, .bool true] ∧
      ∃ off' cap', Boxed w' d 22 (.slice (some ⟨b, off', none⟩) q.length cap') ∧ q.length ≤ cap' ∧ cap' ≤ 9223372036854775807 ∧ (0 < q.length → off' = off + 4) := by
  have q0 := hp.cell 0
  have pl := hp.lt
  simp at q0
  have P := Lib.hid (drawn1_some d b off x q cap W hd hc hc2 hr)
  unfold Ver.v at P
  clear hr
  go_enter Try.func47, Try.ntmps47
  go_wp2_with (go_at_call 65; go_must ((with_reducible refine P.out.mono ?_); rintro e w1 ⟨rfl, off', cap', hd1, g1, g2, g3, hk⟩; have hp1 : PBlk w1 p _ := (hk.block p hpd pl).trans hp; have p1 := hp1.cell 1; have p2 := hp1.cell 2; have p3 := hp1.cell 3; have p4 := hp1.cell 4; have p5 := hp1.cell 5; have f1 := hp1.frozen 1; have f2 := hp1.frozen 2; have f3 := hp1.frozen 3; have f4 := hp1.frozen 4; have f5 := hp1.frozen 5; simp at p1 p2 p3 p4 p5))
  go_end0
  refine ⟨⟨_, rfl⟩, ?_, heap_set (heap_set (heap_set (heap_set (heap_set hp1 1 _) 2 _) 3 _) 4 _) 5 _, off', cap', ?_, g1, g2, g3⟩
  · exact (((((hk.mono (fun _ h _ => h.2) : Keep (fun k => k ≠ p ∧ k ≠ d) W w1).setCell _ _ _ (fun h _ => h.1 rfl)).setCell _ _ _ (fun h _ => h.1 rfl)).setCell _ _ _ (fun h _ => h.1 rfl)).setCell _ _ _ (fun h _ => h.1 rfl)).setCell _ _ _ (fun h _ => h.1 rfl)
  · exact ((Below.heap_setCell _ _ _ d (Ne.symm hpd)).trans ((Below.heap_setCell _ _ _ d (Ne.symm hpd)).trans ((Below.heap_setCell _ _ _ d (Ne.symm hpd)).trans ((Below.heap_setCell _ _ _ d (Ne.symm hpd)).trans (Below.heap_setCell _ _ _ d (Ne.symm hpd)))))).trans hd1
end Go.Proofs.Ytiogjebekadmcaa
