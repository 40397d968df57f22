
/- Walk: the law MemtableStays returns true. Condition: rows that the form's reach lets. -/
import Derived.Test.YtcfcijgnkbmlaaaTbl
import Derived.Test.YtcfcijgnkbmlaaaMActs
import Derived.Test.YtcfcijgnkbmlaaaRoundQ
import Derived.Test.YtcfcijgnkbmlaaaMarks
import Derived.StillTailTactics
namespace Go.Proofs.Ytcfcijgnkbmlaaa
open Go.RowKit Go.Shelf

attribute [local go_sem] Oper.semAt_some

/-- what lies about the law: its table, its boxes -/
structure Stay (w : World) (more : Ver) (T p : Nat) (xs : List Ver) (hs bs : List Nat) (W : World) : Prop where
  tbl : TblAt W T xs hs bs
  mine : ∀ q, SkB T bs q → q = T ∨ p < q
  m : VrAt w.heap.size more.key (more.seq : Int) more.del more.val W
  r : Boxed W (w.heap.size + 1) 4 (.bool false)
  b : Boxed W p 39 (.pointer (some ⟨T, 0, none⟩))
  old : Below w.heap.size w W
theorem Stay.after {w : World} {more : Ver} {T p : Nat} {xs xs' : List Ver} {hs bs hs' bs' : List Nat} {W W' : World} (h : Stay w more T p xs hs bs W) (hT : T = w.heap.size + 2) (hp : T < p) (hk : Keep (fun q => ¬ SkB T bs q) W W') (ht : TblAt W' T xs' hs' bs') (hm : ∀ q, SkB T bs' q → SkB T bs q ∨ W.heap.size ≤ q) : Stay w more T p xs' hs' bs' W' := by
  have hn : ∀ q, q < w.heap.size + 2 ∨ q = p → ¬ SkB T bs q := fun q hq h1 => by
    rcases h.mine q h1 with h2 | h2 <;> omega
  refine ⟨ht, fun q hq => ?_, h.m.keep hk (hn _ (by omega)), hk.boxed (hn _ (by omega)) h.r, hk.boxed (hn _ (by omega)) h.b, hk.below h.old (Nat.le_refl _) (fun q hq => hn q (by omega))⟩
  rcases hm q hq with h1 | h1
  · exact h.mine q h1
  · have := h.b.lt; right; omega
theorem Stay.below {w : World} {more : Ver} {T p : Nat} {xs : List Ver} {hs bs : List Nat} {W W' : World} (h : Stay w more T p xs hs bs W) (hT : T = w.heap.size + 2) (hp : T < p) (hb : Below W.heap.size W W') : Stay w more T p xs hs bs W' :=
  h.after hT hp (Keep.of_below hb (fun _ _ h => h)) (h.tbl.below hb) (fun _ hq => .inl hq)

theorem VersAt.keepF {f : Nat → Prop} {W W' : World} {v : Value} {l : List Ver} (h : VersAt W v l) (hk : Keep f W W') (hf : 0 < l.length → ∀ b, v.ownBlock = some b → f b) : VersAt W' v l := by
  obtain ⟨ao, cap, rfl, c1, c2, h⟩ := h
  refine ⟨ao, cap, rfl, c1, c2, fun hp => ?_⟩
  obtain ⟨b, off, rfl, hr⟩ := h hp
  exact ⟨b, off, rfl, hr.kept hk.size (hk.block b (hf hp b rfl) hr.1)⟩
/-- what stands about the law's rounds, behind k of them -/
structure Rnd (w : World) (more : Ver) (T p z z1 : Nat) (want : Value) (xs : List Ver) (k m : Nat) (xs' : List Ver) (hs' bs' : List Nat) (fp : Nat → Prop) (W : World) : Prop where
  st : Stay w more T p xs' hs' bs' W
  lo : xs.length ≤ xs'.length
  hi : xs'.length ≤ m
  q : Boxed W (z1 - 4) 45 want
  vs : VersAt W want xs
  vb : 0 < xs.length → ∀ b, want.ownBlock = some b → z ≤ b ∧ b < z1 - 4
  n : Boxed W (z1 - 3) 3 (.int .i64 (k : Int))
  own : ∀ q, SkB T bs' q → q < z ∨ z1 ≤ q
  all : ∀ q, q < z1 → fp q
  sk : ∀ q, SkB T bs' q → fp q
theorem Rnd.keep {w : World} {more : Ver} {T p z z1 : Nat} {want : Value} {xs : List Ver} {k m : Nat} {xs' : List Ver} {hs' bs' : List Nat} {fp : Nat → Prop} {W W' : World} (h : Rnd w more T p z z1 want xs k m xs' hs' bs' fp W) (hT : T = w.heap.size + 2) (hp : T < p) (hz : p < z1) (hz1 : 4 < z1) (hk : Keep fp W W') : Rnd w more T p z z1 want xs k m xs' hs' bs' fp W' := by
  have hs := h.st
  refine ⟨⟨hs.tbl.keep hk h.sk, hs.mine, hs.m.keep hk (h.all _ (by omega)), hk.boxed (h.all _ (by omega)) hs.r, hk.boxed (h.all _ (by omega)) hs.b, hk.below hs.old (Nat.le_refl _) (fun q hq => h.all q (by omega))⟩, h.lo, h.hi, hk.boxed (h.all _ (by omega)) h.q, h.vs.keepF hk (fun h0 b e => h.all b (by have := h.vb h0 b e; omega)), h.vb, hk.boxed (h.all _ (by omega)) h.n, h.own, h.all, h.sk⟩
theorem Rnd.other {w : World} {more : Ver} {T p z z1 : Nat} {want : Value} {xs : List Ver} {k m : Nat} {xs' : List Ver} {hs' bs' : List Nat} {fp : Nat → Prop} {W W' : World} (h : Rnd w more T p z z1 want xs k m xs' hs' bs' fp W) (hT : T = w.heap.size + 2) (hp : T < p) (hz : p < z1) (hz1 : 4 < z1) (hb : Below W.heap.size W W') : Rnd w more T p z z1 want xs k m xs' hs' bs' fp W' :=
  h.keep hT hp hz hz1 (Keep.of_below hb (fun _ _ h => h))
/-- one more round is counted -/
theorem Rnd.count {w : World} {more : Ver} {T p z z1 : Nat} {want : Value} {xs : List Ver} {k m : Nat} {xs' : List Ver} {hs' bs' : List Nat} {fp : Nat → Prop} {W : World} (h : Rnd w more T p z z1 want xs k m xs' hs' bs' fp W) (hT : T = w.heap.size + 2) (hp : T < p) (hpz : p < z) (hz : z + 4 ≤ z1) : Rnd w more T p z z1 want xs (k + 1) m xs' hs' bs' fp (W.setCell ⟨z1 - 3, 0, none⟩ (.int .i64 ((k : Int) + 1))) := by
  have hs := h.st
  have hk : Keep (fun q => q ≠ z1 - 3) W (W.setCell ⟨z1 - 3, 0, none⟩ (.int .i64 ((k : Int) + 1))) := (Keep.refl _ _).setCell _ _ _ (fun h _ => h rfl)
  have hnb := h.n.set (.int .i64 ((k : Int) + 1))
  have e : (k : Int) + 1 = ((k + 1 : Nat) : Int) := by omega
  generalize W.setCell ⟨z1 - 3, 0, none⟩ (.int .i64 ((k : Int) + 1)) = W' at *
  rw [e] at hnb
  have hsk : ∀ q, SkB T bs' q → q ≠ z1 - 3 := fun q hq => by rcases h.own q hq with h1 | h1 <;> omega
  exact ⟨⟨hs.tbl.keep hk hsk, hs.mine, hs.m.keep hk (show w.heap.size ≠ z1 - 3 by omega), hk.boxed (show w.heap.size + 1 ≠ z1 - 3 by omega) hs.r, hk.boxed (show p ≠ z1 - 3 by omega) hs.b, hk.below hs.old (Nat.le_refl _) (fun q hq => show q ≠ z1 - 3 by omega)⟩, h.lo, h.hi, hk.boxed (show z1 - 4 ≠ z1 - 3 by omega) h.q, h.vs.keepF hk (fun h0 b e => show b ≠ z1 - 3 by have := h.vb h0 b e; omega), h.vb, hnb, h.own, h.all, h.sk⟩
/-- something was added -/
theorem Rnd.add {w : World} {more : Ver} {T p z z1 : Nat} {want : Value} {xs : List Ver} {k m : Nat} {xs' xs2 : List Ver} {hs' bs' hs2 bs2 : List Nat} {fp : Nat → Prop} {W W' : World} (h : Rnd w more T p z z1 want xs k m xs' hs' bs' fp W) (hT : T = w.heap.size + 2) (hp : T < p) (hpz : p < z) (hz : z + 4 ≤ z1) (hW : z1 ≤ W.heap.size) (hlt : ∀ q, fp q → q < W.heap.size)
    (hk : Keep (fun q => ¬ SkB T bs' q) W W') (ht : TblAt W' T xs2 hs2 bs2) (hm : ∀ q, SkB T bs2 q → SkB T bs' q ∨ W.heap.size ≤ q) (h1 : xs'.length ≤ xs2.length) (h2 : xs2.length ≤ xs'.length + 1) :
    Rnd w more T p z z1 want xs k (m + 1) xs2 hs2 bs2 (fun q => fp q ∨ SkB T bs2 q) W' ∧ Step fp (fun q => fp q ∨ SkB T bs2 q) W W' := by
  have hs := h.st
  have hn : ∀ q, z ≤ q → q < z1 → ¬ SkB T bs' q := fun q h1 h2 h3 => by rcases h.own q h3 with h4 | h4 <;> omega
  refine ⟨⟨hs.after hT hp hk ht hm, Nat.le_trans h.lo h1, by have := h.hi; omega, hk.boxed (hn _ (by omega) (by omega)) h.q, h.vs.keepF hk (fun h0 b e => hn b (h.vb h0 b e).1 (by have := (h.vb h0 b e).2; omega)), h.vb, hk.boxed (hn _ (by omega) (by omega)) h.n, fun q hq => ?_, fun q hq => .inl (h.all q hq), fun q hq => .inr hq⟩, ⟨hk.mono (fun q hq _ h3 => hq (h.sk q h3)), fun q hq => ?_, fun q hq => ?_⟩⟩
  · rcases hm q hq with h3 | h3
    · exact h.own q h3
    · right; omega
  · rcases hq with h3 | h3
    · exact .inl h3
    · rcases hm q h3 with h4 | h4
      · exact .inl (h.sk q h4)
      · exact .inr h4
  · rcases hq with h3 | h3
    · exact Nat.lt_of_lt_of_le (hlt q h3) hk.size
    · exact ht.sk.lt h3
theorem Rnd.more {w : World} {more : Ver} {T p z z1 : Nat} {want : Value} {xs : List Ver} {k m : Nat} {xs' : List Ver} {hs' bs' : List Nat} {fp fp' : Nat → Prop} {W : World} (h : Rnd w more T p z z1 want xs k m xs' hs' bs' fp W) (hf : ∀ q, fp q → fp' q) : Rnd w more T p z z1 want xs k m xs' hs' bs' fp' W :=
  ⟨h.st, h.lo, h.hi, h.q, h.vs, h.vb, h.n, h.own, fun q hq => hf q (h.all q hq), fun q hq => hf q (h.sk q hq)⟩
theorem step_set {fp : Nat → Prop} {W : World} (hlt : ∀ k, fp k → k < W.heap.size) (b o : Nat) (v : Value) (hb : fp b) : Step fp fp W (W.setCell ⟨b, o, none⟩ v) :=
  ⟨(Keep.refl _ _).setCell _ _ _ (fun h _ => h hb), fun _ h => .inl h, fun k hk => by have := hlt k hk; simpa [World.setCell] using this⟩
theorem Rnd.aside {w : World} {more : Ver} {T p z z1 : Nat} {want : Value} {xs : List Ver} {k m : Nat} {xs' : List Ver} {hs' bs' : List Nat} {fp : Nat → Prop} {W : World} (h : Rnd w more T p z z1 want xs k m xs' hs' bs' fp W) (hT : T = w.heap.size + 2) (hp : T < p) (hz : p < z1) (hz1 : 4 < z1) (c o : Nat) (v : Value) (hc : z1 ≤ c) (hcs : ¬ SkB T bs' c) : Rnd w more T p z z1 want xs k m xs' hs' bs' fp (W.setCell ⟨c, o, none⟩ v) := by
  have hk : Keep (fun q => q ≠ c) W (W.setCell ⟨c, o, none⟩ v) := (Keep.refl _ _).setCell _ _ _ (fun h _ => h rfl)
  have h2 : Rnd w more T p z z1 want xs k m xs' hs' bs' (fun q => q ≠ c) W := ⟨h.st, h.lo, h.hi, h.q, h.vs, h.vb, h.n, h.own, fun q hq => show q ≠ c by omega, fun q hq e => hcs (e ▸ hq)⟩
  have h3 := h2.keep hT hp hz hz1 hk
  exact ⟨h3.st, h3.lo, h3.hi, h3.q, h3.vs, h3.vb, h3.n, h3.own, h.all, h.sk⟩
theorem results_bool {fn : Func} {p : Tmp} (h : fn.results = #[.cell p 4]) {tmps : Array Value} {b : Nat} {v : Value} {w : World} (hp : tmps.getD p undef = .pointer (some ⟨b, 0, none⟩)) (hc : w.cell? ⟨b, 0, none⟩ = some v) :
    (results fn tmps).run Try.prog w = .ok v w := by
  have hp' : tmps[p]?.getD undef = .pointer (some ⟨b, 0, none⟩) := by simpa using hp
  have hu := Try.underlying4
  have hl : (loadVar 4 ⟨b, 0, none⟩).run Try.prog w = .ok v w := by simp [loadVar, isAgg, Sem.run_bind, run_underlying hu w, go_sem, hc]
  simp [results, h, hp', asAddr, hl]
theorem pre_at {α : Type} {pre l : List α} {x : α} (h : pre ++ [x] <+: l) : ∃ hl : pre.length < l.length, l[pre.length] = x := by
  obtain ⟨r, rfl⟩ := h
  exact ⟨by simp, by simp⟩
theorem keep_boxed_ne {f : Nat → Prop} {W W' : World} {b : Nat} {t : TypeId} {v : Value} (h : Keep f W W') (hf : f b) (hb : Boxed W b t v) : Boxed W' b t v := h.boxed hf hb

set_option maxRecDepth 100000 in
set_option maxHeartbeats 1600000 in
theorem memtableStays_any (v : Value) (l : List MAct) (more : Ver) (w : World) (hv : MActsAt w v l) (hl : l.length ≤ 2199023255551) (hs : more.seq ≤ 18446744073709551615) :
    Calls Try.prog 7 #[v, .agg #[.string more.key, .int .u64 (more.seq : Int), .bool more.del, .string more.val]] w fun e w' => e = .returned (.bool true) ∧ Below w.heap.size w w' := by
  obtain ⟨ao, cap, rfl, c1, c2, hrow⟩ := hv
  have hnf := eql_func_nil
  have hM0 := VrAt.new w more.key (more.seq : Int) more.del more.val 24
  obtain ⟨W0, hW0⟩ : ∃ W0, (w.alloc (.cells #[.string more.key, .int .u64 (more.seq : Int), .bool more.del, .string more.val] 24)).alloc (.cells #[.bool false] 4) = W0 := ⟨_, rfl⟩
  have hb0 : Below w.heap.size w W0 := by rw [← hW0]; exact ((Below.refl _ _).alloc (Nat.le_refl _) _).alloc (by simp) _
  have hM1 : VrAt w.heap.size more.key (more.seq : Int) more.del more.val W0 := by rw [← hW0]; exact hM0.alloc _
  have bR1 : Boxed W0 (w.heap.size + 1) 4 (.bool false) := by
    rw [← hW0]
    have := Boxed.new (w.alloc (.cells #[.string more.key, .int .u64 (more.seq : Int), .bool more.del, .string more.val] 24)) 4 (.bool false)
    rwa [World.size_alloc] at this
  have hz0 : W0.heap.size = w.heap.size + 2 := by rw [← hW0]; simp
  have P1 := Lib.hid (tbl_new W0)
  rw [hz0] at P1
  clear hM0
  refine (callsIn_wide (n := 9)).1 ?_
  refine callsIn_of_wp_marks Try.func7 rfl trivial (wpIn_wide.2 ?_) rfl
  simp only [Try.ntmps7, List.size_toArray, List.length_cons, List.length_nil, Nat.reduceAdd, Nat.reduceSub, Array.replicate_succ, Array.replicate_zero, List.push_toArray, List.append_toArray, List.nil_append, List.cons_append]
  go_wp2_with fail
  clear hW0
  refine P1.out.mono ?_
  rintro e W1 ⟨rfl, hT1, hb1⟩
  have hM2 := hM1.kept (hb1.mono (by omega))
  have bR2 := keep_boxed_ne (Keep.of_below (fp := fun k => k < W0.heap.size) (by rw [hz0]; exact hb1) (fun _ h _ => h)) (by omega) bR1
  have hp0 := hT1.sk.lt (.inl rfl)
  have hSt0 : Stay w more (w.heap.size + 2) W1.heap.size [] [] [] (W1.alloc (.cells #[.pointer (some ⟨w.heap.size + 2, 0, none⟩)] 39)) :=
    ⟨hT1.below ((Below.refl _ _).alloc (Nat.le_refl _) _), fun q hq => hq.elim .inl (fun h => by cases h), hM2.alloc _, bR2.alloc _, Boxed.new W1 _ _, (hb0.trans (hb1.mono (by omega))).alloc (by omega) _⟩
  have hz1 : (W1.alloc (.cells #[.pointer (some ⟨w.heap.size + 2, 0, none⟩)] 39)).heap.size = W1.heap.size + 1 := by simp
  clear P1 hT1 hb1 hM2 bR2 bR1 hM1 hb0 hz0
  go_wp2_with fail
  generalize W1.alloc (.cells #[.pointer (some ⟨w.heap.size + 2, 0, none⟩)] 39) = W2 at hSt0 hz1 ⊢
  generalize W1.heap.size = p at *
  generalize hTe : w.heap.size + 2 = T at *
  replace hTe := hTe.symm
  replace hTe := Lib.hid hTe
  go_loopw [6] (fun i W' => ∃ (k : Nat) (xs : List Ver) (hs bs : List Nat), k ≤ l.length ∧ i = .int .i64 k ∧ Stay w more T p xs hs bs W' ∧ xs.length ≤ k) (fun i _ => l.length - (intOf i).toNat)
  case atStart => exact ⟨0, [], [], [], by omega, rfl, hSt0, Nat.le_refl _⟩
  case round =>
    obtain ⟨k, xs, hs, bs, hk, rfl, hSt, hxk⟩ := hrel
    by_cases h1 : k < l.length
    · obtain ⟨b, off, rfl, hbl, hc⟩ := hrow (by omega)
      obtain ⟨x0, x1, x2, x3, x4, x5⟩ := (hc k h1).kept (hSt.old.block b hbl)
      have cP := hSt.b.cell
      have hwr : IntKind.i64.wrap (k : Int) = (k : Int) := IntWalk.i64_in _ (by omega)
      have hge : (0 : Int) ≤ (k : Int) := by omega
      have hge2 : ¬ ((k : Int) < 0) := by omega
      have hi1 : (k : Int) < (l.length : Int) := by omega
      have P := Lib.hid (tbl_add T xs hs bs l[k].v l[k].n wr.drew (hSt.tbl.below (Below.refl _ _).drew) (by omega))
      generalize l[k] = a at *
      clear hc
      go_wp2
      go_still_tail 11, (by kernel_rfl)
      change wpList _ _ _ _ _ wr.drew
      go_wp2_with fail
      refine P.out.mono ?_
      rintro e w1 ⟨rfl, ⟨bs', ht, hm⟩, hkk⟩
      have hSd := hSt.below hTe.out hp0 (Below.refl _ _).drew
      have hlen := (hSt.tbl.good.add a.v a.n).2.2
      go_wp2_with fail
      go_roundw
      case rel => exact ⟨k + 1, _, _, bs', by omega, by go_num, hSd.after hTe.out hp0 hkk ht hm, by omega⟩
      case measure => simp [intOf]; omega
    · obtain rfl : k = l.length := by omega
      have P := Lib.hid (tbl_from T xs hs bs ⟨#[]⟩ 0 wr hSt.tbl (by omega))
      rw [Pl.bOf_nil, List.drop_zero, heads_none (by omega)] at P
      have cP := hSt.b.cell
      go_wp2_with fail
      refine P.out.mono ?_
      rintro e W3 ⟨vw, rfl, hown, hb3⟩
      have hS3 := hSt.below hTe.out hp0 hb3
      have cP3 := hS3.b.cell
      have hzp := hS3.b.lt
      obtain ⟨g0, cap0, rfl⟩ := ownsRow_sl hown
      go_wp2_with (go_at_call 30; refine (callsIn_wide.1 (tfrom_in 9 _ _ _)).mono ?_; rintro e w' ⟨rfl, rfl⟩)
      have cS := hS3
      have bQ := Boxed.new W3 45 (.slice g0 xs.length cap0)
      have bN := Boxed.new (W3.alloc (.cells #[.slice g0 xs.length cap0] 45)) 3 (.int .i64 0)
      have bT := Boxed.new ((W3.alloc (.cells #[.slice g0 xs.length cap0] 45)).alloc (.cells #[.int .i64 0] 3)) 39 (.pointer (some ⟨T, 0, none⟩))
      have bK := Boxed.new (((W3.alloc (.cells #[.slice g0 xs.length cap0] 45)).alloc (.cells #[.int .i64 0] 3)).alloc (.cells #[.pointer (some ⟨T, 0, none⟩)] 39)) 9 (.string ⟨#[]⟩)
      simp only [World.size_alloc] at bN bT bK
      replace bQ := ((bQ.alloc (.cells #[.int .i64 0] 3)).alloc (.cells #[.pointer (some ⟨T, 0, none⟩)] 39)).alloc (.cells #[.string ⟨#[]⟩] 9)
      replace bN := (bN.alloc (.cells #[.pointer (some ⟨T, 0, none⟩)] 39)).alloc (.cells #[.string ⟨#[]⟩] 9)
      replace bT := bT.alloc (.cells #[.string ⟨#[]⟩] 9)
      have hbb : Below W3.heap.size W3 ((((W3.alloc (.cells #[.slice g0 xs.length cap0] 45)).alloc (.cells #[.int .i64 0] 3)).alloc (.cells #[.pointer (some ⟨T, 0, none⟩)] 39)).alloc (.cells #[.string ⟨#[]⟩] 9)) := ((((Below.refl _ _).alloc (Nat.le_refl _) _).alloc (by simp) _).alloc (by simp; omega) _).alloc (by simp; omega) _
      have hz4 : ((((W3.alloc (.cells #[.slice g0 xs.length cap0] 45)).alloc (.cells #[.int .i64 0] 3)).alloc (.cells #[.pointer (some ⟨T, 0, none⟩)] 39)).alloc (.cells #[.string ⟨#[]⟩] 9)).heap.size = W3.heap.size + 4 := by simp
      generalize ((((W3.alloc (.cells #[.slice g0 xs.length cap0] 45)).alloc (.cells #[.int .i64 0] 3)).alloc (.cells #[.pointer (some ⟨T, 0, none⟩)] 39)).alloc (.cells #[.string ⟨#[]⟩] 9)) = W4 at bQ bN bT bK hbb hz4 ⊢
      have hz3 := hb3.size
      have hpr : p < wr.heap.size := hSt.b.lt
      have hS4 := hS3.below hTe.out hp0 hbb
      have hV3 := own_vers hown
      have hvb : 0 < xs.length → ∀ b, (Value.slice g0 xs.length cap0).ownBlock = some b → wr.heap.size ≤ b ∧ b < W3.heap.size := fun _ b e => hown.lt b e
      have hR0 : Rnd w more T p wr.heap.size (W3.heap.size + 4) (.slice g0 xs.length cap0) xs 0 (xs.length + 2 * 0) xs hs bs (fun q => q < W4.heap.size) W4 :=
        ⟨hS4, Nat.le_refl _, by omega, bQ, hV3.below hbb, fun h0 b e => by have := hvb h0 b e; omega, bN, fun q hq => .inl (hSt.tbl.sk.lt hq), fun q hq => by omega, fun q hq => hS4.tbl.sk.lt hq⟩
      have hseq := tfrom1_seqR 8 (by omega) (W3.heap.size + 1 + 1) T xs hs bs _ _ ⟨#[]⟩ (Pl.bOf xs ⟨#[]⟩) W4 (fun _ => False) bT bK hS4.tbl.sk (Pl.ahead_key hS4.tbl.good.ris ⟨#[]⟩) hS4.tbl.good.lo (by omega) (fun _ h => h.elim)
      rw [Pl.bOf_nil, List.drop_zero] at hseq
      clear P cP cP3 bQ bN bT bK hS3 hown hSt hV3 cS
      refine wpIn_wide.1 (wpIn_rangeR (n := 9) (F := Fence.wide) rfl (by omega) (gf := 47) (lb := #[.pointer (some ⟨W3.heap.size + 1 + 1, 0, none⟩), .pointer (some ⟨W3.heap.size + 1 + 1 + 1, 0, none⟩)]) rfl trivial (enters_of Try.func47 (by kernel_rfl) rfl)
        hseq (fun _ => rfl) (fun _ h => h.elim) (fun _ h => h.elim)
        (fun pre fp W => ∃ xs' hs' bs', Rnd w more T p wr.heap.size (W3.heap.size + 4) (.slice g0 xs.length cap0) xs pre.length (xs.length + 2 * pre.length) xs' hs' bs' fp W)
        (fun _ _ _ _ => False)
        (fun pre x a' fp W => ∃ xs' hs' bs' bx, Rnd w more T p wr.heap.size (W3.heap.size + 4) (.slice g0 xs.length cap0) xs pre.length (xs.length + 2 * pre.length) xs' hs' bs' fp W ∧ VrAt bx x.key (x.seq : Int) x.del x.val W ∧ fp bx ∧ W3.heap.size + 4 ≤ bx ∧ ¬ SkB T bs' bx ∧ a' = { tmps := #[.slice ao l.length cap, .agg #[.string more.key, .int .u64 (more.seq : Int), .bool more.del, .string more.val], undef, .pointer (some ⟨w.heap.size, 0, none⟩), .pointer (some ⟨w.heap.size + 1, 0, none⟩), .pointer (some ⟨p, 0, none⟩), .int .i64 (l.length : Int), .pointer (some ⟨W3.heap.size, 0, none⟩), .pointer (some ⟨W3.heap.size + 1, 0, none⟩), .func (.func 47) #[] #[.pointer (some ⟨W3.heap.size + 1 + 1, 0, none⟩), .pointer (some ⟨W3.heap.size + 1 + 1 + 1, 0, none⟩)], .pointer (some ⟨bx, 0, none⟩), undef, undef, undef, .pointer (some ⟨T, 0, none⟩), .pointer (some ⟨T, 0, none⟩), .bool false, .int .i64 (l.length : Int), .slice ao l.length cap, .int .i64 (l.length : Int), .bool false, u21, u22, u23, u24, u25, u26, u27, u28, u29, u30, u31, u32, u33, u34, .pointer (some ⟨T, 0, none⟩), .slice g0 xs.length cap0, .pointer (some ⟨T, 0, none⟩), .func (.func 47) #[] #[.pointer (some ⟨W3.heap.size + 1 + 1, 0, none⟩), .pointer (some ⟨W3.heap.size + 1 + 1 + 1, 0, none⟩)], .func (.func 47) #[] #[.pointer (some ⟨W3.heap.size + 1 + 1, 0, none⟩), .pointer (some ⟨W3.heap.size + 1 + 1 + 1, 0, none⟩)], .bool false, .func (.func 47) #[] #[.pointer (some ⟨W3.heap.size + 1 + 1, 0, none⟩), .pointer (some ⟨W3.heap.size + 1 + 1 + 1, 0, none⟩)], .agg #[.string x.key, .int .u64 (x.seq : Int), .bool x.del, .string x.val], undef, undef, undef, undef, undef, undef, undef, undef, undef, undef, undef, undef, undef, undef, undef, undef, undef, undef, undef, undef, undef, undef, undef, undef, undef, undef, undef, undef, undef, undef, undef, undef, undef, undef, undef, undef, undef, undef, undef, undef, undef, undef, undef, undef, undef, undef, undef, undef, undef, undef, undef, undef, undef, undef, undef, undef], defers := [] })
        ?_ ?_ ?_ (fun q => q < W4.heap.size) (fun _ _ h => h) (fun _ h => h) ⟨xs, hs, bs, hR0⟩ ?assign ?body ?done ?stop)
      case assign =>
        rintro l' pre x fp1 W K ⟨xs', hs', bs', hR⟩ hlt1 hpre hK
        have hal := hR.all
        have hzW : W3.heap.size + 4 ≤ W.heap.size := by
          have := hlt1 (W3.heap.size + 3) (hal _ (by omega)); omega
        unfold encV
        gi_wp2
        refine hK _ _ _ (Step.alloc hlt1 _) ⟨xs', hs', bs', W.heap.size, ?_, VrAt.new _ _ _ _ _ _, .inr rfl, hzW, fun h => by have := hR.st.tbl.sk.lt h; omega, rfl⟩
        have h2 := hR.other hTe.out hp0 (by omega) (by omega) ((Below.refl _ _).alloc (Nat.le_refl _) (.cells #[.string x.key, .int .u64 (x.seq : Int), .bool x.del, .string x.val] 24))
        exact ⟨h2.st, h2.lo, h2.hi, h2.q, h2.vs, h2.vb, h2.n, h2.own, fun q hq => .inl (h2.all q hq), fun q hq => .inl (h2.sk q hq)⟩
      case stop =>
        rintro D c pre fp1 W h1 h2 h3 h4 h5 h6 ⟨⟩
      case body =>
        rintro l' pre x a' fp1 W ⟨xs', hs', bs', bx, hR, hvx, hbx, hbz, hbs, rfl⟩ hlt1 hpre
        obtain ⟨hpl, hpx⟩ := pre_at hpre
        have hzW : W3.heap.size + 4 ≤ W.heap.size := by
          have := hlt1 (W3.heap.size + 3) (hR.all _ (by omega)); omega
        obtain ⟨ao5, cap5, e5, _, _, hrw⟩ := id hR.vs
        cases e5
        obtain ⟨gb, off, rfl, hrow2⟩ := hrw (by omega)
        obtain ⟨y0, y1, y2, y3⟩ := hrow2.2 pre.length hpl
        rw [hpx] at y0 y1 y2 y3
        have ⟨v0, v1, v2, v3, vB⟩ := hvx
        have cN := hR.n.cell
        have fN := hR.n.frozen
        have cQ := hR.q.cell
        have cT := hR.st.b.cell
        have ⟨m0, m1, m2, m3, mB⟩ := hR.st.m
        have lN := hR.n.lt
        rw [show W3.heap.size + 4 - 3 = W3.heap.size + 1 by omega] at cN fN lN
        rw [show W3.heap.size + 4 - 4 = W3.heap.size by omega] at cQ
        have hd1 : decide (xs.length ≤ pre.length) = false := by simp; omega
        clear hrw hrow2 hpx
        dsimp only
        gi_wp2
        refine wpIn_round_quiet (by kernel_rfl) (by kernel_rfl) (by rintro ⟨a, w, h⟩; exact h) (by kernel_rfl) ?_
        repeat go_big_quiet_step (fail)
        refine wpQuiet_nil ?_
        rintro _ ⟨nq, rfl⟩
        have hRd := hR.other hTe.out hp0 (by omega) (by omega) (below_drewN (Below.refl _ _) nq)
        have hRn := hRd.count hTe.out hp0 (by omega) (by omega)
        rw [show W3.heap.size + 4 - 3 = W3.heap.size + 1 by omega] at hRn
        have cNd := (hRd.n.cell)
        have fNd := (hRd.n.frozen)
        rw [show W3.heap.size + 4 - 3 = W3.heap.size + 1 by omega] at cNd fNd
        have hkn : Keep (fun q => q ≠ W3.heap.size + 1) W ((W.drewN nq).setCell ⟨W3.heap.size + 1, 0, none⟩ (.int .i64 ((pre.length : Int) + 1))) := ((Keep.refl _ _).drewN nq).setCell _ _ _ (fun h _ => h rfl)
        have hxn := hvx.keep hkn (show bx ≠ W3.heap.size + 1 by omega)
        have hzn : ((W.drewN nq).setCell ⟨W3.heap.size + 1, 0, none⟩ (.int .i64 ((pre.length : Int) + 1))).heap.size = W.heap.size := by simp [World.setCell]
        obtain ⟨Wn, hWn⟩ : ∃ Wn, (W.drewN nq).setCell ⟨W3.heap.size + 1, 0, none⟩ (.int .i64 ((pre.length : Int) + 1)) = Wn := ⟨_, rfl⟩
        rw [hWn] at hRn hkn hxn hzn
        have hwn : IntKind.i64.wrap ((pre.length : Int) + 1) = (pre.length : Int) + 1 := IntWalk.i64_in _ (by omega)
        have ⟨n0, n1, n2, n3, nB⟩ := hRn.st.m
        have cNn := hRn.n.cell
        rw [show W3.heap.size + 4 - 3 = W3.heap.size + 1 by omega] at cNn
        have cTn := hRn.st.b.cell
        obtain ⟨Wa, hWa⟩ : ∃ Wa, Wn.alloc (.cells #[.string more.key, .int .u64 (more.seq : Int), .bool more.del, .string more.val] 24) = Wa := ⟨_, rfl⟩
        have hba : Below Wn.heap.size Wn Wa := by rw [← hWa]; exact (Below.refl _ _).alloc (Nat.le_refl _) _
        have hCa : Wa.heap[W.heap.size]? = some (.cells #[.string more.key, .int .u64 (more.seq : Int), .bool more.del, .string more.val] 24 (0, 0)) := by rw [← hWa, ← hzn]; exact World.alloc_heap_new _ _
        have hza : Wa.heap.size = W.heap.size + 1 := by rw [← hWa, ← hzn]; simp
        have hRa := hRn.other hTe.out hp0 (by omega) (by omega) hba
        have hxa := hxn.kept hba
        have ⟨a0, a1, a2, a3, aB⟩ := hRa.st.m
        have cNa := hRa.n.cell
        rw [show W3.heap.size + 4 - 3 = W3.heap.size + 1 by omega] at cNa
        have cTa := hRa.st.b.cell
        have w0 : Wa.cell? ⟨W.heap.size, 0, none⟩ = some (.string more.key) := (cell_of hCa).trans rfl
        have w1 : Wa.cell? ⟨W.heap.size, 1, none⟩ = some (.int .u64 (more.seq : Int)) := (cell_of hCa).trans rfl
        have w2 : Wa.cell? ⟨W.heap.size, 2, none⟩ = some (.bool more.del) := (cell_of hCa).trans rfl
        have w3 : Wa.cell? ⟨W.heap.size, 3, none⟩ = some (.string more.val) := (cell_of hCa).trans rfl
        have w4 := frozen_of hCa (o := 1)
        clear m0 m1 m2 m3 mB cN fN cT
        gi_wp2_with fail
        have hsA := hR.st.tbl.sk.lt (k := W.heap.size)
        have hCs : ¬ SkB T bs' W.heap.size := fun h => by have := hR.st.tbl.sk.lt h; omega
        have hltn : ∀ q, fp1 q → q < Wn.heap.size := fun q hq => by rw [hzn]; exact hlt1 q hq
        have st1 : Step fp1 fp1 W Wn := ⟨hkn.mono (fun q hq _ h => hq (h ▸ hR.all _ (by omega))), fun _ h => .inl h, hltn⟩
        have st2 : Step fp1 (fun q => fp1 q ∨ q = Wn.heap.size) Wn Wa := by rw [← hWa]; exact Step.alloc hltn _
        have hRb := (hRa.more (fp' := fun q => fp1 q ∨ q = Wn.heap.size) (fun _ h => .inl h)).aside hTe.out hp0 (by omega) (by omega) W.heap.size 1 (.int .u64 ((more.seq : Int) % 1000 + ((pre.length : Int) + 1))) (by omega) hCs
        have st3 := step_set (fp := fun q => fp1 q ∨ q = Wn.heap.size) (W := Wa) st2.lt W.heap.size 1 (.int .u64 ((more.seq : Int) % 1000 + ((pre.length : Int) + 1))) (.inr hzn.symm)
        have hCc := heap_set4m hCa 1 (.int .u64 ((more.seq : Int) % 1000 + ((pre.length : Int) + 1)))
        have hxc := hxa.keep ((Keep.refl (fun q => q ≠ W.heap.size) Wa).setCell W.heap.size 1 (.int .u64 ((more.seq : Int) % 1000 + ((pre.length : Int) + 1))) (fun h _ => h rfl)) (show bx ≠ W.heap.size by have := hlt1 bx hbx; omega)
        have e1 : (more.seq : Int) % 1000 + ((pre.length : Int) + 1) = ((more.seq % 1000 + (pre.length + 1) : Nat) : Int) := by omega
        rw [e1] at hRb st3 hCc hxc ⊢
        have hlen1 := hR.hi
        generalize more.seq % 1000 + (pre.length + 1) = S at *
        generalize Wa.setCell ⟨W.heap.size, 1, none⟩ (.int .u64 (S : Int)) = Wc at hRb st3 hCc hxc ⊢
        have hadd1 := hR.st.tbl.good.add ⟨more.key, S, more.del, more.val⟩ (1 + ((pre.length : Int) + 1) % 8)
        have P1 := tbl_add T xs' hs' bs' ⟨more.key, S, more.del, more.val⟩ (1 + ((pre.length : Int) + 1) % 8) Wc hRb.st.tbl (by omega)
        refine ⟨trivial, (CallsIn.inRound l' (callsIn_wide.2 P1)).mono ?_⟩
        clear P1
        rintro e Wd ⟨rfl, ⟨bs2, ht2, hm2⟩, hk2⟩
        have hzc : W3.heap.size + 4 ≤ Wc.heap.size := by have := st3.keep.size; omega
        have hCz : W.heap.size < Wc.heap.size := (Array.getElem?_eq_some_iff.1 hCc).1
        obtain ⟨hRd2, st4⟩ := hRb.add hTe.out hp0 (by omega) (by omega) hzc st3.lt hk2 ht2 hm2 hadd1.2.1 hadd1.2.2
        have hxd := hxc.keep hk2 hbs
        have hCd := (hk2.block W.heap.size hCs hCz).trans hCc
        have hCs2 : ¬ SkB T bs2 W.heap.size := fun h => by
          rcases hm2 _ h with h1 | h1
          · exact hCs h1
          · omega
        generalize hgx : (Pl.addT xs' hs' ⟨more.key, S, more.del, more.val⟩ (1 + ((pre.length : Int) + 1) % 8)) = ad at *
        obtain ⟨xs2, hs2, c2'⟩ := ad
        simp only at hRd2 hadd1 ht2
        have ⟨d0, d1, d2, d3, dB⟩ := hxd
        have cTd := hRd2.st.b.cell
        have w0' : Wd.cell? ⟨W.heap.size, 0, none⟩ = some (.string more.key) := (cell_of hCd).trans rfl
        have w4' := frozen_of hCd (o := 0)
        clear a0 a1 a2 a3 aB n0 n1 n2 n3 nB v0 v1 v2 v3 vB
        have hCe := heap_set4m hCd 0 (.string x.key)
        have hRe := hRd2.aside hTe.out hp0 (by omega) (by omega) W.heap.size 0 (.string x.key) (by omega) hCs2
        have st5 := step_set st4.lt W.heap.size 0 (.string x.key) (.inl (.inr hzn.symm))
        obtain ⟨We, hWe⟩ : ∃ We, Wd.setCell ⟨W.heap.size, 0, none⟩ (.string x.key) = We := ⟨_, rfl⟩
        rw [hWe] at hCe hRe st5
        have e0 : We.cell? ⟨W.heap.size, 0, none⟩ = some (.string x.key) := (cell_of hCe).trans rfl
        have e1 : We.cell? ⟨W.heap.size, 1, none⟩ = some (.int .u64 (S : Int)) := (cell_of hCe).trans rfl
        have e2 : We.cell? ⟨W.heap.size, 2, none⟩ = some (.bool more.del) := (cell_of hCe).trans rfl
        have e3 : We.cell? ⟨W.heap.size, 3, none⟩ = some (.string more.val) := (cell_of hCe).trans rfl
        have cTe := hRe.st.b.cell
        have hadd2 := hadd1.1.add ⟨x.key, S, more.del, more.val⟩ 1
        have hze : W3.heap.size + 4 ≤ We.heap.size := by have := st5.keep.size; have := st4.keep.size; omega
        have P1 := Lib.hid (tbl_add T xs2 hs2 bs2 ⟨x.key, S, more.del, more.val⟩ 1 We hRe.st.tbl (by have := hadd1.2.2; omega))
        gi_wp2_with fail
        refine ⟨trivial, (CallsIn.inRound l' (callsIn_wide.2 P1.out)).mono ?_⟩
        clear P1
        rintro e Wf ⟨rfl, ⟨bs3, ht3, hm3⟩, hk3⟩
        obtain ⟨hRf, st6⟩ := hRe.add hTe.out hp0 (by omega) (by omega) hze st5.lt hk3 ht3 hm3 hadd2.2.1 hadd2.2.2
        gi_wp2
        have hst := ((((st1.trans st2).trans st3).trans st4).trans st5).trans st6
        have hRg : Rnd w more T p wr.heap.size (W3.heap.size + 4) (.slice (some ⟨gb, off, none⟩) xs.length cap0) xs (pre.length + 1) (xs.length + 2 * (pre.length + 1)) _ _ bs3 _ Wf := ⟨hRf.st, hRf.lo, by have := hRf.hi; omega, hRf.q, hRf.vs, hRf.vb, hRf.n, hRf.own, hRf.all, hRf.sk⟩
        have el : pre.length + 1 = (pre ++ [x]).length := by simp
        rw [el] at hRg
        exact ⟨_, ⟨_, _, bs3, hRg⟩, hst⟩
      case done =>
        rintro D ys fp2 Wz hD hnD hnew hlt2 hkT rfl ⟨xs', hs', bs', hR⟩ hK
        have P3 := Lib.hid (tbl_len T xs' hs' bs' Wz hR.st.tbl)
        have P4 := Lib.hid (tbl_add T xs' hs' bs' ⟨⟨#[107]⟩, 1125899906842624, false, ⟨#[118]⟩⟩ 3 Wz hR.st.tbl (by have := hR.hi; omega))
        have hc : (Pl.addT xs' hs' ⟨⟨#[107]⟩, 1125899906842624, false, ⟨#[118]⟩⟩ 3).2.2 = 0 ∨ (Pl.addT xs' hs' ⟨⟨#[107]⟩, 1125899906842624, false, ⟨#[118]⟩⟩ 3).2.2 = 7 := by
          unfold Pl.addT
          rw [if_neg (by rintro (h | h | h); revert h; decide; omega; omega)]
          split
          · exact .inr rfl
          · exact .inl rfl
        have cN := hR.n.cell
        have cQ := hR.q.cell
        have cT := hR.st.b.cell
        rw [show W3.heap.size + 4 - 3 = W3.heap.size + 1 by omega] at cN
        rw [show W3.heap.size + 4 - 4 = W3.heap.size by omega] at cQ
        have hnl := hR.lo
        have hzW : W3.heap.size + 4 ≤ Wz.heap.size := by
          have := hlt2 (W3.heap.size + 3) (hR.all _ (by omega)); omega
        have hadd := hR.st.tbl.good.add ⟨⟨#[107]⟩, 1125899906842624, false, ⟨#[118]⟩⟩ 3
        have hqe : ((ys.length : Int) == (ys.length : Int)) = true := by simp
        have hge : decide ((ys.length : Int) ≤ (xs'.length : Int)) = true := by simp; omega
        generalize (Pl.addT xs' hs' ⟨⟨#[107]⟩, 1125899906842624, false, ⟨#[118]⟩⟩ 3) = ad at *
        obtain ⟨xs2, hs2, cc⟩ := ad
        simp only at hc hadd P4
        dsimp only
        go_wp2_with fail
        refine P3.out.mono ?_
        rintro e w9 ⟨rfl, rfl⟩
        clear P3
        go_wp2_with fail
        refine P4.out.mono ?_
        clear P4
        rintro e Wy ⟨rfl, ⟨bs2, ht2, hm2⟩, hk2⟩
        obtain ⟨hRy, sty⟩ := hR.add hTe.out hp0 (by omega) (by omega) hzW hlt2 hk2 ht2 hm2 hadd.2.1 hadd.2.2
        have hDs : ¬ SkB T bs' D := fun h => hnD (hR.sk D h)
        have hKy := (hk2.block D hDs (Array.getElem?_eq_some_iff.1 hK).1).trans hK
        have cNy := hRy.n.cell
        have cQy := hRy.q.cell
        have bRy := hRy.st.r
        have cRy := bRy.cell
        have fRy := bRy.frozen
        have hold := hRy.st.old
        rw [show W3.heap.size + 4 - 3 = W3.heap.size + 1 by omega] at cNy
        rw [show W3.heap.size + 4 - 4 = W3.heap.size by omega] at cQy
        clear hR hRy sty hk2 hm2 ht2 cN cQ cT
        rcases hc with rfl | rfl
        all_goals
          go_wp2
          have bR4 : Boxed (Wy.setCell ⟨w.heap.size + 1, 0, none⟩ (.bool true)) (w.heap.size + 1) 4 (.bool true) := Boxed.set (W := Wy) _ bRy
          have hb4 : Below w.heap.size w (Wy.setCell ⟨w.heap.size + 1, 0, none⟩ (.bool true)) := hold.setCell (p := ⟨w.heap.size + 1, 0, none⟩) (Nat.le_succ _) _
          have hK4 : (Wy.setCell ⟨w.heap.size + 1, 0, none⟩ (.bool true)).heap[D]? = some (.deferred (some [])) := by
            have hk : Keep (fun k => k ≠ w.heap.size + 1) Wy (Wy.setCell ⟨w.heap.size + 1, 0, none⟩ (.bool true)) := (Keep.refl _ Wy).setCell _ _ _ (fun h _ => h rfl)
            exact (hk.block D (by have := hTe.out; omega) (Array.getElem?_eq_some_iff.1 hKy).1).trans hKy
          have hTo := hTe.out
          refine leaves_marks [D] _ ((Marked.nil _).cons hK4 (by simp)) (fun W' hk' => ?_)
          have hDn : w.heap.size + 1 ∉ [D] := fun h => by have := List.mem_singleton.1 h; omega
          exact ⟨_, results_bool rfl rfl (hk'.boxed hDn bR4).cell, rfl, hk'.below hb4 (Nat.le_refl _) (fun z hz h => by have := List.mem_singleton.1 h; omega)⟩
      · rintro pre fp W W' ⟨xs', hs', bs', h⟩ hkp
        exact ⟨_, _, _, h.keep hTe.out hp0 (by omega) (by omega) hkp⟩
      · rintro c pre fp W W' h
        exact h.elim
      · rintro pre x a' _ fp W W' ⟨xs', hs', bs', bx, h, hv, hb, hz, hs2, he⟩ hkp
        exact ⟨_, _, _, bx, h.keep hTe.out hp0 (by omega) (by omega) hkp, hv.keep hkp hb, hb, hz, hs2, he⟩
end Go.Proofs.Ytcfcijgnkbmlaaa
