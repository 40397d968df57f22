
/- Walks: plain files of the law: copied, place, without. Condition: lengths that memory lets.
   Walks: plain files of the law: copied, place, without. Condition: lengths that memory lets.
   Walk: a step done to plain files. Condition: lengths that memory lets. -/
import Derived.Test.YtndekdgpibipnaaQGo
import Derived.Deep.RegionLaw
import Derived.Test.YtndekdgpibipnaaQGb
import Derived.Test.YtndekdgpibipnaaQApp1

namespace Go.Proofs.Ytndekdgpibipnaa
open Go.RowKit

/-- in W, v is a slice of these texts -/
def TxtAt (W : World) (v : Value) (l : List ByteArray) : Prop :=
  ∃ (ao : Option Addr) (cap : Nat), v = .slice ao l.length cap ∧ (0 < l.length → ∃ b off, ao = some ⟨b, off, none⟩ ∧ b < W.heap.size ∧ ∀ i (hi : i < l.length), W.cell? ⟨b, off + i, none⟩ = some (.string l[i]))
theorem TxtAt.kept {W W' : World} {v : Value} {l : List ByteArray} (h : TxtAt W v l) (hb : Below W.heap.size W W') : TxtAt W' v l := by
  obtain ⟨ao, cap, rfl, h⟩ := h
  refine ⟨ao, cap, rfl, fun h0 => ?_⟩
  obtain ⟨b, off, he, hB, hc⟩ := h h0
  exact ⟨b, off, he, by have := hb.size; omega, fun i hi => (hb.cell (p := ⟨b, off + i, none⟩) hB).trans (hc i hi)⟩
/-- texts in a row of one's own -/
def SOwn (W : World) (B : Nat) (v : Value) (xs : List ByteArray) : Prop := W.ownsRow B 9 1 v xs.length (scells xs)
theorem SOwn.nil (W : World) (B : Nat) : SOwn W B (.slice none 0 0) [] := World.ownsRow_nil _ _ _ _
theorem SOwn.at {W : World} {B : Nat} {v : Value} {xs : List ByteArray} (h : SOwn W B v xs) : TxtAt W v xs := by
  have h' : W.ownsRow B 9 1 v xs.length (scells xs) := h
  rcases id h'.2 with ⟨rfl, h0⟩ | ⟨g, cap, cur, rfl, hB, hg, hnc, hcm, hcs, ht⟩
  · exact ⟨none, 0, by rw [h0], by omega⟩
  · refine ⟨some ⟨g, 0, none⟩, cap, rfl, fun _ => ⟨g, 0, rfl, (Array.getElem?_eq_some_iff.1 hg).1, fun i hi => ?_⟩⟩
    rw [Nat.zero_add]
    have := h'.cells (g := g) rfl i (.string xs[i]) (by simp [scells, hi])
    rw [Addr.add_lit, Nat.zero_add] at this
    exact this
theorem SOwn.slice {W : World} {B : Nat} {v : Value} {xs : List ByteArray} (h : SOwn W B v xs) : ∃ a c, v = .slice a xs.length c := by
  obtain ⟨a, c, rfl, _⟩ := h.at
  exact ⟨a, c, rfl⟩
theorem SOwn.keep {W W' : World} {B : Nat} {v : Value} {xs : List ByteArray} {fp : Nat → Prop} (h : SOwn W B v xs) (hk : Keep fp W W') (hf : ∀ q, v.ownBlock = some q → fp q) : SOwn W' B v xs := hk.ownsRow h hf
theorem SOwn.lt {W : World} {B : Nat} {v : Value} {xs : List ByteArray} (h : SOwn W B v xs) (q : Nat) (e : v.ownBlock = some q) : B ≤ q ∧ q < W.heap.size := World.ownsRow.lt h q e
theorem SOwn.base {W : World} {B B' : Nat} {v : Value} {xs : List ByteArray} (h : SOwn W B v xs) (hB : B' ≤ B) : SOwn W B' v xs := row_base h hB
theorem scells_append (a b : List ByteArray) : scells (a ++ b) = scells a ++ scells b := by simp [scells]
theorem step_txt {ops : Array Oper} {o : Oper} {a : Act} {K : Act → World → Prop} {Q : Exit → Act → World → Prop} {E : Prop} {s x : Operand} (w0 : World) (B : Nat) (v : Value) (xs : List ByteArray) (t : ByteArray) (hr : SOwn w0 B v xs) (hB : B ≤ w0.heap.size) (hn : xs.length + 1 ≤ 1099511627776)
    (hgd : o.guard = none) (ho : o.op = .call { callee := .builtin .append, args := #[s, x], argTypes := #[44, 44] }) (hs : a.eval s = v) (hx : a.eval x = .slice (some ⟨w0.heap.size, 0, none⟩) 1 1)
    (h : ∀ g cap w', SOwn w' B (.slice (some ⟨g, 0, none⟩) (xs.length + 1) cap) (xs ++ [t]) → (w0.alloc (.cells #[.string t] 9)).grownBy w' v.ownBlock → (v.ownBlock = some g ∨ w0.heap.size ≤ g) → g < w'.heap.size → K (a.put o.dst (.slice (some ⟨g, 0, none⟩) (xs.length + 1) cap)) w') :
    if Region.wanted o (yielded ops a.tmps) = true then Oper.wp Try.prog o a (w0.alloc (.cells #[.string t] 9)).drew K Q else E := by
  refine step_app1 hgd s x 44 ho B 9 (.string .empty) 1 16 Try.underlying44 info_string rfl (by decide) v xs.length (scells xs) w0 hr hB hs #[.string t] 9 hx rfl (by simp [Value.oneCell']) (by omega) (by omega) ?_
  intro g cap w' h1 h2 h3 h4
  refine h g cap w' ?_ h2 h3 h4
  unfold SOwn
  rw [List.length_append, scells_append]
  exact h1

/-- plain files: names and data, in two rows apart -/
structure Pf (W : World) (B : Nat) (vn vd : Value) (ns ds : List ByteArray) : Prop where
  nm : SOwn W B vn ns
  dt : SOwn W B vd ds
  apart : ∀ q, vn.ownBlock = some q → vd.ownBlock ≠ some q
def pfFp (vn vd : Value) (q : Nat) : Prop := vn.ownBlock = some q ∨ vd.ownBlock = some q
theorem Pf.nil (W : World) (B : Nat) : Pf W B (.slice none 0 0) (.slice none 0 0) [] [] := ⟨SOwn.nil _ _, SOwn.nil _ _, fun q e => by cases e⟩
theorem Pf.keep {W W' : World} {B : Nat} {vn vd : Value} {ns ds : List ByteArray} {fp : Nat → Prop} (h : Pf W B vn vd ns ds) (hk : Keep fp W W') (hf : ∀ q, pfFp vn vd q → fp q) : Pf W' B vn vd ns ds := ⟨h.nm.keep hk (fun q e => hf q (.inl e)), h.dt.keep hk (fun q e => hf q (.inr e)), h.apart⟩
theorem Pf.lt {W : World} {B : Nat} {vn vd : Value} {ns ds : List ByteArray} (h : Pf W B vn vd ns ds) (q : Nat) (e : pfFp vn vd q) : B ≤ q ∧ q < W.heap.size := e.elim (h.nm.lt q) (h.dt.lt q)
theorem Pf.base {W : World} {B B' : Nat} {vn vd : Value} {ns ds : List ByteArray} (h : Pf W B vn vd ns ds) (hB : B' ≤ B) : Pf W B' vn vd ns ds := ⟨h.nm.base hB, h.dt.base hB, h.apart⟩
/-- plain files in a box, since a world -/
structure PfW (w : World) (B K0 m : Nat) (fp : Nat → Prop) (vn vd : Value) (ns ds : List ByteArray) (W : World) : Prop where
  box : Blk W m #[vn, vd] 84
  pf : Pf W B vn vd ns ds
  off : ∀ q, pfFp vn vd q → fp q ∨ K0 ≤ q
  fm : ∀ q, fp q → q < w.heap.size
  old : Keep (fun q => ¬ fp q) w W
  mb : w.heap.size ≤ m ∧ m < K0
  lo : B ≤ W.heap.size
  lk : K0 ≤ W.heap.size
theorem PfW.ne {w W : World} {B K0 m : Nat} {fp : Nat → Prop} {vn vd : Value} {ns ds : List ByteArray} (h : PfW w B K0 m fp vn vd ns ds W) {z : Nat} (h1 : w.heap.size ≤ z) (h2 : z < K0) (q : Nat) (e : pfFp vn vd q) : q ≠ z := by
  rcases h.off q e with e | e
  · have := h.fm q e; omega
  · omega
theorem PfW.appN {w W w1 : World} {B K0 m : Nat} {fp : Nat → Prop} {vn vd : Value} {ns ds : List ByteArray} {g cap : Nat} {x : ByteArray} {ob : Obj} (h : PfW w B K0 m fp vn vd ns ds W) (hown : SOwn w1 B (.slice (some ⟨g, 0, none⟩) (ns.length + 1) cap) (ns ++ [x])) (hgrow : (W.alloc ob).grownBy w1 vn.ownBlock) (hat : vn.ownBlock = some g ∨ W.heap.size ≤ g) :
    Blk w1 m #[vn, vd] 84 ∧ PfW w B K0 m fp (.slice (some ⟨g, 0, none⟩) (ns.length + 1) cap) vd (ns ++ [x]) ds (w1.setCell ⟨m, 0, none⟩ (.slice (some ⟨g, 0, none⟩) (ns.length + 1) cap)) ∧ Keep (fun q => q ≠ m ∧ vn.ownBlock ≠ some q) W (w1.setCell ⟨m, 0, none⟩ (.slice (some ⟨g, 0, none⟩) (ns.length + 1) cap)) := by
  have kg : Keep (fun q => vn.ownBlock ≠ some q) W w1 := keep_app hgrow
  have v1 := h.box.keep kg (fun e => h.ne h.mb.1 h.mb.2 m (.inl e) rfl)
  refine ⟨v1, ?_, (kg.mono (fun q h _ => h.2)).trans (keep_set w1 m 0 _) (fun q h _ => h.1)⟩
  have kz := kg.size
  have hm := h.box.lt
  have k5 := keep_set w1 m 0 (.slice (some ⟨g, 0, none⟩) (ns.length + 1) cap)
  have hw := h.old.size
  have hgm : g ≠ m := by
    rcases hat with e | e
    · exact h.ne h.mb.1 h.mb.2 g (.inl e)
    · omega
  have hg : fp g ∨ K0 ≤ g := by
    rcases hat with e | e
    · exact h.off g (.inl e)
    · exact .inr (Nat.le_trans h.lk e)
  refine ⟨v1.set 0 _, ⟨hown.keep k5 ?_, (h.pf.dt.keep kg (fun q e e2 => h.pf.apart q e2 e)).keep k5 (fun q e => h.ne h.mb.1 h.mb.2 q (.inr e)), ?_⟩, ?_, h.fm, ?_, h.mb, ?_, ?_⟩
  · intro q e
    have : q = g := by simpa [Value.ownBlock] using e.symm
    rw [this]; exact hgm
  · intro q e e2
    have : q = g := by simpa [Value.ownBlock] using e.symm
    subst this
    rcases hat with e3 | e3
    · exact h.pf.apart q e3 e2
    · have := (h.pf.dt.lt q e2).2; omega
  · intro q e
    rcases e with e | e
    · have : q = g := by simpa [Value.ownBlock] using e.symm
      subst this
      exact hg
    · exact h.off q (.inr e)
  · refine (h.old.trans kg (fun q hq hl e => ?_)).trans k5 (fun q hq hl => ?_)
    · exact hq ((h.off q (.inl e)).resolve_right (by have := h.mb; omega))
    · have := h.mb; omega
  · show B ≤ (w1.setCell _ _).heap.size
    have := h.lo
    simp [World.setCell]; omega
  · show K0 ≤ (w1.setCell _ _).heap.size
    have := h.lk
    simp [World.setCell]; omega
theorem PfW.appD {w W w1 : World} {B K0 m : Nat} {fp : Nat → Prop} {vn vd : Value} {ns ds : List ByteArray} {g cap : Nat} {x : ByteArray} {ob : Obj} (h : PfW w B K0 m fp vn vd ns ds W) (hown : SOwn w1 B (.slice (some ⟨g, 0, none⟩) (ds.length + 1) cap) (ds ++ [x])) (hgrow : (W.alloc ob).grownBy w1 vd.ownBlock) (hat : vd.ownBlock = some g ∨ W.heap.size ≤ g) :
    Blk w1 m #[vn, vd] 84 ∧ PfW w B K0 m fp vn (.slice (some ⟨g, 0, none⟩) (ds.length + 1) cap) ns (ds ++ [x]) (w1.setCell ⟨m, 1, none⟩ (.slice (some ⟨g, 0, none⟩) (ds.length + 1) cap)) ∧ Keep (fun q => q ≠ m ∧ vd.ownBlock ≠ some q) W (w1.setCell ⟨m, 1, none⟩ (.slice (some ⟨g, 0, none⟩) (ds.length + 1) cap)) := by
  have kg : Keep (fun q => vd.ownBlock ≠ some q) W w1 := keep_app hgrow
  have v1 := h.box.keep kg (fun e => h.ne h.mb.1 h.mb.2 m (.inr e) rfl)
  refine ⟨v1, ?_, (kg.mono (fun q h _ => h.2)).trans (keep_set w1 m 1 _) (fun q h _ => h.1)⟩
  have kz := kg.size
  have hm := h.box.lt
  have k5 := keep_set w1 m 1 (.slice (some ⟨g, 0, none⟩) (ds.length + 1) cap)
  have hw := h.old.size
  have hgm : g ≠ m := by
    rcases hat with e | e
    · exact h.ne h.mb.1 h.mb.2 g (.inr e)
    · omega
  have hg : fp g ∨ K0 ≤ g := by
    rcases hat with e | e
    · exact h.off g (.inr e)
    · exact .inr (Nat.le_trans h.lk e)
  refine ⟨v1.set 1 _, ⟨(h.pf.nm.keep kg (fun q e e2 => h.pf.apart q e e2)).keep k5 (fun q e => h.ne h.mb.1 h.mb.2 q (.inl e)), hown.keep k5 ?_, ?_⟩, ?_, h.fm, ?_, h.mb, ?_, ?_⟩
  · intro q e
    have : q = g := by simpa [Value.ownBlock] using e.symm
    rw [this]; exact hgm
  · intro q e2 e
    have : q = g := by simpa [Value.ownBlock] using e.symm
    subst this
    rcases hat with e3 | e3
    · exact h.pf.apart q e2 e3
    · have := (h.pf.nm.lt q e2).2; omega
  · intro q e
    rcases e with e | e
    · exact h.off q (.inl e)
    · have : q = g := by simpa [Value.ownBlock] using e.symm
      subst this
      exact hg
  · refine (h.old.trans kg (fun q hq hl e => ?_)).trans k5 (fun q hq hl => ?_)
    · exact hq ((h.off q (.inr e)).resolve_right (by have := h.mb; omega))
    · have := h.mb; omega
  · show B ≤ (w1.setCell _ _).heap.size
    have := h.lo
    simp [World.setCell]; omega
  · show K0 ≤ (w1.setCell _ _).heap.size
    have := h.lk
    simp [World.setCell]; omega
end Go.Proofs.Ytndekdgpibipnaa

namespace Go.Proofs.Ytndekdgpibipnaa
open Go.RowKit

attribute [local go_sem] Oper.semAt_some
theorem results_pf {fn : Func} {t : Tmp} (h : fn.results = #[.cell t 84]) {tmps : Array Value} {b : Nat} {u v : Value} {w : World} (h4 : tmps.getD t undef = .pointer (some ⟨b, 0, none⟩)) (hb : Blk w b #[u, v] 84) :
    (results fn tmps).run Try.prog w = .ok (.agg #[u, v]) w := by
  have hp' : tmps[t]?.getD undef = .pointer (some ⟨b, 0, none⟩) := by simpa using h4
  have hl : (loadVar 84 ⟨b, 0, none⟩).run Try.prog w = .ok (.agg #[u, v]) w :=
    run_loadVar_mid (P := Try.prog) w b 0 84 [u, v] _ (fun j x hj => by
      rcases j with _ | _ | j
      · obtain rfl : u = x := by simpa using hj
        simp [World.cell?, show w.heap[b]? = _ from hb]
      · obtain rfl : v = x := by simpa using hj
        simp [World.cell?, show w.heap[b]? = _ from hb]
      · simp at hj) Try.underlying84 rfl (by kernel_rfl)
  simp [results, h, hp', asAddr, hl]
-- [A
set_option maxRecDepth 100000 in
set_option maxHeartbeats 1000000 in
theorem copied_any (vn vd : Value) (ns ds : List ByteArray) (w : World) (hn : TxtAt w vn ns) (hd : TxtAt w vd ds) (hlen : ds.length = ns.length) (hl : ns.length ≤ 1073741824) :
    Calls Try.prog 49 #[.agg #[vn, vd]] w fun e w' => ∃ vn' vd', e = .returned (.agg #[vn', vd']) ∧ Pf w' w.heap.size vn' vd' ns ds ∧ Below w.heap.size w w' := by
  obtain ⟨an, cn, rfl, hn'⟩ := id hn
  obtain ⟨ad, cd, rfl, hd'⟩ := id hd
  obtain ⟨n, hnl⟩ : ∃ n, n = ns.length := ⟨_, rfl⟩
  rw [hlen, ← hnl]
  rw [← hnl] at hl
  have hBp : Blk (((w.alloc (.cells #[.slice an n cn, .slice ad n cd] 84)).alloc (.cells #[.slice none 0 0, .slice none 0 0] 84)).alloc (.cells #[.slice none 0 0, .slice none 0 0] 84)) w.heap.size #[.slice an n cn, .slice ad n cd] 84 := ((Blk.new _ _ _).alloc _).alloc _
  have hBr : Blk (((w.alloc (.cells #[.slice an n cn, .slice ad n cd] 84)).alloc (.cells #[.slice none 0 0, .slice none 0 0] 84)).alloc (.cells #[.slice none 0 0, .slice none 0 0] 84)) (w.heap.size + 1) #[.slice none 0 0, .slice none 0 0] 84 := by
    have := (Blk.new (w.alloc (.cells #[.slice an n cn, .slice ad n cd] 84)) #[.slice none 0 0, .slice none 0 0] 84).alloc (.cells #[.slice none 0 0, .slice none 0 0] 84)
    rwa [World.size_alloc] at this
  have hP0 : PfW w (w.heap.size + 3) (w.heap.size + 3) (w.heap.size + 2) (fun _ => False) (.slice none 0 0) (.slice none 0 0) [] [] (((w.alloc (.cells #[.slice an n cn, .slice ad n cd] 84)).alloc (.cells #[.slice none 0 0, .slice none 0 0] 84)).alloc (.cells #[.slice none 0 0, .slice none 0 0] 84)) := by
    refine ⟨?_, Pf.nil _ _, fun q e => e.elim (fun e => by cases e) (fun e => by cases e), fun _ h => h.elim, (((Keep.refl _ w).alloc _).alloc _).alloc _, by omega, by simp, by simp⟩
    have := Blk.new ((w.alloc (.cells #[.slice an n cn, .slice ad n cd] 84)).alloc (.cells #[.slice none 0 0, .slice none 0 0] 84)) #[.slice none 0 0, .slice none 0 0] 84
    rwa [World.size_alloc, World.size_alloc] at this
  replace hnl := Lib.hid hnl
  replace hlen := Lib.hid hlen
  replace hn := Lib.hid hn'
  replace hd := Lib.hid hd'
  clear hn' hd'
  go_enter Try.func49, Try.ntmps49
  go_wp2_with fail
  generalize ((w.alloc (.cells #[.slice an n cn, .slice ad n cd] 84)).alloc (.cells #[.slice none 0 0, .slice none 0 0] 84)).alloc (.cells #[.slice none 0 0, .slice none 0 0] 84) = W0 at *
  go_loopw [4] (fun ix W => ∃ (i : Nat) (vn' vd' : Value), i ≤ n ∧ ix = .int .i64 (i : Int) ∧ Blk W w.heap.size #[.slice an n cn, .slice ad n cd] 84 ∧ Blk W (w.heap.size + 1) #[.slice none 0 0, .slice none 0 0] 84 ∧ PfW w (w.heap.size + 3) (w.heap.size + 3) (w.heap.size + 2) (fun _ => False) vn' vd' (ns.take i) (ds.take i) W) (fun ix _ => n - (intOf ix).toNat)
  case atStart => exact ⟨0, _, _, Nat.zero_le _, rfl, hBp, hBr, hP0⟩
  clear hBp hBr hP0
  case round =>
    obtain ⟨i, vn', vd', hi, rfl, hBp, hBr, hP⟩ := hrel
    have hbw : Below w.heap.size w wr := Keep.below hP.old (Below.refl _ _) (Nat.le_refl _) (fun k h => fun h => h)
    have c0 : wr.cell? ⟨w.heap.size, 0, none⟩ = some (.slice an n cn) := by simp [hBp.cell]
    have c1 : wr.cell? ⟨w.heap.size, 1, none⟩ = some (.slice ad n cd) := by simp [hBp.cell]
    have o0 : wr.cell? ⟨w.heap.size + 2, 0, none⟩ = some vn' := by simp [hP.box.cell]
    have o1 : wr.cell? ⟨w.heap.size + 2, 1, none⟩ = some vd' := by simp [hP.box.cell]
    by_cases hil : i < n
    case neg =>
      obtain rfl : i = n := by omega
      rw [List.take_of_length_le (by rw [← hnl.out]; omega), List.take_of_length_le (by rw [hlen.out, ← hnl.out]; omega)] at hP
      obtain ⟨a1, k1, rfl⟩ := hP.pf.nm.slice
      obtain ⟨a2, k2, rfl⟩ := hP.pf.dt.slice
      rw [hlen.out, ← hnl.out] at o1 hP
      rw [← hnl.out] at o0
      have r0 : wr.cell? ⟨w.heap.size + 1, 0, none⟩ = some (.slice none 0 0) := by simp [hBr.cell]
      have r1 : wr.cell? ⟨w.heap.size + 1, 1, none⟩ = some (.slice none 0 0) := by simp [hBr.cell]
      have f0 := hBr.frozen 0
      have f1 := hBr.frozen 1
      have hE := heap_two (u := .slice a1 i k1) (v := .slice a2 i k2) hBr
      have hK : Keep (fun q => q ≠ w.heap.size + 1) wr ((wr.setCell ⟨w.heap.size + 1, 0, none⟩ (.slice a1 i k1)).setCell ⟨w.heap.size + 1, 1, none⟩ (.slice a2 i k2)) := ((Keep.refl _ wr).setCell _ _ _ (fun h _ => h rfl)).setCell _ _ _ (fun h _ => h rfl)
      have hP' := Lib.hid hP
      replace hE := Lib.hid hE
      clear hP hBp hBr
      go_wp2
      refine bodyPost_ret (results_pf rfl rfl hE.out) rfl ⟨_, _, rfl, (hP'.out.pf.keep hK (fun q e => by have := (hP'.out.pf.lt q e).1; omega)).base (by omega), hK.below hbw (Nat.le_refl _) (fun k h => by omega)⟩
    case pos =>
      obtain ⟨b, off, rfl, hbl, hx⟩ := hn.out (by rw [← hnl.out]; omega)
      obtain ⟨b2, off2, rfl, hbl2, hx2⟩ := hd.out (by rw [hlen.out, ← hnl.out]; omega)
      have hin : i < ns.length := by rw [← hnl.out]; exact hil
      have hid : i < ds.length := by rw [hlen.out, ← hnl.out]; exact hil
      have x0 := (hbw.cell (p := ⟨b, off + i, none⟩) hbl).trans (hx i hin)
      have x1 := hx2 i hid
      obtain ⟨NN, hNN⟩ : ∃ N, N = ns.take i := ⟨_, rfl⟩
      obtain ⟨DD, hDD⟩ : ∃ N, N = ds.take i := ⟨_, rfl⟩
      have hN1 := Lib.hid (show NN ++ [ns[i]] = ns.take (i + 1) by rw [hNN, List.take_succ_eq_append_getElem hin])
      have hD1 := Lib.hid (show DD ++ [ds[i]] = ds.take (i + 1) by rw [hDD, List.take_succ_eq_append_getElem hid])
      rw [← hNN, ← hDD] at hP
      have hNl := Lib.hid (show NN.length + 1 ≤ 1099511627776 by rw [hNN, List.length_take]; omega)
      have hDl := Lib.hid (show DD.length + 1 ≤ 1099511627776 by rw [hDD, List.length_take]; omega)
      generalize ns[i] = sx at *
      generalize ds[i] = sd at *
      clear hNN hDD hx hx2 hin hid hn hd
      obtain ⟨a1, k1, rfl⟩ := hP.pf.nm.slice
      obtain ⟨a2, k2, rfl⟩ := hP.pf.dt.slice
      have hown := hP.pf.nm
      have hlo := hP.lo
      have hcap := Lib.hid (fun (w1 : World) (g cap : Nat) (ob : Obj) h1 (h2 : (wr.alloc ob).grownBy w1 (Value.slice a1 NN.length k1).ownBlock) h3 => hP.appN (w1 := w1) (g := g) (cap := cap) (x := sx) (ob := ob) h1 h2 h3)
      have hbl' : b < wr.heap.size := Nat.lt_of_lt_of_le hbl hbw.size
      have hmd := hP.box.lt
      have hoff : Hid (∀ q, q < w.heap.size + 3 → (Value.slice a1 NN.length k1).ownBlock ≠ some q) := Lib.hid (fun q h e => by have := (hown.lt q e).1; omega)
      clear hP
      go_wp2_with fail
      go_cut [] (fun wx => ∃ a3 k3, Blk wx w.heap.size #[.slice (some ⟨b, off, none⟩) n cn, .slice (some ⟨b2, off2, none⟩) n cd] 84 ∧ Blk wx (w.heap.size + 1) #[.slice none 0 0, .slice none 0 0] 84 ∧ PfW w (w.heap.size + 3) (w.heap.size + 3) (w.heap.size + 2) (fun _ => False) (.slice a3 (NN ++ [sx]).length k3) (.slice a2 DD.length k2) (NN ++ [sx]) DD wx)
      case first =>
        go_region_law (refine step_txt wr (w.heap.size + 3) (.slice a1 NN.length k1) NN sx hown hlo hNl.out rfl rfl rfl rfl ?_; intro g cap w1 hown1 hgr1 hat1 hg1; have ⟨hb1, hO1, hK1⟩ := hcap.out w1 g cap _ hown1 hgr1 hat1; have f1 := hb1.frozen 0; have c1 : w1.cell? ⟨w.heap.size + 2, 0, none⟩ = some (.slice a1 NN.length k1) := (by simp [hb1.cell]); have l1 := hb1.lt; replace hO1 := Lib.hid hO1; replace hK1 := Lib.hid hK1; clear hb1)
        all_goals
          clear hown1 hgr1 hat1
          go_wp2_with fail
          go_meet
          exact ⟨_, cap, hBp.keep hK1.out ⟨by omega, hoff.out _ (by omega)⟩, hBr.keep hK1.out ⟨by omega, hoff.out _ (by omega)⟩, by rw [List.length_append]; exact hO1.out⟩
      case rest =>
        obtain ⟨wx, rfl⟩ : ∃ x : World, x = wc := ⟨_, rfl⟩
        obtain ⟨a3, k3, hBp3, hBr3, hP3⟩ := hcut
        clear hBp hBr c0 o0 o1 x0 c1 hown hlo hcap hmd hbl' hbw
        have hbw : Below w.heap.size w wx := Keep.below hP3.old (Below.refl _ _) (Nat.le_refl _) (fun k h => fun h => h)
        have c1 : wx.cell? ⟨w.heap.size, 1, none⟩ = some (.slice (some ⟨b2, off2, none⟩) n cd) := by simp [hBp3.cell]
        have o1 : wx.cell? ⟨w.heap.size + 2, 1, none⟩ = some (.slice a2 DD.length k2) := by simp [hP3.box.cell]
        have x2 := (hbw.cell (p := ⟨b2, off2 + i, none⟩) hbl2).trans x1
        have hown := hP3.pf.dt
        have hlo := hP3.lo
        have hcap := Lib.hid (fun (w1 : World) (g cap : Nat) (ob : Obj) h1 (h2 : (wx.alloc ob).grownBy w1 (Value.slice a2 DD.length k2).ownBlock) h3 => hP3.appD (w1 := w1) (g := g) (cap := cap) (x := sd) (ob := ob) h1 h2 h3)
        have hbl' : b2 < wx.heap.size := Nat.lt_of_lt_of_le hbl2 hbw.size
        have hmd := hP3.box.lt
        have hoff2 : Hid (∀ q, q < w.heap.size + 3 → (Value.slice a2 DD.length k2).ownBlock ≠ some q) := Lib.hid (fun q h e => by have := (hown.lt q e).1; omega)
        generalize (Value.slice a3 (NN ++ [sx]).length k3) = vN at *
        clear hP3 x1
        go_upto_region 6 with (fail)
        go_region_law (refine step_txt wx (w.heap.size + 3) (.slice a2 DD.length k2) DD sd hown hlo hDl.out rfl rfl rfl rfl ?_; intro g cap w1 hown1 hgr1 hat1 hg1; have ⟨hb1, hO1, hK1⟩ := hcap.out w1 g cap _ hown1 hgr1 hat1; have f1 := hb1.frozen 1; have c1 : w1.cell? ⟨w.heap.size + 2, 1, none⟩ = some (.slice a2 DD.length k2) := (by simp [hb1.cell]); have l1 := hb1.lt; replace hO1 := Lib.hid hO1; replace hK1 := Lib.hid hK1; clear hb1)
        all_goals
          clear hown1 hgr1 hat1
          have hBp4 := Lib.hid (hBp3.keep hK1.out ⟨by omega, hoff2.out _ (by omega)⟩)
          have hBr4 := Lib.hid (hBr3.keep hK1.out ⟨by omega, hoff2.out _ (by omega)⟩)
          have hP4 := hO1.out
          rw [hN1.out, hD1.out] at hP4
          replace hP4 := Lib.hid hP4
          clear hO1 hK1
          go_wp2
          go_roundw
          case rel => exact ⟨i + 1, _, _, by omega, by go_num, hBp4.out, hBr4.out, hP4.out⟩
          case measure => simp [intOf]; omega
-- A]
-- [B
theorem erase_len {α : Type} (l : List α) (k : Nat) : (l.eraseIdx k).length ≤ l.length := by
  rw [List.length_eraseIdx]; split <;> omega
theorem erase_skip {α : Type} {l : List α} {k : Nat} : (l.take (k + 1)).eraseIdx k = (l.take k).eraseIdx k := by
  rw [List.eraseIdx_of_length_le (l := l.take k) (by rw [List.length_take]; omega), List.eraseIdx_eq_take_drop_succ, List.drop_eq_nil_of_le (by rw [List.length_take]; omega), List.append_nil, List.take_take]
  congr 1
  omega
theorem erase_more {α : Type} {l : List α} {i k : Nat} (hi : i < l.length) (h : i ≠ k) : (l.take (i + 1)).eraseIdx k = (l.take i).eraseIdx k ++ [l[i]] := by
  rcases Nat.lt_or_gt_of_ne h with h | h
  · rw [List.eraseIdx_of_length_le (by rw [List.length_take]; omega), List.eraseIdx_of_length_le (by rw [List.length_take]; omega), List.take_succ_eq_append_getElem hi]
  · rw [List.take_succ_eq_append_getElem hi, List.eraseIdx_append_of_lt_length (by rw [List.length_take]; omega)]
set_option maxRecDepth 100000 in
set_option maxHeartbeats 1000000 in
theorem without_any (vn vd : Value) (ns ds : List ByteArray) (k : Nat) (w : World) (hn : TxtAt w vn ns) (hd : TxtAt w vd ds) (hlen : ds.length = ns.length) (hl : ns.length ≤ 1073741824) (hk63 : k ≤ 9223372036854775807) :
    Calls Try.prog 88 #[.agg #[vn, vd], .int .i64 (k : Int)] w fun e w' => ∃ vn' vd', e = .returned (.agg #[vn', vd']) ∧ Pf w' w.heap.size vn' vd' (ns.eraseIdx k) (ds.eraseIdx k) ∧ Below w.heap.size w w' := by
  obtain ⟨an, cn, rfl, hn'⟩ := id hn
  obtain ⟨ad, cd, rfl, hd'⟩ := id hd
  obtain ⟨n, hnl⟩ : ∃ n, n = ns.length := ⟨_, rfl⟩
  rw [hlen, ← hnl]
  rw [← hnl] at hl
  have hBp : Blk (((w.alloc (.cells #[.slice an n cn, .slice ad n cd] 84)).alloc (.cells #[.slice none 0 0, .slice none 0 0] 84)).alloc (.cells #[.slice none 0 0, .slice none 0 0] 84)) w.heap.size #[.slice an n cn, .slice ad n cd] 84 := ((Blk.new _ _ _).alloc _).alloc _
  have hBr : Blk (((w.alloc (.cells #[.slice an n cn, .slice ad n cd] 84)).alloc (.cells #[.slice none 0 0, .slice none 0 0] 84)).alloc (.cells #[.slice none 0 0, .slice none 0 0] 84)) (w.heap.size + 1) #[.slice none 0 0, .slice none 0 0] 84 := by
    have := (Blk.new (w.alloc (.cells #[.slice an n cn, .slice ad n cd] 84)) #[.slice none 0 0, .slice none 0 0] 84).alloc (.cells #[.slice none 0 0, .slice none 0 0] 84)
    rwa [World.size_alloc] at this
  have hP0 : PfW w (w.heap.size + 3) (w.heap.size + 3) (w.heap.size + 2) (fun _ => False) (.slice none 0 0) (.slice none 0 0) [] [] (((w.alloc (.cells #[.slice an n cn, .slice ad n cd] 84)).alloc (.cells #[.slice none 0 0, .slice none 0 0] 84)).alloc (.cells #[.slice none 0 0, .slice none 0 0] 84)) := by
    refine ⟨?_, Pf.nil _ _, fun q e => e.elim (fun e => by cases e) (fun e => by cases e), fun _ h => h.elim, (((Keep.refl _ w).alloc _).alloc _).alloc _, by omega, by simp, by simp⟩
    have := Blk.new ((w.alloc (.cells #[.slice an n cn, .slice ad n cd] 84)).alloc (.cells #[.slice none 0 0, .slice none 0 0] 84)) #[.slice none 0 0, .slice none 0 0] 84
    rwa [World.size_alloc, World.size_alloc] at this
  replace hnl := Lib.hid hnl
  replace hlen := Lib.hid hlen
  replace hn := Lib.hid hn'
  replace hd := Lib.hid hd'
  clear hn' hd'
  go_enter Try.func88, Try.ntmps88
  go_wp2_with fail
  generalize ((w.alloc (.cells #[.slice an n cn, .slice ad n cd] 84)).alloc (.cells #[.slice none 0 0, .slice none 0 0] 84)).alloc (.cells #[.slice none 0 0, .slice none 0 0] 84) = W0 at *
  go_loopw [6] (fun ix W => ∃ (i : Nat) (vn' vd' : Value), i ≤ n ∧ ix = .int .i64 (i : Int) ∧ Blk W w.heap.size #[.slice an n cn, .slice ad n cd] 84 ∧ Blk W (w.heap.size + 1) #[.slice none 0 0, .slice none 0 0] 84 ∧ PfW w (w.heap.size + 3) (w.heap.size + 3) (w.heap.size + 2) (fun _ => False) vn' vd' ((ns.take i).eraseIdx k) ((ds.take i).eraseIdx k) W) (fun ix _ => n - (intOf ix).toNat)
  case atStart => exact ⟨0, _, _, Nat.zero_le _, rfl, hBp, hBr, hP0⟩
  clear hBp hBr hP0
  case round =>
    obtain ⟨i, vn', vd', hi, rfl, hBp, hBr, hP⟩ := hrel
    have hbw : Below w.heap.size w wr := Keep.below hP.old (Below.refl _ _) (Nat.le_refl _) (fun k h => fun h => h)
    have c0 : wr.cell? ⟨w.heap.size, 0, none⟩ = some (.slice an n cn) := by simp [hBp.cell]
    have c1 : wr.cell? ⟨w.heap.size, 1, none⟩ = some (.slice ad n cd) := by simp [hBp.cell]
    have o0 : wr.cell? ⟨w.heap.size + 2, 0, none⟩ = some vn' := by simp [hP.box.cell]
    have o1 : wr.cell? ⟨w.heap.size + 2, 1, none⟩ = some vd' := by simp [hP.box.cell]
    by_cases hil : i < n
    case neg =>
      obtain rfl : i = n := by omega
      rw [List.take_of_length_le (by rw [← hnl.out]; omega), List.take_of_length_le (by rw [hlen.out, ← hnl.out]; omega)] at hP
      obtain ⟨a1, k1, rfl⟩ := hP.pf.nm.slice
      obtain ⟨a2, k2, rfl⟩ := hP.pf.dt.slice
      obtain ⟨n1, hn1⟩ : ∃ x, x = (ns.eraseIdx k).length := ⟨_, rfl⟩
      obtain ⟨n2, hn2⟩ : ∃ x, x = (ds.eraseIdx k).length := ⟨_, rfl⟩
      rw [← hn1] at o0 hP
      rw [← hn2] at o1 hP
      clear hn1 hn2
      have r0 : wr.cell? ⟨w.heap.size + 1, 0, none⟩ = some (.slice none 0 0) := by simp [hBr.cell]
      have r1 : wr.cell? ⟨w.heap.size + 1, 1, none⟩ = some (.slice none 0 0) := by simp [hBr.cell]
      have f0 := hBr.frozen 0
      have f1 := hBr.frozen 1
      have hE := heap_two (u := .slice a1 n1 k1) (v := .slice a2 n2 k2) hBr
      have hK : Keep (fun q => q ≠ w.heap.size + 1) wr ((wr.setCell ⟨w.heap.size + 1, 0, none⟩ (.slice a1 n1 k1)).setCell ⟨w.heap.size + 1, 1, none⟩ (.slice a2 n2 k2)) := ((Keep.refl _ wr).setCell _ _ _ (fun h _ => h rfl)).setCell _ _ _ (fun h _ => h rfl)
      have hP' := Lib.hid hP
      replace hE := Lib.hid hE
      clear hP hBp hBr
      go_wp2
      refine bodyPost_ret (results_pf rfl rfl hE.out) rfl ⟨_, _, rfl, (hP'.out.pf.keep hK (fun q e => by have := (hP'.out.pf.lt q e).1; omega)).base (by omega), hK.below hbw (Nat.le_refl _) (fun k h => by omega)⟩
    case pos =>
      by_cases hik : i = k
      · subst hik
        rw [← erase_skip] at hP
        rw [← erase_skip (l := ds)] at hP
        have hBp' := Lib.hid hBp
        have hBr' := Lib.hid hBr
        have hP' := Lib.hid hP
        clear hP hBp hBr hn hd o0 o1
        go_wp2
        go_roundw
        case rel => exact ⟨i + 1, _, _, by omega, by go_num, hBp'.out, hBr'.out, hP'.out⟩
        case measure => simp [intOf]; omega
      have hikb : ((i : Int) != (k : Int)) = true := by simp; omega
      obtain ⟨b, off, rfl, hbl, hx⟩ := hn.out (by rw [← hnl.out]; omega)
      obtain ⟨b2, off2, rfl, hbl2, hx2⟩ := hd.out (by rw [hlen.out, ← hnl.out]; omega)
      have hin : i < ns.length := by rw [← hnl.out]; exact hil
      have hid : i < ds.length := by rw [hlen.out, ← hnl.out]; exact hil
      have x0 := (hbw.cell (p := ⟨b, off + i, none⟩) hbl).trans (hx i hin)
      have x1 := hx2 i hid
      obtain ⟨NN, hNN⟩ : ∃ N, N = (ns.take i).eraseIdx k := ⟨_, rfl⟩
      obtain ⟨DD, hDD⟩ : ∃ N, N = (ds.take i).eraseIdx k := ⟨_, rfl⟩
      have hN1 := Lib.hid (show NN ++ [ns[i]] = (ns.take (i + 1)).eraseIdx k by rw [hNN]; exact (erase_more hin hik).symm)
      have hD1 := Lib.hid (show DD ++ [ds[i]] = (ds.take (i + 1)).eraseIdx k by rw [hDD]; exact (erase_more hid hik).symm)
      rw [← hNN, ← hDD] at hP
      have hNl := Lib.hid (show NN.length + 1 ≤ 1099511627776 by rw [hNN]; have := erase_len (ns.take i) k; rw [List.length_take] at this; omega)
      have hDl := Lib.hid (show DD.length + 1 ≤ 1099511627776 by rw [hDD]; have := erase_len (ds.take i) k; rw [List.length_take] at this; omega)
      generalize ns[i] = sx at *
      generalize ds[i] = sd at *
      clear hNN hDD hx hx2 hin hid hn hd
      obtain ⟨a1, k1, rfl⟩ := hP.pf.nm.slice
      obtain ⟨a2, k2, rfl⟩ := hP.pf.dt.slice
      have hown := hP.pf.nm
      have hlo := hP.lo
      have hcap := Lib.hid (fun (w1 : World) (g cap : Nat) (ob : Obj) h1 (h2 : (wr.alloc ob).grownBy w1 (Value.slice a1 NN.length k1).ownBlock) h3 => hP.appN (w1 := w1) (g := g) (cap := cap) (x := sx) (ob := ob) h1 h2 h3)
      have hbl' : b < wr.heap.size := Nat.lt_of_lt_of_le hbl hbw.size
      have hmd := hP.box.lt
      have hoff : Hid (∀ q, q < w.heap.size + 3 → (Value.slice a1 NN.length k1).ownBlock ≠ some q) := Lib.hid (fun q h e => by have := (hown.lt q e).1; omega)
      clear hP
      go_wp2_with fail
      go_cut [] (fun wx => ∃ a3 k3, Blk wx w.heap.size #[.slice (some ⟨b, off, none⟩) n cn, .slice (some ⟨b2, off2, none⟩) n cd] 84 ∧ Blk wx (w.heap.size + 1) #[.slice none 0 0, .slice none 0 0] 84 ∧ PfW w (w.heap.size + 3) (w.heap.size + 3) (w.heap.size + 2) (fun _ => False) (.slice a3 (NN ++ [sx]).length k3) (.slice a2 DD.length k2) (NN ++ [sx]) DD wx)
      case first =>
        go_region_law (refine step_txt wr (w.heap.size + 3) (.slice a1 NN.length k1) NN sx hown hlo hNl.out rfl rfl rfl rfl ?_; intro g cap w1 hown1 hgr1 hat1 hg1; have ⟨hb1, hO1, hK1⟩ := hcap.out w1 g cap _ hown1 hgr1 hat1; have f1 := hb1.frozen 0; have c1 : w1.cell? ⟨w.heap.size + 2, 0, none⟩ = some (.slice a1 NN.length k1) := (by simp [hb1.cell]); have l1 := hb1.lt; replace hO1 := Lib.hid hO1; replace hK1 := Lib.hid hK1; clear hb1)
        all_goals
          clear hown1 hgr1 hat1
          go_wp2_with fail
          go_meet
          exact ⟨_, cap, hBp.keep hK1.out ⟨by omega, hoff.out _ (by omega)⟩, hBr.keep hK1.out ⟨by omega, hoff.out _ (by omega)⟩, by rw [List.length_append]; exact hO1.out⟩
      case rest =>
        obtain ⟨wx, rfl⟩ : ∃ x : World, x = wc := ⟨_, rfl⟩
        obtain ⟨a3, k3, hBp3, hBr3, hP3⟩ := hcut
        clear hBp hBr c0 o0 o1 x0 c1 hown hlo hcap hmd hbl' hbw
        have hbw : Below w.heap.size w wx := Keep.below hP3.old (Below.refl _ _) (Nat.le_refl _) (fun k h => fun h => h)
        have c1 : wx.cell? ⟨w.heap.size, 1, none⟩ = some (.slice (some ⟨b2, off2, none⟩) n cd) := by simp [hBp3.cell]
        have o1 : wx.cell? ⟨w.heap.size + 2, 1, none⟩ = some (.slice a2 DD.length k2) := by simp [hP3.box.cell]
        have x2 := (hbw.cell (p := ⟨b2, off2 + i, none⟩) hbl2).trans x1
        have hown := hP3.pf.dt
        have hlo := hP3.lo
        have hcap := Lib.hid (fun (w1 : World) (g cap : Nat) (ob : Obj) h1 (h2 : (wx.alloc ob).grownBy w1 (Value.slice a2 DD.length k2).ownBlock) h3 => hP3.appD (w1 := w1) (g := g) (cap := cap) (x := sd) (ob := ob) h1 h2 h3)
        have hbl' : b2 < wx.heap.size := Nat.lt_of_lt_of_le hbl2 hbw.size
        have hmd := hP3.box.lt
        have hoff2 : Hid (∀ q, q < w.heap.size + 3 → (Value.slice a2 DD.length k2).ownBlock ≠ some q) := Lib.hid (fun q h e => by have := (hown.lt q e).1; omega)
        generalize (Value.slice a3 (NN ++ [sx]).length k3) = vN at *
        clear hP3 x1
        go_upto_region 7 with (fail)
        go_region_law (refine step_txt wx (w.heap.size + 3) (.slice a2 DD.length k2) DD sd hown hlo hDl.out rfl rfl rfl rfl ?_; intro g cap w1 hown1 hgr1 hat1 hg1; have ⟨hb1, hO1, hK1⟩ := hcap.out w1 g cap _ hown1 hgr1 hat1; have f1 := hb1.frozen 1; have c1 : w1.cell? ⟨w.heap.size + 2, 1, none⟩ = some (.slice a2 DD.length k2) := (by simp [hb1.cell]); have l1 := hb1.lt; replace hO1 := Lib.hid hO1; replace hK1 := Lib.hid hK1; clear hb1)
        all_goals
          clear hown1 hgr1 hat1
          have hBp4 := Lib.hid (hBp3.keep hK1.out ⟨by omega, hoff2.out _ (by omega)⟩)
          have hBr4 := Lib.hid (hBr3.keep hK1.out ⟨by omega, hoff2.out _ (by omega)⟩)
          have hP4 := hO1.out
          rw [hN1.out, hD1.out] at hP4
          replace hP4 := Lib.hid hP4
          clear hO1 hK1
          go_wp2
          go_roundw
          case rel => exact ⟨i + 1, _, _, by omega, by go_num, hBp4.out, hBr4.out, hP4.out⟩
          case measure => simp [intOf]; omega
-- B]
-- [C
/-- where a text stands first; -1: nowhere -/
def IsPlace (ns : List ByteArray) (nm : ByteArray) (k : Int) : Prop := (k = -1 ∧ nm ∉ ns) ∨ ∃ (i : Nat) (h : i < ns.length), k = (i : Int) ∧ ns[i] = nm ∧ nm ∉ ns.take i
set_option maxRecDepth 100000 in
set_option maxHeartbeats 1000000 in
theorem place_any (vn : Value) (ad : Option Addr) (md cd : Nat) (ns : List ByteArray) (nm : ByteArray) (w : World) (hn : TxtAt w vn ns) (hl : ns.length ≤ 1073741824) :
    Calls Try.prog 87 #[.agg #[vn, .slice ad md cd], .string nm] w fun e w' => ∃ k, e = .returned (.int .i64 k) ∧ IsPlace ns nm k ∧ Below w.heap.size w w' := by
  obtain ⟨an, cn, rfl, hn'⟩ := id hn
  obtain ⟨n, hnl⟩ : ∃ n, n = ns.length := ⟨_, rfl⟩
  rw [← hnl]
  rw [← hnl] at hl
  replace hnl := Lib.hid hnl
  replace hn := Lib.hid hn'
  clear hn'
  obtain ⟨W0, hW0⟩ : ∃ W0, w.alloc (.cells #[.slice an n cn, .slice ad md cd] 84) = W0 := ⟨_, rfl⟩
  have hBp : Blk W0 w.heap.size #[.slice an n cn, .slice ad md cd] 84 := by rw [← hW0]; exact Blk.new _ _ _
  have hb0 : Below w.heap.size w W0 := by rw [← hW0]; exact (Below.refl _ _).alloc (Nat.le_refl _) _
  go_enter Try.func87, Try.ntmps87
  go_wp2_with fail
  clear hW0
  go_loopw [5] (fun ix W => ∃ i : Nat, i ≤ n ∧ ix = .int .i64 (i : Int) ∧ W = W0 ∧ nm ∉ ns.take i) (fun ix _ => n - (intOf ix).toNat)
  case atStart => exact ⟨0, Nat.zero_le _, rfl, rfl, by simp⟩
  case round =>
    obtain ⟨i, hi, rfl, rfl, hnot⟩ := hrel
    have c0 : wr.cell? ⟨w.heap.size, 0, none⟩ = some (.slice an n cn) := by simp [hBp.cell]
    by_cases hil : i < n
    case neg =>
      obtain rfl : i = n := by omega
      rw [List.take_of_length_le (by rw [← hnl.out]; omega)] at hnot
      replace hnot := Lib.hid hnot
      go_wp2
      go_ret
      exact ⟨_, rfl, .inl ⟨rfl, hnot.out⟩, hb0⟩
    obtain ⟨b, off, rfl, hbl, hx⟩ := hn.out (by rw [← hnl.out]; omega)
    have hin : i < ns.length := by rw [← hnl.out]; exact hil
    have x0 := (hb0.cell (p := ⟨b, off + i, none⟩) hbl).trans (hx i hin)
    by_cases hq : ns[i] = nm
    · have hend : Hid (IsPlace ns nm (i : Int)) := Lib.hid (.inr ⟨i, hin, rfl, hq, hnot⟩)
      rw [hq] at x0
      clear hnot hq hx hn
      go_wp2
      go_ret
      exact ⟨_, rfl, hend.out, hb0⟩
    · obtain ⟨q1, q2⟩ := toList_bne hq
      have hnot1 : Hid (nm ∉ ns.take (i + 1)) := Lib.hid (by
        rw [List.take_succ_eq_append_getElem hin]
        intro h
        rcases List.mem_append.1 h with h | h
        · exact hnot h
        · exact hq (List.mem_singleton.1 h).symm)
      generalize ns[i] = sx at *
      clear hnot hq hx hn
      go_wp2
      go_roundw
      case rel => exact ⟨i + 1, by omega, by go_num, by trivial, hnot1.out⟩
      case measure => simp [intOf]; omega
-- C]
end Go.Proofs.Ytndekdgpibipnaa

namespace Go.Proofs.Ytndekdgpibipnaa
open Go.RowKit

attribute [local go_sem] Oper.semAt_some
/-- what a step does to plain files -/
def DoesTo (y : AcF) (ns ds ns' ds' : List ByteArray) : Prop :=
  (y.kind = 0 ∧ ns' = ns ++ [y.name] ∧ ds' = ds ++ [.empty]) ∨
  (y.kind = 1 ∧ ∃ (i : Nat) (_ : i < ns.length) (h2 : i < ds.length), ns[i] = y.name ∧ ns' = ns ∧ ds' = ds.set i (ds[i] ++ y.data)) ∨
  (y.kind = 2 ∧ y.name = y.dest ∧ ns' = ns ∧ ds' = ds) ∨
  (y.kind = 2 ∧ y.name ≠ y.dest ∧ ∃ (i : Nat) (_ : i < ns.length) (h2 : i < ds.length), ns[i] = y.name ∧
    ((y.dest ∉ ns.eraseIdx i ∧ ns' = ns.eraseIdx i ++ [y.dest] ∧ ds' = ds.eraseIdx i ++ [ds[i]]) ∨
     ∃ (k : Nat) (_ : k < (ns.eraseIdx i).length), (ns.eraseIdx i)[k] = y.dest ∧ ns' = (ns.eraseIdx i).eraseIdx k ++ [y.dest] ∧ ds' = (ds.eraseIdx i).eraseIdx k ++ [ds[i]])) ∨
  (y.kind = 3 ∧ ∃ (i : Nat) (_ : i < ns.length), ns[i] = y.name ∧ ns' = ns.eraseIdx i ∧ ds' = ds.eraseIdx i)
/-- how plain files stand behind a step -/
def DoesEnds (y : AcF) (B : Nat) (vn vd : Value) (ns ds : List ByteArray) (w : World) (e : Ending) (w' : World) : Prop :=
  ∃ vn' vd' ns' ds', e = .returned (.agg #[vn', vd']) ∧ DoesTo y ns ds ns' ds' ∧ Pf w' B vn' vd' ns' ds' ∧ (∀ q, pfFp vn' vd' q → pfFp vn vd q ∨ w.heap.size ≤ q) ∧ Keep (fun q => ¬ pfFp vn vd q) w w'
def actV (y : AcF) (u : Value) : Array Value := #[.int .i64 y.kind, .int .i64 y.at', .int .i64 y.num, .string y.name, .string y.dest, .string y.data, u]
theorem PfW.start {w : World} {B : Nat} {vn vd : Value} {ns ds : List ByteArray} (h : Pf w B vn vd ns ds) (hB : B ≤ w.heap.size) (y : AcF) (u : Value) :
    PfW w B (w.heap.size + 3) w.heap.size (pfFp vn vd) vn vd ns ds (((w.alloc (.cells #[vn, vd] 84)).alloc (.cells (actV y u) 71)).alloc (.cells #[.slice none 0 0, .slice none 0 0] 84)) ∧
    Blk (((w.alloc (.cells #[vn, vd] 84)).alloc (.cells (actV y u) 71)).alloc (.cells #[.slice none 0 0, .slice none 0 0] 84)) (w.heap.size + 1) (actV y u) 71 ∧
    Blk (((w.alloc (.cells #[vn, vd] 84)).alloc (.cells (actV y u) 71)).alloc (.cells #[.slice none 0 0, .slice none 0 0] 84)) (w.heap.size + 2) #[.slice none 0 0, .slice none 0 0] 84 := by
  have hlt := h.lt
  refine ⟨⟨((Blk.new w #[vn, vd] _).alloc _).alloc _, h.keep (fp := fun q => q < w.heap.size) ((((Keep.refl _ w).alloc _).alloc _).alloc _) (fun q e => (hlt q e).2), fun q e => .inl e, fun q e => (hlt q e).2, (((Keep.refl _ w).alloc _).alloc _).alloc _, by omega, by simp; omega, by simp⟩, ?_, ?_⟩
  · have := (Blk.new (w.alloc (.cells #[vn, vd] 84)) (actV y u) 71).alloc (.cells #[.slice none 0 0, .slice none 0 0] 84)
    rwa [World.size_alloc] at this
  · have := Blk.new ((w.alloc (.cells #[vn, vd] 84)).alloc (.cells (actV y u) 71)) #[.slice none 0 0, .slice none 0 0] 84
    rwa [World.size_alloc, World.size_alloc] at this
/-- the row of the result laid, and returned -/
theorem does_end {y : AcF} {B : Nat} {vn vd v1 v2 : Value} {ns ds ns' ds' : List ByteArray} {w W : World} (hP : PfW w B (w.heap.size + 3) w.heap.size (pfFp vn vd) v1 v2 ns' ds' W) (hr : Blk W (w.heap.size + 2) #[.slice none 0 0, .slice none 0 0] 84) (hdo : DoesTo y ns ds ns' ds') :
    Blk ((W.setCell ⟨w.heap.size + 2, 0, none⟩ v1).setCell ⟨w.heap.size + 2, 1, none⟩ v2) (w.heap.size + 2) #[v1, v2] 84 ∧ DoesEnds y B vn vd ns ds w (.returned (.agg #[v1, v2])) ((W.setCell ⟨w.heap.size + 2, 0, none⟩ v1).setCell ⟨w.heap.size + 2, 1, none⟩ v2) := by
  have hK : Keep (fun q => q ≠ w.heap.size + 2) W ((W.setCell ⟨w.heap.size + 2, 0, none⟩ v1).setCell ⟨w.heap.size + 2, 1, none⟩ v2) := ((Keep.refl _ W).setCell _ _ _ (fun h _ => h rfl)).setCell _ _ _ (fun h _ => h rfl)
  refine ⟨heap_two hr, v1, v2, ns', ds', rfl, hdo, hP.pf.keep hK (fun q e => hP.ne (by omega) (by omega) q e), fun q e => (hP.off q e).imp id (fun h => by omega), hP.old.trans hK (fun q h hl => by omega)⟩
theorem PfW.keep {w W W' : World} {B K0 m : Nat} {fp fk : Nat → Prop} {vn vd : Value} {ns ds : List ByteArray} (h : PfW w B K0 m fp vn vd ns ds W) (hk : Keep fk W W') (hf : ∀ q, q < W.heap.size → fk q) : PfW w B K0 m fp vn vd ns ds W' :=
  ⟨h.box.keep hk (hf m h.box.lt), h.pf.keep hk (fun q e => hf q (h.pf.lt q e).2), h.off, h.fm, h.old.trans hk (fun q _ hl => hf q (Nat.lt_of_lt_of_le hl h.old.size)), h.mb, Nat.le_trans h.lo hk.size, Nat.le_trans h.lk hk.size⟩
theorem PfW.beyond {w W W' : World} {B K0 m : Nat} {fp : Nat → Prop} {vn vd : Value} {ns ds : List ByteArray} (h : PfW w B K0 m fp vn vd ns ds W) (hb : Below W.heap.size W W') : PfW w B K0 m fp vn vd ns ds W' := h.keep (Keep.of_below (fp := fun q => q < W.heap.size) hb (fun _ h _ => h)) (fun _ h => h)
theorem PfW.appN' {w W w1 : World} {B K0 m n : Nat} {fp : Nat → Prop} {vn vd : Value} {ns ds : List ByteArray} {g cap : Nat} {x : ByteArray} {cs : List Value} (h : PfW w B K0 m fp vn vd ns ds W) (hn : n = ns.length) (hcs : cs = scells ns) (ob : Obj) (hown : w1.ownsRow B 9 1 (.slice (some ⟨g, 0, none⟩) (n + 1) cap) (n + 1) (cs ++ [.string x])) (hgrow : (W.alloc ob).grownBy w1 vn.ownBlock) (hat : vn.ownBlock = some g ∨ W.heap.size ≤ g) :
    Blk w1 m #[vn, vd] 84 ∧ PfW w B K0 m fp (.slice (some ⟨g, 0, none⟩) (n + 1) cap) vd (ns ++ [x]) ds (w1.setCell ⟨m, 0, none⟩ (.slice (some ⟨g, 0, none⟩) (n + 1) cap)) ∧ Keep (fun q => q ≠ m ∧ vn.ownBlock ≠ some q) W (w1.setCell ⟨m, 0, none⟩ (.slice (some ⟨g, 0, none⟩) (n + 1) cap)) := by
  subst hn hcs
  exact h.appN (by unfold SOwn; rw [List.length_append, scells_append]; exact hown) hgrow hat
theorem PfW.appD' {w W w1 : World} {B K0 m n : Nat} {fp : Nat → Prop} {vn vd : Value} {ns ds : List ByteArray} {g cap : Nat} {x : ByteArray} {cs : List Value} (h : PfW w B K0 m fp vn vd ns ds W) (hn : n = ds.length) (hcs : cs = scells ds) (ob : Obj) (hown : w1.ownsRow B 9 1 (.slice (some ⟨g, 0, none⟩) (n + 1) cap) (n + 1) (cs ++ [.string x])) (hgrow : (W.alloc ob).grownBy w1 vd.ownBlock) (hat : vd.ownBlock = some g ∨ W.heap.size ≤ g) :
    Blk w1 m #[vn, vd] 84 ∧ PfW w B K0 m fp vn (.slice (some ⟨g, 0, none⟩) (n + 1) cap) ns (ds ++ [x]) (w1.setCell ⟨m, 1, none⟩ (.slice (some ⟨g, 0, none⟩) (n + 1) cap)) ∧ Keep (fun q => q ≠ m ∧ vd.ownBlock ≠ some q) W (w1.setCell ⟨m, 1, none⟩ (.slice (some ⟨g, 0, none⟩) (n + 1) cap)) := by
  subst hn hcs
  exact h.appD (by unfold SOwn; rw [List.length_append, scells_append]; exact hown) hgrow hat
/-- the row of data turned at a place -/
theorem PfW.setD {w W : World} {B K0 m g cap : Nat} {fp : Nat → Prop} {vn : Value} {ns ds : List ByteArray} {n i : Nat} (h : PfW w B K0 m fp vn (.slice (some ⟨g, 0, none⟩) n cap) ns ds W) (hn : n = ds.length) (t : ByteArray) :
    PfW w B K0 m fp vn (.slice (some ⟨g, 0, none⟩) n cap) ns (ds.set i t) (W.setCell ⟨g, i, none⟩ (.string t)) ∧ Keep (fun q => q ≠ g) W (W.setCell ⟨g, i, none⟩ (.string t)) := by
  subst hn
  have kp : Keep (fun q => q ≠ g) W (W.setCell ⟨g, i, none⟩ (.string t)) := keep_set W g i _
  have hg : pfFp vn (.slice (some ⟨g, 0, none⟩) ds.length cap) g := .inr rfl
  have hown : W.ownsRow B 9 1 (.slice (some ⟨g, 0, none⟩) ds.length cap) ds.length (scells ds) := h.pf.dt
  have s1 := (hown.stored i (.string t)).1
  rw [scells_set] at s1
  refine ⟨⟨h.box.keep kp (fun e => h.ne h.mb.1 h.mb.2 g hg e.symm), ⟨h.pf.nm.keep kp (fun q e e2 => h.pf.apart q e (by rw [e2]; rfl)), ?_, h.pf.apart⟩, h.off, h.fm, h.old.trans kp (fun q hq hl e => ?_), h.mb, Nat.le_trans h.lo kp.size, Nat.le_trans h.lk kp.size⟩, kp⟩
  · unfold SOwn
    rw [List.length_set]
    exact s1
  · subst e
    rcases h.off _ hg with e | e
    · exact hq e
    · have := h.mb; omega
/-- other rows laid into the box -/
theorem PfW.other {w W W' : World} {B K0 m : Nat} {fp : Nat → Prop} {vn vd vn' vd' : Value} {ns ds ns' ds' : List ByteArray} (h : PfW w B K0 m fp vn vd ns ds W) (hb : Below W.heap.size W W') (hp : Pf W' W.heap.size vn' vd' ns' ds') :
    PfW w B K0 m fp vn' vd' ns' ds' ((W'.setCell ⟨m, 0, none⟩ vn').setCell ⟨m, 1, none⟩ vd') ∧ Keep (fun q => q ≠ m ∧ q < W.heap.size) W ((W'.setCell ⟨m, 0, none⟩ vn').setCell ⟨m, 1, none⟩ vd') := by
  have hb1 : Blk W' m #[vn, vd] 84 := (hb.block m h.box.lt).trans h.box
  have k5 : Keep (fun q => q ≠ m) W' ((W'.setCell ⟨m, 0, none⟩ vn').setCell ⟨m, 1, none⟩ vd') := ((Keep.refl _ W').setCell _ _ _ (fun h _ => h rfl)).setCell _ _ _ (fun h _ => h rfl)
  have k6 : Keep (fun q => q ≠ m ∧ q < W.heap.size) W ((W'.setCell ⟨m, 0, none⟩ vn').setCell ⟨m, 1, none⟩ vd') := (Keep.of_below (fp := fun q => q ≠ m ∧ q < W.heap.size) hb (fun _ h _ => h.2)).trans k5 (fun q h _ => h.1)
  have hm := h.box.lt
  refine ⟨⟨heap_two hb1, (hp.keep k5 (fun q e => by have := (hp.lt q e).1; omega)).base h.lo, fun q e => .inr (Nat.le_trans h.lk (hp.lt q e).1), h.fm, h.old.trans k6 (fun q hq hl => ⟨by have := h.mb; omega, Nat.lt_of_lt_of_le hl h.old.size⟩), h.mb, Nat.le_trans h.lo (Nat.le_trans hb.size k5.size), Nat.le_trans h.lk (Nat.le_trans hb.size k5.size)⟩, k6⟩
theorem isPlace_get {ns : List ByteArray} {nm : ByteArray} {k : Int} (h : IsPlace ns nm k) (hm : nm ∈ ns) : ∃ (i : Nat) (h : i < ns.length), k = (i : Int) ∧ ns[i] = nm := by
  rcases h with ⟨_, h⟩ | ⟨i, hi, h1, h2, _⟩
  · exact absurd hm h
  · exact ⟨i, hi, h1, h2⟩
set_option maxRecDepth 100000 in
set_option maxHeartbeats 4000000 in
theorem does_any (vn vd : Value) (ns ds : List ByteArray) (B : Nat) (y : AcF) (u : Value) (hu : u.oneCell' = true) (w : World) (h : Pf w B vn vd ns ds) (hB : B ≤ w.heap.size) (hlen : ds.length = ns.length) (hl : ns.length ≤ 1073741824) (hk : 0 ≤ y.kind ∧ y.kind ≤ 3) (hin : y.kind = 0 ∨ y.name ∈ ns) (hsz : ∀ t ∈ ds, t.size + y.data.size ≤ 9223372036854775807) :
    Calls Try.prog 48 #[.agg #[vn, vd], .agg (actV y u)] w (DoesEnds y B vn vd ns ds w) := by
  obtain ⟨hP, hA, hR⟩ := PfW.start h hB y u
  obtain ⟨a1, k1, rfl⟩ := h.nm.slice
  obtain ⟨a2, k2, rfl⟩ := h.dt.slice
  replace hlen := Lib.hid hlen
  unfold actV at hP hA hR ⊢
  clear h
  go_enter Try.func48, Try.ntmps48
  go_upto_region 1 with (fail)
  generalize (((w.alloc (.cells #[.slice a1 ns.length k1, .slice a2 ds.length k2] 84)).alloc (.cells #[.int .i64 y.kind, .int .i64 y.at', .int .i64 y.num, .string y.name, .string y.dest, .string y.data, u] 71)).alloc (.cells #[.slice none 0 0, .slice none 0 0] 84)) = W0 at *
  have PP := Lib.hid (place_any (.slice a1 ns.length k1) a2 ds.length k2 ns y.name W0 hP.pf.nm.at hl)
  obtain ⟨kd, at', num, nm, dt, da, kp⟩ := y
  simp only at hP hA hR PP hk hin hsz ⊢
  have l3 : W0.cell? ⟨w.heap.size + 1, 3, none⟩ = some (.string nm) := by simp [hA.cell]
  have p0 : W0.cell? ⟨w.heap.size, 0, none⟩ = some (.slice a1 ns.length k1) := by simp [hP.box.cell]
  have p1 : W0.cell? ⟨w.heap.size, 1, none⟩ = some (.slice a2 ds.length k2) := by simp [hP.box.cell]
  go_wp2_with fail
  refine PP.out.mono ?_
  rintro e w1 ⟨pk, rfl, hpl, b1⟩
  clear PP l3 p0 p1
  have hP1 := hP.beyond b1
  have hA1 : Blk w1 (w.heap.size + 1) _ _ := (b1.block _ hA.lt).trans hA
  have hR1 : Blk w1 (w.heap.size + 2) _ _ := (b1.block _ hR.lt).trans hR
  clear hP hA hR b1
  have l0 : w1.cell? ⟨w.heap.size + 1, 0, none⟩ = some (.int .i64 kd) := by simp [hA1.cell]
  have l3 : w1.cell? ⟨w.heap.size + 1, 3, none⟩ = some (.string nm) := by simp [hA1.cell]
  have l4 : w1.cell? ⟨w.heap.size + 1, 4, none⟩ = some (.string dt) := by simp [hA1.cell]
  have l5 : w1.cell? ⟨w.heap.size + 1, 5, none⟩ = some (.string da) := by simp [hA1.cell]
  have p0 : w1.cell? ⟨w.heap.size, 0, none⟩ = some (.slice a1 ns.length k1) := by simp [hP1.box.cell]
  have p1 : w1.cell? ⟨w.heap.size, 1, none⟩ = some (.slice a2 ds.length k2) := by simp [hP1.box.cell]
  obtain ⟨nl, hnl⟩ : ∃ n, n = ns.length := ⟨_, rfl⟩
  obtain ⟨dl, hdl⟩ : ∃ n, n = ds.length := ⟨_, rfl⟩
  have hz1 := hP1.lo
  have hzk := hP1.lk
  rw [← hnl] at p0 hP1 hl ⊢
  rw [← hdl] at p1 hP1 ⊢
  have hdn : Hid (dl = nl) := Lib.hid (by rw [hdl, hnl]; exact hlen.out)
  replace hnl := Lib.hid hnl
  replace hdl := Lib.hid hdl
  clear W0
  -- [A
  by_cases kA : kd = 0
  · subst kA
    clear hpl hsz hin hk
    have hown := hP1.pf.nm
    have hoff : Hid (∀ q, w.heap.size ≤ q → q < w.heap.size + 3 → (Value.slice a1 nl k1).ownBlock ≠ some q) := Lib.hid (fun q h1 h2 e => hP1.ne h1 h2 q (.inl e) rfl)
    unfold SOwn at hown
    rw [← hnl.out] at hown
    obtain ⟨cs, hcs⟩ : ∃ cs, cs = scells ns := ⟨_, rfl⟩
    rw [← hcs] at hown
    have hapN := Lib.hid (fun (w2 : World) (g cap : Nat) (ob : Obj) h1 h2 h3 => hP1.appN' (w1 := w2) (g := g) (cap := cap) (x := nm) hnl.out hcs ob h1 h2 h3)
    replace hcs := Lib.hid hcs
    have hP1' := Lib.hid hP1
    clear hP1
    go_upto_region 5 with (at_builtin; go_must (refine wpList_app1 (by rfl) _ _ 44 (by rfl) B 9 (.string .empty) 1 16 Try.underlying44 info_string rfl (by decide) (.slice a1 nl k1) nl cs w1 hown hz1 (by rfl) #[.string nm] 9 (by rfl) rfl (by simp [Value.oneCell']) (by omega) (by decide) ?_; intro g cap w2 hown2 hgrow hat hg; have ⟨hb2, hP2, hK2⟩ := hapN.out w2 g cap _ hown2 hgrow hat; have f2 := hb2.frozen 0; have c2 : w2.cell? ⟨w.heap.size, 0, none⟩ = some (.slice a1 nl k1) := (by simp [hb2.cell]); have l2 := hb2.lt; replace hP2 := Lib.hid hP2; replace hK2 := Lib.hid hK2; clear hb2 hown2 hgrow hat))
    replace hP2 := hP2.out
    replace hK2 := hK2.out
    have hA2 := hA1.keep hK2 ⟨by omega, hoff.out _ (by omega) (by omega)⟩
    have hR2 := hR1.keep hK2 ⟨by omega, hoff.out _ (by omega) (by omega)⟩
    clear hP1' hapN hoff hown hA1 hR1 l0 l3 l4 l5 p0 p1 f2 c2 l2 hcs hz1 hzk hK2
    generalize w2.setCell ⟨w.heap.size, 0, none⟩ (.slice (some ⟨g, 0, none⟩) (nl + 1) cap) = W3 at *
    have p1 : W3.cell? ⟨w.heap.size, 1, none⟩ = some (.slice a2 dl k2) := by simp [hP2.box.cell]
    have hz1 := hP2.lo
    have hown := hP2.pf.dt
    have hoff : Hid (∀ q, w.heap.size ≤ q → q < w.heap.size + 3 → (Value.slice a2 dl k2).ownBlock ≠ some q) := Lib.hid (fun q h1 h2 e => hP2.ne h1 h2 q (.inr e) rfl)
    unfold SOwn at hown
    rw [← hdl.out] at hown
    obtain ⟨cs2, hcs⟩ : ∃ cs, cs = scells ds := ⟨_, rfl⟩
    rw [← hcs] at hown
    have hapN := Lib.hid (fun (w2 : World) (g cap : Nat) (ob : Obj) h1 h2 h3 => hP2.appD' (w1 := w2) (g := g) (cap := cap) (x := ByteArray.empty) hdl.out hcs ob h1 h2 h3)
    replace hcs := Lib.hid hcs
    have hl2 : dl ≤ 1073741824 := by rw [hdn.out]; exact hl
    clear hP2
    go_upto_region 20 with (at_builtin; go_must (refine wpList_app1 (by rfl) _ _ 44 (by rfl) B 9 (.string .empty) 1 16 Try.underlying44 info_string rfl (by decide) (.slice a2 dl k2) dl cs2 W3 hown hz1 (by rfl) #[.string .empty] 9 (by rfl) rfl (by simp [Value.oneCell']) (by omega) (by decide) ?_; intro g3 cap3 w4 hown4 hgrow hat hg4; have ⟨hb4, hP4, hK4⟩ := hapN.out w4 g3 cap3 _ hown4 hgrow hat; have f4 := hb4.frozen 1; have c4 : w4.cell? ⟨w.heap.size, 1, none⟩ = some (.slice a2 dl k2) := (by simp [hb4.cell]); have l4 := hb4.lt; replace hP4 := Lib.hid hP4; replace hK4 := Lib.hid hK4; clear hb4 hown4 hgrow hat))
    have hR4 := hR2.keep hK4.out ⟨by omega, hoff.out _ (by omega) (by omega)⟩
    have hP9 := hP4.out
    have hfp : pfFp (.slice a1 nl k1) (.slice a2 dl k2) = pfFp (.slice a1 ns.length k1) (.slice a2 ds.length k2) := by rw [hnl.out, hdl.out]
    rw [hfp] at hP9
    have hR9 := hR4
    clear hfp hP4 hK4 hR4 hR2 hA2 hapN hoff hown f4 c4 l4 hz1 p1
    generalize w4.setCell ⟨w.heap.size, 1, none⟩ (.slice (some ⟨g3, 0, none⟩) (dl + 1) cap3) = W5 at *
    have hdo : DoesTo ⟨0, at', num, nm, dt, da, kp⟩ ns ds (ns ++ [nm]) (ds ++ [.empty]) := .inl ⟨rfl, rfl, rfl⟩
    have q0 : W5.cell? ⟨w.heap.size, 0, none⟩ = some (.slice (some ⟨g, 0, none⟩) (nl + 1) cap) := by simp [hP9.box.cell]
    have q1 : W5.cell? ⟨w.heap.size, 1, none⟩ = some (.slice (some ⟨g3, 0, none⟩) (dl + 1) cap3) := by simp [hP9.box.cell]
    have r0 : W5.cell? ⟨w.heap.size + 2, 0, none⟩ = some (.slice none 0 0) := by simp [hR9.cell]
    have r1 : W5.cell? ⟨w.heap.size + 2, 1, none⟩ = some (.slice none 0 0) := by simp [hR9.cell]
    have g0 := hR9.frozen 0
    have g1 := hR9.frozen 1
    have hend := Lib.hid (does_end hP9 hR9 hdo)
    clear hP9 hR9 hdo
    go_wp2
    exact bodyPost_ret (results_pf rfl rfl hend.out.1) rfl hend.out.2
  -- A]
  have kAb : (kd == 0) = false := by simpa using kA
  have hin2 : nm ∈ ns := hin.resolve_left kA
  obtain ⟨i, hi, rfl, hni⟩ := isPlace_get hpl hin2
  have hid : i < ds.length := by rw [hlen.out]; exact hi
  have hidl : i < dl := by rw [hdl.out]; exact hid
  have hinl : i < nl := by rw [hnl.out]; exact hi
  -- [B
  by_cases kB : kd = 1
  · subst kB
    have hd0 := hP1.pf.dt
    have hsz' := hsz _ (List.getElem_mem hid)
    obtain ⟨g, hg2⟩ : ∃ g, a2 = some ⟨g, 0, none⟩ := by
      rcases id hd0.2 with ⟨h1, h0⟩ | ⟨g, cap, cur, h1, _⟩
      · omega
      · injection h1 with e1 e2 e3
        exact ⟨g, e1⟩
    subst hg2
    have hS := hP1.setD (i := i) hdl.out (ds[i] ++ da)
    have hoff : Hid (∀ q, w.heap.size ≤ q → q < w.heap.size + 3 → q ≠ g) := Lib.hid (fun q h1 h2 e => hP1.ne h1 h2 g (.inr rfl) e.symm)
    unfold SOwn at hd0
    rw [← hdl.out] at hd0
    have e0 := hd0.cellAt i (by omega)
    rw [scells_get _ _ hid] at e0
    have z0 := hd0.frozenAt i
    have hgl := (hP1.pf.dt.lt g rfl).2
    have hR2 := hR1.keep hS.2 (hoff.out _ (by omega) (by omega))
    have hdo : DoesTo ⟨1, at', num, nm, dt, da, kp⟩ ns ds ns (ds.set i (ds[i] ++ da)) := .inr (.inl ⟨rfl, i, hi, hid, hni, rfl, rfl⟩)
    have hi0 : (0 : Int) ≤ (i : Int) := by omega
    have hi1 : (i : Int) < (dl : Int) := by omega
    have hS1 := Lib.hid hS.1
    replace hdo := Lib.hid hdo
    replace hR2 := Lib.hid hR2
    generalize hDS : ds.set i (ds[i] ++ da) = DS at *
    replace hDS := Lib.hid hDS
    generalize ds[i] = sd at *
    have hng : ¬ (9223372036854775807 < sd.size + da.size) := by omega
    clear hd0 hP1 hA1 hR1 hS hpl hni hoff hin hin2 hsz hk
    go_upto_region 7 with (fail)
    go_region
    all_goals
      have hP9 := hS1.out.beyond (Below.refl _ _).drew
      have hR9 : Blk (w1.setCell ⟨g, i, none⟩ (.string (sd ++ da))).drew (w.heap.size + 2) _ _ := hR2.out
      have hfp : pfFp (.slice a1 nl k1) (.slice (some ⟨g, 0, none⟩) dl k2) = pfFp (.slice a1 ns.length k1) (.slice (some ⟨g, 0, none⟩) ds.length k2) := by rw [hnl.out, hdl.out]
      rw [hfp] at hP9
      replace hdo := hdo.out
      clear hfp hS1 hR2 e0 z0 l0 l3 l4 l5 p0 p1
      generalize (w1.setCell ⟨g, i, none⟩ (.string (sd ++ da))).drew = W5 at *
      have q0 : W5.cell? ⟨w.heap.size, 0, none⟩ = some (.slice a1 nl k1) := by simp [hP9.box.cell]
      have q1 : W5.cell? ⟨w.heap.size, 1, none⟩ = some (.slice (some ⟨g, 0, none⟩) dl k2) := by simp [hP9.box.cell]
      have r0 : W5.cell? ⟨w.heap.size + 2, 0, none⟩ = some (.slice none 0 0) := by simp [hR9.cell]
      have r1 : W5.cell? ⟨w.heap.size + 2, 1, none⟩ = some (.slice none 0 0) := by simp [hR9.cell]
      have g0 := hR9.frozen 0
      have g1 := hR9.frozen 1
      have hend := Lib.hid (does_end hP9 hR9 hdo)
      clear hP9 hR9 hdo
      go_wp2
      exact bodyPost_ret (results_pf rfl rfl hend.out.1) rfl hend.out.2
  -- B]
  -- [C
  have kBb : (kd == 1) = false := by simpa using kB
  by_cases kC : kd = 3
  · subst kC
    have PW := Lib.hid (without_any (.slice a1 nl k1) (.slice a2 dl k2) ns ds i w1 hP1.pf.nm.at hP1.pf.dt.at hlen.out (by rw [← hnl.out]; exact hl) (by omega))
    have hP1' := Lib.hid hP1
    have hdo : Hid (DoesTo ⟨3, at', num, nm, dt, da, kp⟩ ns ds (ns.eraseIdx i) (ds.eraseIdx i)) := Lib.hid (.inr (.inr (.inr (.inr ⟨rfl, i, hi, hni, rfl, rfl⟩))))
    clear hP1 hpl hni hin hin2 hsz hk hA1
    go_wp2_with fail
    refine PW.out.mono ?_
    rintro e w2 ⟨v1, v2, rfl, hpf, b2⟩
    obtain ⟨a3, k3, rfl⟩ := hpf.nm.slice
    obtain ⟨a4, k4, rfl⟩ := hpf.dt.slice
    have hR2 : Blk w2 (w.heap.size + 2) _ _ := (b2.block _ hR1.lt).trans hR1
    obtain ⟨n3, hn3⟩ : ∃ n, n = (ns.eraseIdx i).length := ⟨_, rfl⟩
    obtain ⟨n4, hn4⟩ : ∃ n, n = (ds.eraseIdx i).length := ⟨_, rfl⟩
    rw [← hn3, ← hn4] at hpf
    rw [← hn3, ← hn4]
    have hK : Keep (fun q => q ≠ w.heap.size + 2) w2 ((w2.setCell ⟨w.heap.size + 2, 0, none⟩ (.slice a3 n3 k3)).setCell ⟨w.heap.size + 2, 1, none⟩ (.slice a4 n4 k4)) := ((Keep.refl _ w2).setCell _ _ _ (fun h _ => h rfl)).setCell _ _ _ (fun h _ => h rfl)
    have hend : Hid (DoesEnds ⟨3, at', num, nm, dt, da, kp⟩ B (.slice a1 ns.length k1) (.slice a2 ds.length k2) ns ds w (.returned (.agg #[.slice a3 n3 k3, .slice a4 n4 k4])) ((w2.setCell ⟨w.heap.size + 2, 0, none⟩ (.slice a3 n3 k3)).setCell ⟨w.heap.size + 2, 1, none⟩ (.slice a4 n4 k4))) := Lib.hid (by
      refine ⟨_, _, _, _, rfl, hdo.out, (hpf.keep hK (fun q e => by have := (hpf.lt q e).1; omega)).base hz1, fun q e => .inr (by have := (hpf.lt q e).1; omega), ?_⟩
      rw [← hnl.out, ← hdl.out]
      exact ((hP1'.out.old.trans (Keep.of_below (fp := fun q => q < w.heap.size) b2 (fun q h _ => by omega)) (fun q _ h => h)).trans hK (fun q _ h => by omega)))
    have hE := Lib.hid (heap_two (u := .slice a3 n3 k3) (v := .slice a4 n4 k4) hR2)
    have r0 : w2.cell? ⟨w.heap.size + 2, 0, none⟩ = some (.slice none 0 0) := by simp [hR2.cell]
    have r1 : w2.cell? ⟨w.heap.size + 2, 1, none⟩ = some (.slice none 0 0) := by simp [hR2.cell]
    have g0 := hR2.frozen 0
    have g1 := hR2.frozen 1
    clear hpf hn3 hn4 hR1 hR2 hK PW hP1' l0 l3 l4 l5 p0 p1 b2
    go_wp2
    exact bodyPost_ret (results_pf rfl rfl hE.out) rfl hend.out
  -- C]
  have kCb : (kd == 3) = false := by simpa using kC
  obtain rfl : kd = 2 := by omega
  clear kA kB kC kAb kBb kCb hk
  -- [D
  by_cases hq : nm = dt
  · subst hq
    have hdo : DoesTo ⟨2, at', num, nm, nm, da, kp⟩ ns ds ns ds := .inr (.inr (.inl ⟨rfl, rfl, rfl, rfl⟩))
    have hP9 := hP1
    have hfp : pfFp (.slice a1 nl k1) (.slice a2 dl k2) = pfFp (.slice a1 ns.length k1) (.slice a2 ds.length k2) := by rw [hnl.out, hdl.out]
    rw [hfp] at hP9
    have hR9 := hR1
    clear hfp hP1 hR1 hA1 hin hin2 hpl hni hsz
    have q0 : w1.cell? ⟨w.heap.size, 0, none⟩ = some (.slice a1 nl k1) := by simp [hP9.box.cell]
    have q1 : w1.cell? ⟨w.heap.size, 1, none⟩ = some (.slice a2 dl k2) := by simp [hP9.box.cell]
    have r0 : w1.cell? ⟨w.heap.size + 2, 0, none⟩ = some (.slice none 0 0) := by simp [hR9.cell]
    have r1 : w1.cell? ⟨w.heap.size + 2, 1, none⟩ = some (.slice none 0 0) := by simp [hR9.cell]
    have g0 := hR9.frozen 0
    have g1 := hR9.frozen 1
    have hend := Lib.hid (does_end hP9 hR9 hdo)
    clear hP9 hR9 hdo
    go_wp2
    exact bodyPost_ret (results_pf rfl rfl hend.out.1) rfl hend.out.2
  -- D]
  obtain ⟨qa, qb⟩ := toList_bne hq
  have hd0 := hP1.pf.dt
  obtain ⟨g, hg2⟩ : ∃ g, a2 = some ⟨g, 0, none⟩ := by
    rcases id hd0.2 with ⟨h1, h0⟩ | ⟨g, cap, cur, h1, _⟩
    · omega
    · injection h1 with e1 e2 e3
      exact ⟨g, e1⟩
  subst hg2
  unfold SOwn at hd0
  rw [← hdl.out] at hd0
  have e0 := hd0.cellAt i (by omega)
  rw [scells_get _ _ hid] at e0
  have hgl := (hP1.pf.dt.lt g rfl).2
  have hi0 : (0 : Int) ≤ (i : Int) := by omega
  have hi1 : (i : Int) < (dl : Int) := by omega
  have PW := Lib.hid (without_any (.slice a1 nl k1) (.slice (some ⟨g, 0, none⟩) dl k2) ns ds i w1 hP1.pf.nm.at hP1.pf.dt.at hlen.out (by rw [← hnl.out]; exact hl) (by omega))
  have hlenE : Hid ((ds.eraseIdx i).length = (ns.eraseIdx i).length ∧ (ns.eraseIdx i).length ≤ 1073741824) := Lib.hid ⟨by rw [List.length_eraseIdx, List.length_eraseIdx, hlen.out], Nat.le_trans (erase_len _ _) (by rw [← hnl.out]; exact hl)⟩
  have hdoX : Hid (∀ ns1 ds1, ((dt ∉ ns.eraseIdx i ∧ ns1 = ns.eraseIdx i ∧ ds1 = ds.eraseIdx i) ∨ ∃ (k : Nat) (_ : k < (ns.eraseIdx i).length), (ns.eraseIdx i)[k] = dt ∧ ns1 = (ns.eraseIdx i).eraseIdx k ∧ ds1 = (ds.eraseIdx i).eraseIdx k) → DoesTo ⟨2, at', num, nm, dt, da, kp⟩ ns ds (ns1 ++ [dt]) (ds1 ++ [ds[i]])) := Lib.hid (fun ns1 ds1 h => .inr (.inr (.inr (.inl ⟨rfl, hq, i, hi, hid, hni, h.imp (fun h => ⟨h.1, by rw [h.2.1], by rw [h.2.2]⟩) (fun ⟨k, hk, h1, h2, h3⟩ => ⟨k, hk, h1, by rw [h2], by rw [h3]⟩)⟩))))
  generalize ds[i] = sd at e0 hdoX
  have hP1' := Lib.hid hP1
  have hA1' := Lib.hid hA1
  have hR1' := Lib.hid hR1
  have hne0 := Lib.hid (fun q h1 h2 => hP1.ne (z := q) h1 h2)
  clear hd0 hP1 hA1 hR1 hpl hni hin hin2 hsz hq
  go_wp2_with fail
  refine PW.out.mono ?_
  rintro e w2 ⟨v1, v2, rfl, hpf, b2⟩
  obtain ⟨a3, k3, rfl⟩ := hpf.nm.slice
  obtain ⟨a4, k4, rfl⟩ := hpf.dt.slice
  have hO := hP1'.out.other b2 hpf
  have hA2 : Blk w2 (w.heap.size + 1) _ _ := (b2.block _ hA1'.out.lt).trans hA1'.out
  obtain ⟨n3, hn3⟩ : ∃ n, n = (ns.eraseIdx i).length := ⟨_, rfl⟩
  obtain ⟨n4, hn4⟩ : ∃ n, n = (ds.eraseIdx i).length := ⟨_, rfl⟩
  rw [← hn3, ← hn4] at hO
  rw [← hn3, ← hn4]
  have hb2 : Blk w2 w.heap.size _ _ := (b2.block _ hP1'.out.box.lt).trans hP1'.out.box
  have s0 : w2.cell? ⟨w.heap.size, 0, none⟩ = some (.slice a1 nl k1) := by simp [hb2.cell]
  have s1 : w2.cell? ⟨w.heap.size, 1, none⟩ = some (.slice (some ⟨g, 0, none⟩) dl k2) := by simp [hb2.cell]
  have f0 := hb2.frozen 0
  have f1 := hb2.frozen 1
  replace hn3 := Lib.hid hn3
  replace hn4 := Lib.hid hn4
  have hA3 := Lib.hid (hA1'.out.keep hO.2 ⟨by omega, by have := hA1'.out.lt; omega⟩)
  have hR3 := Lib.hid (hR1'.out.keep hO.2 ⟨by omega, by have := hR1'.out.lt; omega⟩)
  have hP3 := Lib.hid hO.1
  clear hO hpf PW hb2 hA2 e0 l0 l3 l4 l5 p0 p1 hA1' hR1'
  go_upto_region 13 with (fail)
  replace hP3 := hP3.out
  replace hA3 := hA3.out
  replace hR3 := hR3.out
  clear b2 s0 s1 f0 f1 hP1'
  generalize (w2.setCell ⟨w.heap.size, 0, none⟩ (.slice a3 n3 k3)).setCell ⟨w.heap.size, 1, none⟩ (.slice a4 n4 k4) = W3 at *
  generalize ns.eraseIdx i = NS at *
  generalize ds.eraseIdx i = DS at *
  have PP2 := Lib.hid (place_any (.slice a3 n3 k3) a4 n4 k4 NS dt W3 hP3.pf.nm.at hlenE.out.2)
  have p0 : W3.cell? ⟨w.heap.size, 0, none⟩ = some (.slice a3 n3 k3) := by simp [hP3.box.cell]
  have p1 : W3.cell? ⟨w.heap.size, 1, none⟩ = some (.slice a4 n4 k4) := by simp [hP3.box.cell]
  have l4 : W3.cell? ⟨w.heap.size + 1, 4, none⟩ = some (.string dt) := by simp [hA3.cell]
  go_wp2_with fail
  refine PP2.out.mono ?_
  rintro e w4 ⟨pk2, rfl, hpl2, b4⟩
  have hP4 := hP3.beyond b4
  have hA4 : Blk w4 (w.heap.size + 1) _ _ := (b4.block _ hA3.lt).trans hA3
  have hR4 : Blk w4 (w.heap.size + 2) _ _ := (b4.block _ hR3.lt).trans hR3
  clear hP3 hA3 hR3 p0 p1 l4 b4 PP2 W3
  go_upto_if 63 with (fail)
  go_cut [] (fun wx => ∃ (a5 : Option Addr) (k5 n5 : Nat) (a6 : Option Addr) (k6 n6 : Nat) (NS1 DS1 : List ByteArray), n5 = NS1.length ∧ n6 = DS1.length ∧ n6 = n5 ∧ n5 ≤ 1073741824 ∧ PfW w B (w.heap.size + 3) w.heap.size (pfFp (.slice a1 nl k1) (.slice (some ⟨g, 0, none⟩) dl k2)) (.slice a5 n5 k5) (.slice a6 n6 k6) NS1 DS1 wx ∧ Blk wx (w.heap.size + 1) #[.int .i64 2, .int .i64 at', .int .i64 num, .string nm, .string dt, .string da, u] 71 ∧ Blk wx (w.heap.size + 2) #[.slice none 0 0, .slice none 0 0] 84 ∧
    ((dt ∉ NS ∧ NS1 = NS ∧ DS1 = DS) ∨ ∃ (k : Nat) (_ : k < NS.length), NS[k] = dt ∧ NS1 = NS.eraseIdx k ∧ DS1 = DS.eraseIdx k))
  case first =>
    rcases hpl2 with ⟨rfl, hnot⟩ | ⟨k, hk, rfl, hgk, _⟩
    · have hP4' := Lib.hid hP4
      have hA4' := Lib.hid hA4
      have hR4' := Lib.hid hR4
      have hnot' := Lib.hid hnot
      clear hP4 hA4 hR4 hnot
      go_wp2
      go_meet
      exact ⟨_, _, _, _, _, _, NS, DS, hn3.out, hn4.out, by rw [hn4.out, hn3.out]; exact hlenE.out.1, by rw [hn3.out]; exact hlenE.out.2, hP4'.out, hA4'.out, hR4'.out, .inl ⟨hnot'.out, rfl, rfl⟩⟩
    · have hk0 : (0 : Int) ≤ (k : Int) := by omega
      have hkl : k ≤ 9223372036854775807 := by have := hlenE.out.2; omega
      have p0 : w4.cell? ⟨w.heap.size, 0, none⟩ = some (.slice a3 n3 k3) := by simp [hP4.box.cell]
      have p1 : w4.cell? ⟨w.heap.size, 1, none⟩ = some (.slice a4 n4 k4) := by simp [hP4.box.cell]
      have PW := Lib.hid (without_any (.slice a3 n3 k3) (.slice a4 n4 k4) NS DS k w4 hP4.pf.nm.at hP4.pf.dt.at hlenE.out.1 hlenE.out.2 hkl)
      have hP4' := Lib.hid hP4
      have hA4' := Lib.hid hA4
      have hR4' := Lib.hid hR4
      replace hgk := Lib.hid hgk
      clear hP4 hA4 hR4
      go_wp2_with fail
      refine PW.out.mono ?_
      rintro e w5 ⟨v1, v2, rfl, hpf, b5⟩
      obtain ⟨a5, k5, rfl⟩ := hpf.nm.slice
      obtain ⟨a6, k6, rfl⟩ := hpf.dt.slice
      have hO := hP4'.out.other b5 hpf
      obtain ⟨n5, hn5⟩ : ∃ n, n = (NS.eraseIdx k).length := ⟨_, rfl⟩
      obtain ⟨n6, hn6⟩ : ∃ n, n = (DS.eraseIdx k).length := ⟨_, rfl⟩
      rw [← hn5, ← hn6] at hO
      rw [← hn5, ← hn6]
      have hb5 : Blk w5 w.heap.size _ _ := (b5.block _ hP4'.out.box.lt).trans hP4'.out.box
      have s0 : w5.cell? ⟨w.heap.size, 0, none⟩ = some (.slice a3 n3 k3) := by simp [hb5.cell]
      have s1 : w5.cell? ⟨w.heap.size, 1, none⟩ = some (.slice a4 n4 k4) := by simp [hb5.cell]
      have f0 := hb5.frozen 0
      have f1 := hb5.frozen 1
      replace hn5 := Lib.hid hn5
      replace hn6 := Lib.hid hn6
      have hA5 := Lib.hid (hA4'.out.keep hO.2 ⟨by omega, by have := hA4'.out.lt; omega⟩)
      have hR5 := Lib.hid (hR4'.out.keep hO.2 ⟨by omega, by have := hR4'.out.lt; omega⟩)
      have hP5 := Lib.hid hO.1
      clear hO hpf PW hb5 p0 p1 hA4' hR4' hP4'
      go_wp2
      go_meet
      exact ⟨_, _, _, _, _, _, NS.eraseIdx k, DS.eraseIdx k, hn5.out, hn6.out, by rw [hn6.out, hn5.out, List.length_eraseIdx, List.length_eraseIdx, hlenE.out.1], by rw [hn5.out]; exact Nat.le_trans (erase_len _ _) hlenE.out.2, hP5.out, hA5.out, hR5.out, .inr ⟨k, hk, hgk.out, rfl, rfl⟩⟩
  case rest =>
    obtain ⟨wx, rfl⟩ : ∃ x : World, x = wc := ⟨_, rfl⟩
    obtain ⟨a5, k5, n5, a6, k6, n6, NS1, DS1, hn5, hn6, hn56, hl5, hP1, hA1, hR1, hor⟩ := hcut
    have hdo := Lib.hid (hdoX.out NS1 DS1 hor)
    clear hP4 hA4 hR4 hpl2 hor hdoX hn3 hn4 hlenE
    have p0 : wx.cell? ⟨w.heap.size, 0, none⟩ = some (.slice a5 n5 k5) := by simp [hP1.box.cell]
    have l4 : wx.cell? ⟨w.heap.size + 1, 4, none⟩ = some (.string dt) := by simp [hA1.cell]
    replace hn5 := Lib.hid hn5
    replace hn6 := Lib.hid hn6
    replace hn56 := Lib.hid hn56
    have hz1 := hP1.lo
    have hown := hP1.pf.nm
    have hoff : Hid (∀ q, w.heap.size ≤ q → q < w.heap.size + 3 → (Value.slice a5 n5 k5).ownBlock ≠ some q) := Lib.hid (fun q h1 h2 e => hP1.ne h1 h2 q (.inl e) rfl)
    unfold SOwn at hown
    rw [← hn5.out] at hown
    obtain ⟨cs, hcs⟩ : ∃ cs, cs = scells NS1 := ⟨_, rfl⟩
    rw [← hcs] at hown
    have hapN := Lib.hid (fun (w2 : World) (g cap : Nat) (ob : Obj) h1 h2 h3 => hP1.appN' (w1 := w2) (g := g) (cap := cap) (x := dt) hn5.out hcs ob h1 h2 h3)
    replace hcs := Lib.hid hcs
    clear hP1
    go_upto_region 17 with (at_builtin; go_must (refine wpList_app1 (by rfl) _ _ 44 (by rfl) B 9 (.string .empty) 1 16 Try.underlying44 info_string rfl (by decide) (.slice a5 n5 k5) n5 cs wx hown hz1 (by rfl) #[.string dt] 9 (by rfl) rfl (by simp [Value.oneCell']) (by omega) (by decide) ?_; intro g7 cap7 w7 hown2 hgrow hat hg; have ⟨hb2, hP2, hK2⟩ := hapN.out w7 g7 cap7 _ hown2 hgrow hat; have f2 := hb2.frozen 0; have c2 : w7.cell? ⟨w.heap.size, 0, none⟩ = some (.slice a5 n5 k5) := (by simp [hb2.cell]); have l2 := hb2.lt; replace hP2 := Lib.hid hP2; replace hK2 := Lib.hid hK2; clear hb2 hown2 hgrow hat))
    replace hP2 := hP2.out
    replace hK2 := hK2.out
    have hR2 := hR1.keep hK2 ⟨by omega, hoff.out _ (by omega) (by omega)⟩
    clear hapN hoff hown hA1 hR1 l4 p0 f2 c2 l2 hcs hz1 hK2
    generalize w7.setCell ⟨w.heap.size, 0, none⟩ (.slice (some ⟨g7, 0, none⟩) (n5 + 1) cap7) = W3 at *
    have p1 : W3.cell? ⟨w.heap.size, 1, none⟩ = some (.slice a6 n6 k6) := by simp [hP2.box.cell]
    have hz1 := hP2.lo
    have hown := hP2.pf.dt
    have hoff : Hid (∀ q, w.heap.size ≤ q → q < w.heap.size + 3 → (Value.slice a6 n6 k6).ownBlock ≠ some q) := Lib.hid (fun q h1 h2 e => hP2.ne h1 h2 q (.inr e) rfl)
    unfold SOwn at hown
    rw [← hn6.out] at hown
    obtain ⟨cs2, hcs⟩ : ∃ cs, cs = scells DS1 := ⟨_, rfl⟩
    rw [← hcs] at hown
    have hapN := Lib.hid (fun (w2 : World) (g cap : Nat) (ob : Obj) h1 h2 h3 => hP2.appD' (w1 := w2) (g := g) (cap := cap) (x := sd) hn6.out hcs ob h1 h2 h3)
    replace hcs := Lib.hid hcs
    have hl6 : n6 ≤ 1073741824 := by rw [hn56.out]; exact hl5
    clear hP2
    go_upto_region 20 with (at_builtin; go_must (refine wpList_app1 (by rfl) _ _ 44 (by rfl) B 9 (.string .empty) 1 16 Try.underlying44 info_string rfl (by decide) (.slice a6 n6 k6) n6 cs2 W3 hown hz1 (by rfl) #[.string sd] 9 (by rfl) rfl (by simp [Value.oneCell']) (by omega) (by decide) ?_; intro g8 cap8 w8 hown4 hgrow hat hg4; have ⟨hb4, hP4, hK4⟩ := hapN.out w8 g8 cap8 _ hown4 hgrow hat; have f4 := hb4.frozen 1; have c4 : w8.cell? ⟨w.heap.size, 1, none⟩ = some (.slice a6 n6 k6) := (by simp [hb4.cell]); have l4 := hb4.lt; replace hP4 := Lib.hid hP4; replace hK4 := Lib.hid hK4; clear hb4 hown4 hgrow hat))
    have hR9 := hR2.keep hK4.out ⟨by omega, hoff.out _ (by omega) (by omega)⟩
    have hP9 := hP4.out
    have hfp : pfFp (.slice a1 nl k1) (.slice (some ⟨g, 0, none⟩) dl k2) = pfFp (.slice a1 ns.length k1) (.slice (some ⟨g, 0, none⟩) ds.length k2) := by rw [hnl.out, hdl.out]
    rw [hfp] at hP9
    clear hfp hP4 hK4 hR2 hapN hoff hown f4 c4 l4 hz1 p1
    generalize w8.setCell ⟨w.heap.size, 1, none⟩ (.slice (some ⟨g8, 0, none⟩) (n6 + 1) cap8) = W5 at *
    replace hdo := hdo.out
    have q0 : W5.cell? ⟨w.heap.size, 0, none⟩ = some (.slice (some ⟨g7, 0, none⟩) (n5 + 1) cap7) := by simp [hP9.box.cell]
    have q1 : W5.cell? ⟨w.heap.size, 1, none⟩ = some (.slice (some ⟨g8, 0, none⟩) (n6 + 1) cap8) := by simp [hP9.box.cell]
    have r0 : W5.cell? ⟨w.heap.size + 2, 0, none⟩ = some (.slice none 0 0) := by simp [hR9.cell]
    have r1 : W5.cell? ⟨w.heap.size + 2, 1, none⟩ = some (.slice none 0 0) := by simp [hR9.cell]
    have g0 := hR9.frozen 0
    have g1 := hR9.frozen 1
    have hend := Lib.hid (does_end hP9 hR9 hdo)
    clear hP9 hR9 hdo
    go_wp2
    exact bodyPost_ret (results_pf rfl rfl hend.out.1) rfl hend.out.2
end Go.Proofs.Ytndekdgpibipnaa
