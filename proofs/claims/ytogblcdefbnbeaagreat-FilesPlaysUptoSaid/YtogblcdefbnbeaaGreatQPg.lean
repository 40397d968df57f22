
/- Walks: Read in general, texts compared, what both file systems tell. Condition: few acts. -/
import Derived.Test.YtogblcdefbnbeaaGreatQWPy0
import Derived.Test.YtogblcdefbnbeaaGreatQGb
import Derived.Test.YtogblcdefbnbeaaGreatQGw
import Derived.Test.YtogblcdefbnbeaaGreatQGz
import Derived.Test.YtogblcdefbnbeaaGreatQPb
import Derived.Test.YtogblcdefbnbeaaGreatQWFs3
set_option maxRecDepth 100000
namespace Go.Proofs.YtogblcdefbnbeaaGreat
section
open Go.RowKit Go.Maps
attribute [local go_sem] Oper.semAt_some
variable {B Bd f d q r N T k : Nat} {x : Pl.Fs} {y : Pl.Rf} {s : Pl.Dv} {fp fpd fd fq fr : Nat → Prop} {w W W' : World}
set_option maxHeartbeats 1600000 in
theorem read_any (h : FsAt B f d x fp W) (hd : DevAt Bd d s fpd W) (hk : Pl.HK N T x.hand) (hl : s.safe.length = N) (hN : N ≤ 16384) (hT : T ≤ 140737488355328) (nm : ByteArray) (hs : nm.size ≤ maxLen) (fr n : Int) (hf1 : -9223372036854775808 ≤ fr ∧ fr ≤ 9223372036854775807) (hn1 : -9223372036854775808 ≤ n ∧ n ≤ 9223372036854775807) :
  Calls Tryz.prog 20 #[.pointer (some ⟨f, 0, none⟩), .string nm, .int .i64 fr, .int .i64 n] W fun e w' => e = .returned (.tuple #[.string (x.readE s nm fr n).1, .int .i64 (x.readE s nm fr n).2]) ∧ Below W.heap.size W w' := by
 unfold Pl.Fs.readE
 cases hdd : x.dead s with
 | true =>
  rw [if_pos rfl]
  obtain ⟨m, vf, rp, ho, rfl⟩ := id h
  have PD := Lib.hid (dead_is hdd h hd)
  clear hdd ho h hd
  go_enter Tryz.func20, Tryz.ntmps20
  go_wp2_with (go_at_call 60; refine PD.out.mono ?_; rintro e w1 ⟨rfl, nq, rfl⟩)
  go_ret2
  exact ⟨rfl, below_drewN (Below.refl _ _) nq⟩
 | false =>
  rw [if_neg Bool.false_ne_true]
  by_cases hneg : fr < 0 ∨ n < 0
  ·rw [if_pos hneg]
   have PD := Lib.hid (dead_is hdd h hd)
   clear hdd h hd
   rcases (show fr < 0 ∨ (¬ fr < 0 ∧ n < 0) by omega) with h1 | ⟨h1, h2⟩
   all_goals
    clear hneg
    go_enter Tryz.func20, Tryz.ntmps20
    go_wp2_with (go_at_call 60; refine PD.out.mono ?_; rintro e w1 ⟨rfl, nq, rfl⟩)
    go_ret2
    exact ⟨rfl, below_drewN (Below.refl _ _) nq⟩
  ·rw [if_neg hneg]
   cases hg : Pl.hget x.hand nm with
   | some z =>
    simp only
    obtain ⟨p, hp, e1, _⟩ := Pl.hget_some hg
    have hp2 := hk.all p hp
    subst e1
    obtain ⟨fr', rfl⟩ := Int.eq_ofNat_of_zero_le (show 0 ≤ fr by omega)
    obtain ⟨n', rfl⟩ := Int.eq_ofNat_of_zero_le (show 0 ≤ n by omega)
    exact read_is h hd hdd nm hs p.2 hg fr' n' (by omega) (by omega) hp2.old (Nat.le_trans hp2.added hT) hp2.blocks (by omega) (fun b hb => by have := hp2.inner b hb; omega)
   | none =>
    simp only
    obtain ⟨m, vf, rp, ho, rfl⟩ := id h
    have PD := Lib.hid (dead_is hdd h hd)
    have h1 : ¬ fr < 0 := by omega
    have h2 : ¬ n < 0 := by omega
    clear hdd hneg
    go_enter Tryz.func20, Tryz.ntmps20
    go_wp2_with fail
    refine PD.out.mono ?_
    rintro e w1 ⟨rfl, nq, e1⟩
    have ho1 := ho.keep (keep_drewN e1 _)
    have hb1 : Below W.heap.size W w1 := e1 ▸ below_drewN (Below.refl _ _) nq
    clear e1
    obtain ⟨c0, c1, c2, c3, c4, c5⟩ := ho1.cells
    obtain ⟨ua, uc, hrun, hu⟩ := hand_look ho1.hand hs
    rw [hg] at hrun hu
    simp only [Option.getD_none, Option.isSome_none] at hrun hu
    have hend : Below W.heap.size W (w1.alloc (.cells #[.slice ua Pl.HF.zero.blocks.length uc, .int .i64 (Pl.HF.zero.old : Int), .string Pl.HF.zero.added] 104)) := hb1.alloc hb1.size _
    clear PD hg h ho hd hu ho1
    go_wp2
    go_ret2
    exact ⟨rfl, hb1.alloc hb1.size _⟩
set_option maxHeartbeats 1000000 in
theorem sameTexts_same {B1 B2 : Nat} {u v : Value} (l : List ByteArray) (hu : W.ownsRow B1 9 1 u l.length (l.map Value.string)) (hv : W.ownsRow B2 9 1 v l.length (l.map Value.string)) (hl : l.length ≤ 9223372036854775806) :
  Calls Tryz.prog 25 #[u, v] W fun e w' => e = .returned (.bool true) ∧ Below W.heap.size W w' := by
 obtain ⟨ua, uc, rfl⟩ := ownsRow_form hu
 obtain ⟨va, vc, rfl⟩ := ownsRow_form hv
 have hcell : Hid (∀ i (hi : i < l.length), ∃ g1 g2, ua = some ⟨g1, 0, none⟩ ∧ va = some ⟨g2, 0, none⟩ ∧ ∀ X, Below W.heap.size W X → X.cell? ⟨g1, i, none⟩ = some (.string l[i]) ∧ X.cell? ⟨g2, i, none⟩ = some (.string l[i])) := Lib.hid (fun i hi => by
  rcases id hu.2 with ⟨e, h0⟩ | ⟨g1, _, _, e, _, hg1, _⟩
  ·omega
  rcases id hv.2 with ⟨e', h0⟩ | ⟨g2, _, _, e', _, hg2, _⟩
  ·omega
  injection e with e _ _
  injection e' with e' _ _
  subst e e'
  refine ⟨g1, g2, rfl, rfl, fun X hb => ?_⟩
  have h1 := hu.cells (g := g1) rfl i (.string l[i]) (by simp [hi])
  have h2 := hv.cells (g := g2) rfl i (.string l[i]) (by simp [hi])
  rw [Addr.add_lit, Nat.zero_add] at h1 h2
  exact ⟨(hb.cell (p := ⟨g1, i, none⟩) (Array.getElem?_eq_some_iff.1 hg1).1).trans h1, (hb.cell (p := ⟨g2, i, none⟩) (Array.getElem?_eq_some_iff.1 hg2).1).trans h2⟩)
 obtain ⟨n, hn⟩ : ∃ n, n = l.length := ⟨_, rfl⟩
 rw [← hn]
 have hn2 : n ≤ 9223372036854775806 := by omega
 replace hn := Lib.hid hn
 clear hu hv
 go_enter Tryz.func25, Tryz.ntmps25
 go_wp2_with fail
 go_loopw [5] (fun i X => ∃ (j : Nat), j ≤ n ∧ i = .int .i64 (j : Int) ∧ Below W.heap.size W X) (fun i _ => n - (intOf i).toNat)
 case atStart => exact ⟨0, Nat.zero_le _, rfl, Below.refl _ _⟩
 case round =>
  obtain ⟨j, hj, rfl, hb⟩ := hrel
  by_cases hjl : j < n
  ·have hj2 : (j : Int) < (n : Int) := by omega
   have hj3 : (0 : Int) ≤ (j : Int) := by omega
   obtain ⟨g1, g2, rfl, rfl, hc⟩ := hcell.out j (by have := hn.out; omega)
   obtain ⟨c1, c2⟩ := hc wr hb
   generalize l[j]'(by have := hn.out; omega) = t at *
   clear hc
   go_upto_region 6 with (fail)
   go_region
   go_wp2_with fail
   go_roundw
   case rel => exact ⟨j + 1, by omega, by go_num, by first | exact hb | exact hb.drew | exact below_drewN hb _⟩
   case measure => simp [intOf]; omega
  ·have hj2 : ¬ (j : Int) < (n : Int) := by omega
   go_wp2
   go_ret
   exact ⟨rfl, hb⟩
def WRow (X : World) (B : Nat) (e : TypeId) (size : Nat) (u : Value) (n : Nat) : Prop := ∃ xs, X.ownsRow B e size u n xs
theorem WRow.still {X X' : World} {B n size : Nat} {e : TypeId} {u : Value} (h : WRow X B e size u n) (hb : Below X.heap.size X X') : WRow X' B e size u n := by
 obtain ⟨xs, h⟩ := h
 exact ⟨xs, (Keep.of_below (fp := fun q => q < X.heap.size) hb (fun _ h _ => h)).ownsRow h (fun q e => (h.lt q e).2)⟩
theorem WRow.set {X : World} {B n size : Nat} {e : TypeId} {u : Value} (h : WRow X B e size u n) (g k : Nat) (v : Value) : WRow (X.setCell ⟨g, k, none⟩ v) B e size u n := by
 obtain ⟨xs, h⟩ := h
 by_cases hg : u.ownBlock = some g
 ·rcases id h.2 with ⟨rfl, h0⟩ | ⟨g', cap, cur, rfl, _⟩
  ·cases hg
  ·have e2 : g' = g := by simpa [Value.ownBlock] using hg
   subst e2
   exact ⟨_, (h.stored k v).1⟩
 ·exact ⟨xs, ownsRow_setCell_other h (a := ⟨g, k, none⟩) hg v⟩
theorem WRow.at {X : World} {B n : Nat} {e : TypeId} {u : Value} (h : WRow X B e 1 u n) {i : Nat} (hi : i < n) : ∃ g c z, u = .slice (some ⟨g, 0, none⟩) n c ∧ X.cell? ⟨g, i, none⟩ = some z ∧ X.frozen? ⟨g, i, none⟩ = false ∧ g < X.heap.size ∧ B ≤ g ∧ ∃ cur, X.heap[g]? = some (.cells cur e (0, 0)) := by
 obtain ⟨xs, h⟩ := h
 rcases id h.2 with ⟨rfl, h0⟩ | ⟨g, cap, cur, rfl, hB, hg, h1, _⟩
 ·omega
 ·have hxl := h.1
  have h3 := h.cells (g := g) rfl i (xs[i]'(by omega)) (List.getElem?_eq_getElem (by omega))
  rw [Addr.add_lit, Nat.zero_add] at h3
  exact ⟨g, cap, _, rfl, h3, h.frozenAt i, (Array.getElem?_eq_some_iff.1 hg).1, hB, cur, hg⟩
end
section
open Go.RowKit Go.Maps
variable {f d q r N T k : Nat} {x : Pl.Fs} {y : Pl.Rf} {s : Pl.Dv} {fp fd fq fr : Nat → Prop} {w W W' X : World} {D B19 : Nat} {gen : Int} {v : Value} {fl : List (Pl.FileP × Value)}
structure RtI (W : World) (D B19 : Nat) (gen : Int) (v : Value) (fl : List (Pl.FileP × Value)) (X : World) : Prop where
 root : Blk X B19 #[.int .u64 gen, v] 71
 row : X.ownsRow D 76 3 v fl.length (fcells4 fl)
 ints : ∀ z ∈ fl, WRow X D 3 1 z.2 z.1.blocks.length
 low : Below W.heap.size W X
theorem RtI.set (h : RtI W D B19 gen v fl X) (hD : W.heap.size ≤ D) {g j : Nat} {cur : Array Value} (hg : X.heap[g]? = some (.cells cur 3 (0, 0))) (hgD : D ≤ g) (u : Value) : RtI W D B19 gen v fl (X.setCell ⟨g, j, none⟩ u) := by
 have k9 := keep_set X g j u
 have n1 : B19 ≠ g := fun e => by
  have h1 := h.root
  unfold Blk at h1
  rw [e, hg] at h1
  injection h1 with h1
  injection h1 with _ h2
  exact absurd h2 (by decide)
 have n2 : v.ownBlock ≠ some g := fun e => by
  rcases id h.row.2 with ⟨rfl, h0⟩ | ⟨g', cap, cur', rfl, _, hg', _⟩
  ·cases e
  ·have e2 : g' = g := by simpa [Value.ownBlock] using e
   rw [e2, hg] at hg'
   injection hg' with h1
   injection h1 with _ h2
   exact absurd h2 (by decide)
 exact ⟨h.root.keep k9 n1, k9.ownsRow h.row (fun q e e2 => n2 (by rw [e, e2])), fun z hz => (h.ints z hz).set g j u, h.low.setCell (p := ⟨g, j, none⟩) (show W.heap.size ≤ g by omega) u⟩
theorem RtI.still (h : RtI W D B19 gen v fl X) {X' : World} (hb : Below X.heap.size X X') : RtI W D B19 gen v fl X' := by
 have hk : Keep (fun q => q < X.heap.size) X X' := Keep.of_below hb (fun _ h _ => h)
 exact ⟨h.root.keep hk h.root.lt, hk.ownsRow h.row (fun q e => (h.row.lt q e).2), fun z hz => (h.ints z hz).still hb, h.low.trans (hb.mono h.low.size)⟩
theorem RtI.file (h : RtI W D B19 gen v fl X) (hD : W.heap.size ≤ D) {i : Nat} (hi : i < fl.length) : ∃ g c a c2, v = .slice (some ⟨g, 0, none⟩) fl.length c ∧ g < X.heap.size ∧ X.cell? ⟨g, i * 3 + 2, none⟩ = some (.slice a fl[i].1.blocks.length c2) ∧
  ∀ k, k < fl[i].1.blocks.length → ∃ g2 z, a = some ⟨g2, 0, none⟩ ∧ X.cell? ⟨g2, k, none⟩ = some z ∧ X.frozen? ⟨g2, k, none⟩ = false ∧ g2 < X.heap.size ∧ RtI W D B19 gen v fl (X.setCell ⟨g2, k, none⟩ (.int .i64 1)) := by
 rcases id h.row.2 with ⟨e, h0⟩ | ⟨g, cap, cur, e, hB, hg, hnc, hcm, hcs, ht⟩
 ·omega
 ·obtain ⟨g0, g1, g2⟩ := fcells4_get fl i hi
  have h2 := h.row.cells (g := g) (by rw [e]; rfl) (i * 3 + 2) fl[i].2 g2
  rw [Addr.add_lit, Nat.zero_add] at h2
  have hw := h.ints fl[i] (List.getElem_mem hi)
  obtain ⟨xs, hxs⟩ := id hw
  obtain ⟨a, c2, e2⟩ := ownsRow_form hxs
  rw [e2] at h2
  refine ⟨g, cap, a, c2, e, (Array.getElem?_eq_some_iff.1 hg).1, h2, fun k hk => ?_⟩
  obtain ⟨g2, c, z, e3, hz, hfz, hl, hDg, cur2, hcur⟩ := hw.at hk
  rw [e2] at e3
  injection e3 with e4 _ _
  exact ⟨g2, z, e4, hz, hfz, hl, h.set hD hcur hDg _⟩
theorem row_maxl {X : World} {B size n : Nat} {e : TypeId} {v : Value} {xs : List Value} (h : X.ownsRow B e size v n xs) : n ≤ 9223372036854775807 := by
 rcases id h.2 with ⟨_, h0⟩ | ⟨g, cap, cur, _, _, _, h1, h2, _⟩
 ·omega
 ·unfold maxLen at h2
  omega
set_option maxHeartbeats 4000000 in
theorem told_any (h : F4 w f d q r x y s s fp fd fq fr W) (hR : Pl.RelF N T x y s) (hN1 : 40 ≤ N) (hN2 : N ≤ 16384) (hT : T ≤ 140737488355328) (c : AcF) (ua : Option Addr) (un uc : Nat) (hc : c.fine) (hnm : c.name.size ≤ 281474976710656) :
  Calls Tryz.prog 12 #[.pointer (some ⟨f, 0, none⟩), .pointer (some ⟨q, 0, none⟩), .agg #[.int .i64 c.kind, .int .i64 c.at', .int .i64 c.num, .string c.name, .string c.dest, .string c.data, .slice ua un uc]] W fun e w' => e = .returned (.bool true) ∧ Below W.heap.size W w' := by
 obtain ⟨kd, at', num, nm, ds, dt, kpl⟩ := c
 obtain ⟨⟨q1, q2⟩, q3, q4, q5⟩ := hc
 simp only at q1 q2 q3 q4 hnm ⊢
 have hlen := hR.len
 have hmx : nm.size ≤ maxLen := by unfold maxLen; omega
 have PA := Lib.hid (fun (X : World) (hb : Below W.heap.size W X) => read_any (h.fs.beyond hb) (h.dev.beyond hb) hR.hk hlen hN2 hT nm hmx at' num q3 q4)
 have PB : Hid (∀ (X : World) (hb : Below W.heap.size W X), Calls Tryz.prog 21 #[.pointer (some ⟨q, 0, none⟩), .string nm, .int .i64 at', .int .i64 num] X fun e w' => e = .returned (.tuple #[.string (x.readE s nm at' num).1, .int .i64 (x.readE s nm at' num).2]) ∧ Below X.heap.size X w') := Lib.hid (fun X hb => (rread_any (h.rf.beyond hb) (h.ref.beyond hb) nm at' num q3 q4).mono (fun e w' ⟨kk, hkk, he, b⟩ => ⟨by rw [he, hR.read hkk], b⟩))
 obtain ⟨RD, hRD⟩ : ∃ RD, RD = x.readE s nm at' num := ⟨_, rfl⟩
 rw [← hRD] at PA PB
 clear hRD
 obtain ⟨RS, RE⟩ := RD
 simp only at PA PB
 have PS := Lib.hid (fun (X : World) (hb : Below W.heap.size W X) => size_any (h.fs.beyond hb) (h.dev.beyond hb) nm hmx (fun z hz => by
  obtain ⟨p, hp, e1, _⟩ := Pl.hget_some hz
  have := hR.hk.all p hp
  have h1 := this.old
  have h2 := this.added
  subst e1
  unfold Pl.HF.size
  omega))
 have PL : Hid (∀ (X : World) (hb : Below W.heap.size W X), Calls Tryz.prog 23 #[.pointer (some ⟨q, 0, none⟩), .string nm] X fun e w' => e = .returned (.tuple #[.int .i64 (x.sizeE s nm).1, .int .i64 (x.sizeE s nm).2]) ∧ Below X.heap.size X w') := Lib.hid (fun X hb => (rlength_any (h.rf.beyond hb) (h.ref.beyond hb) nm).mono (fun e w' ⟨kk, hkk, he, b⟩ => ⟨by rw [he, hR.size hkk], b⟩))
 obtain ⟨SD, hSD⟩ : ∃ SD, SD = x.sizeE s nm := ⟨_, rfl⟩
 rw [← hSD] at PS PL
 clear hSD
 obtain ⟨SN, SE⟩ := SD
 simp only at PS PL
 have hfew := hR.few
 have hmany := hR.hk.many
 have hNl : (x.namesE s).length ≤ 64 := by
  rw [← hR.namesE]
  unfold Pl.Rf.namesR
  split
  ·simp
  ·rw [List.length_map]; exact hfew
 have PN := Lib.hid (fun (X : World) (hb : Below W.heap.size W X) => names_any (h.fs.beyond hb) (h.dev.beyond hb) (by omega))
 have PM := Lib.hid (fun (X : World) (hb : Below W.heap.size W X) => rnames_any (h.rf.beyond hb) (h.ref.beyond hb) (by omega))
 rw [hR.namesE] at PM
 generalize x.namesE s = NL at PN PM hNl
 have hmay := hR.may
 have hymay := hR.ymay
 have hsafe := hR.safeE
 have hbl : ∀ b ∈ Pl.flatB x.safe.files, 32 ≤ b ∧ b < (N : Int) := fun b hb => by
  have h1 := hmay.seen x.safe.files.length (Nat.le_refl _)
  rw [List.take_length] at h1
  exact ⟨h1.lo b hb, h1.hi b hb⟩
 have hbn : ∀ z ∈ x.safe.files, z.blocks.length ≤ 16384 := fun z hz => by have := (hmay.blocks (by omega) hz).1; omega
 have hfb : (Pl.flatB x.safe.files).length ≤ 1073741824 := by
  have h1 : ∀ l : List Pl.FileP, (∀ z ∈ l, z.blocks.length ≤ 16384) → (Pl.flatB l).length ≤ l.length * 16384 := by
   intro l
   induction l with
   | nil => intro _; simp [Pl.flatB]
   | cons a l ih =>
    intro hl
    have h2 := ih (fun z hz => hl z (List.mem_cons_of_mem _ hz))
    have h3 := hl a List.mem_cons_self
    unfold Pl.flatB at *
    rw [List.flatMap_cons, List.length_append, List.length_cons]
    omega
  have := h1 _ hbn
  have := hmay.many
  omega
 have PF := Lib.hid (fun (X : World) (hb : Below W.heap.size W X) => freeN_any (h.fs.beyond hb) (h.dev.beyond hb) h.d1 (by omega) (by omega) hfb (fun b hb => by have := hbl b hb; omega))
 have PG := Lib.hid (fun (X : World) (hb : Below W.heap.size W X) => rFree_any (h.rf.beyond hb) (h.ref.beyond hb) (by omega) (by rw [hsafe]; have := hmay.many; omega) (fun z hz => by rw [hsafe] at hz; have := hbn z hz; omega) (fun b hb => by rw [hsafe] at hb; have := hbl b hb; omega))
 rw [hR.freeE] at PG
 generalize x.freeN s = FN at PF PG
 have PT := Lib.hid (fun (X : World) (hb : Below W.heap.size W X) => root_any (h.fs.beyond hb) (h.dev.beyond hb) (by have := hmay.many; omega) (fun z hz => by have := hbn z hz; omega))
 have PU := Lib.hid (fun (X : World) (hb : Below W.heap.size W X) => rroot_any (h.rf.beyond hb) (h.ref.beyond hb))
 rw [hR.rootE] at PU
 unfold RootEnds at PT
 generalize x.rootE s = RT at PT PU
 clear hbl hbn hfb hmay hymay hsafe h hR hfew hmany
 have hb1 : Below W.heap.size W (W.alloc (.cells #[.int .i64 kd, .int .i64 at', .int .i64 num, .string nm, .string ds, .string dt, .slice ua un uc] 36)) := (Below.refl _ _).alloc (Nat.le_refl _) _
 have hX5 := Blk.new W #[.int .i64 kd, .int .i64 at', .int .i64 num, .string nm, .string ds, .string dt, .slice ua un uc] 36
 go_enter Tryz.func12, Tryz.ntmps12
 go_upto_region 1 with (fail)
 generalize W.alloc (.cells #[.int .i64 kd, .int .i64 at', .int .i64 num, .string nm, .string ds, .string dt, .slice ua un uc] 36) = W1 at hb1 hX5 ⊢
 have hcl : Hid (∀ X, Below W1.heap.size W1 X → X.cell? ⟨W.heap.size, 0, none⟩ = some (.int .i64 kd) ∧ X.cell? ⟨W.heap.size, 1, none⟩ = some (.int .i64 at') ∧ X.cell? ⟨W.heap.size, 2, none⟩ = some (.int .i64 num) ∧ X.cell? ⟨W.heap.size, 3, none⟩ = some (.string nm)) := Lib.hid (fun X hb => by
  have h2 : Blk X W.heap.size _ _ := (hb.block W.heap.size hX5.lt).trans hX5
  exact ⟨by simp [h2.cell], by simp [h2.cell], by simp [h2.cell], by simp [h2.cell]⟩)
 obtain ⟨l0, l1, l2, l3⟩ := hcl.out W1 (Below.refl _ _)
 have hWs := hb1.size
 clear hX5
 by_cases hk6 : kd = 6
 case pos =>
  subst hk6
  clear PS PL PN PM PF PG PT PU
  go_wp2_with (first
   | (go_at_call 20; refine (PA.out W1 hb1).mono ?_; rintro e w2 ⟨rfl, b2⟩; have hb2 := hb1.trans (b2.mono hWs); have ⟨m0, m1, m2, m3⟩ := hcl.out w2 b2)
   | (go_at_call 21; refine (PB.out w2 hb2).mono ?_; rintro e w3 ⟨rfl, b3⟩))
  go_ret
  exact ⟨ret_bool (by simp), hb2.trans (b3.mono hb2.size)⟩
 case neg =>
  clear PA PB
  have hk7 : (kd == 6) = false := by simpa using hk6
  clear hk6
  go_upto_region 9 with (first
   | (go_at_call 22; refine (PS.out W1 hb1).mono ?_; rintro e w2 ⟨rfl, b2⟩; have hb2 := hb1.trans (b2.mono hWs); have ⟨m0, m1, m2, m3⟩ := hcl.out w2 b2)
   | (go_at_call 23; refine (PL.out w2 hb2).mono ?_; rintro e w3 ⟨rfl, b3⟩; have hb3 := hb2.trans (b3.mono hb2.size))
   | (go_at_call 24; refine (PN.out w3 hb3).mono ?_; rintro e w4 ⟨v4, rfl, o4, b4⟩; have hb4 := hb3.trans (b4.mono hb3.size))
   | (go_at_call 26; refine (PM.out w4 hb4).mono ?_; rintro e w5 ⟨v5, rfl, o5, b5⟩; have hb5 := hb4.trans (b5.mono hb4.size); have o45 := (Keep.of_below (fp := fun z => z < w4.heap.size) b5 (fun _ h _ => h)).ownsRow o4 (fun z e => (o4.lt z e).2); have PST := Lib.hid (sameTexts_same NL o45 o5 (by omega)))
   | (go_at_call 25; refine PST.out.mono ?_; rintro e w6 ⟨rfl, b6⟩; have hb6 := hb5.trans (b6.mono hb5.size)))
  have hr6 : WRow w6 w3.heap.size 9 1 v4 NL.length := WRow.still ⟨_, o45⟩ b6
  have hr7 : WRow w6 W.heap.size 9 1 v4 NL.length := by obtain ⟨xs, h⟩ := hr6; exact ⟨xs, row_base h hb3.size⟩
  obtain ⟨na, nc, rfl⟩ := ownsRow_form o45
  obtain ⟨n, hn⟩ : ∃ n, n = NL.length := ⟨_, rfl⟩
  rw [← hn] at hr7 ⊢
  have hn64 : n ≤ 64 := by omega
  clear hn hNl o45 o5 o4 b4 b5 b6 b3 b2 hr6 PS PL PN PM PST hb2 hb3 hb4 hb5 l0 l1 l2 l3 m0 m1 m2 m3 hcl hb1 hWs
  go_wp2_with fail
  go_loopw [17] (fun i X => ∃ (j : Nat), j ≤ n ∧ i = .int .i64 (j : Int) ∧ WRow X W.heap.size 9 1 (.slice na n nc) n ∧ Below W.heap.size W X) (fun i _ => n - (intOf i).toNat)
  case atStart => exact ⟨0, Nat.zero_le _, rfl, hr7, hb6⟩
  clear hr7 hb6
  case round =>
   obtain ⟨j, hj, rfl, hr, hb⟩ := hrel
   by_cases hjl : j < n
   ·-- {2
    have hj2 : (j : Int) < (n : Int) := by omega
    have hj3 : (0 : Int) ≤ (j : Int) := by omega
    obtain ⟨g, c, z, e, hz, hfz, hgl, hgB, _⟩ := hr.at hjl
    injection e with e1 _ e3
    subst e1 e3
    have hr2 := hr.set g j (.string ⟨#[63]⟩)
    have hb2 := hb.setCell (p := ⟨g, j, none⟩) hgB (.string ⟨#[63]⟩)
    replace hr2 := Lib.hid hr2
    replace hb2 := Lib.hid hb2
    clear hr hb
    go_wp2_with fail
    go_roundw
    case rel => exact ⟨j + 1, by omega, by go_num, hr2.out, hb2.out⟩
    case measure => simp [intOf]; omega
   ·have hj2 : ¬ (j : Int) < (n : Int) := by omega
    clear hr
    go_upto_region 15 with (first
     | (go_at_call 27; refine (PF.out wr hb).mono ?_; rintro e w7 ⟨rfl, b7⟩; have hb7 := hb.trans (b7.mono hb.size))
     | (go_at_call 28; refine (PT.out w7 hb7).mono ?_; rintro e w8 ⟨va, vn, vc, fl, rfl, hfo, hfl, b8⟩))
    have hb8 := hb7.trans (b8.mono hb7.size)
    have hb9 := hb8.alloc hb8.size (.cells #[.int .u64 (RT.gen : Int), .slice va vn vc] 71)
    have hB19 := Blk.new w8 #[.int .u64 (RT.gen : Int), .slice va vn vc] 71
    have hk9 : Keep (fun q => q < w8.heap.size) w8 (w8.alloc (.cells #[.int .u64 (RT.gen : Int), .slice va vn vc] 71)) := Keep.of_below ((Below.refl _ _).alloc (Nat.le_refl _) _) (fun _ h _ => h)
    generalize w8.alloc (.cells #[.int .u64 (RT.gen : Int), .slice va vn vc] 71) = w9 at hb9 hB19 hk9 ⊢
    have hfo9 := hfo.keep hk9 (fun _ _ h => h)
    have hI9 : RtI W w7.heap.size w8.heap.size (RT.gen : Int) (.slice va vn vc) fl w9 := ⟨hB19, hfo9.1, fun z hz => ⟨_, hfo9.2 z hz⟩, hb9⟩
    have hfa : FilesAt w9 (.slice va vn vc) RT.files := by rw [← hfl]; exact hfo9.at
    have hD7 := hb7.size
    obtain ⟨B19, hB⟩ : ∃ B19, B19 = w8.heap.size := ⟨_, rfl⟩
    rw [← hB] at hI9 hB19 ⊢
    have t0 : w9.cell? ⟨B19, 0, none⟩ = some (.int .u64 (RT.gen : Int)) := by simp [hB19.cell]
    have t1 : w9.cell? ⟨B19, 1, none⟩ = some (.slice va vn vc) := by simp [hB19.cell]
    have hB9l := hB19.lt
    have hbd : Below w9.heap.size w9 w9.drew := (Below.refl _ _).drew
    have hbWd : Below W.heap.size W w9.drew := hb9.trans (hbd.mono hb9.size)
    have PU9 := Lib.hid (PU.out w9.drew hbWd)
    have hcl := Lib.hid (fun (X : World) (hb : Below w9.heap.size w9 X) => (⟨(hb.cell (p := ⟨B19, 0, none⟩) hB9l).trans t0, (hb.cell (p := ⟨B19, 1, none⟩) hB9l).trans t1⟩ : X.cell? ⟨B19, 0, none⟩ = some (.int .u64 (RT.gen : Int)) ∧ X.cell? ⟨B19, 1, none⟩ = some (.slice va vn vc)))
    have PV := Lib.hid (fun (X : World) (u2 : Value) (hb : Below w9.heap.size w9 X) hu2 => sameRoot4 RT (.slice va vn vc) u2 X (hfa.below hb) hu2)
    clear hfa hfo hfo9 hB19 hb7 b7 b8 hk9 PT hb hb8
    replace hfl := Lib.hid hfl
    replace hB := Lib.hid hB
    go_region_held3 (fun W' => W'.cell? ⟨B19, 0, none⟩ = some (.int .u64 (RT.gen : Int)) ∧ W'.cell? ⟨B19, 1, none⟩ = some (.slice va vn vc)) (first | exact kB | exact kA | exact ⟨t0, t1⟩ | go_keep)
     (first
     | (go_at_call 30; refine PU9.out.mono ?_; rintro e wA ⟨u2, rfl, hu2, bA⟩; have bA9 := hbd.trans (bA.mono hbd.size); have kA := hcl.out wA bA9)
     | (go_at_call 29; refine (PV.out _ u2 bA9 hu2).mono ?_; rintro e wB ⟨rfl, bB⟩; have bB9 := bA9.trans (bB.mono bA9.size); have kB := hcl.out wB bB9))
    have hIB := hI9.still bB9
    clear hI9 t0 t1 hcl PV PU9 kA kB
    obtain rfl : vn = fl.length := by
     obtain ⟨a, c, e⟩ := ownsRow_form hIB.row
     injection e
    have hflm := row_maxl hIB.row
    clear hbWd hb9 hbd
    go_wp2_with fail
    go_loopw [21] (fun i X => ∃ (a : Nat), a ≤ fl.length ∧ i = .int .i64 (a : Int) ∧ RtI W w7.heap.size B19 (RT.gen : Int) (.slice va fl.length vc) fl X) (fun i _ => fl.length - (intOf i).toNat)
    case atStart => exact ⟨0, Nat.zero_le _, rfl, hIB⟩
    clear hIB
    case round =>
     obtain ⟨a, ha, rfl, hI⟩ := hrel
     have ha0 : (0 : Int) ≤ (a : Int) := by omega
     by_cases hal : a < fl.length
     ·-- {3
      have ha2 : (a : Int) < (fl.length : Int) := by omega
      obtain ⟨bn, hbn⟩ : ∃ bn, bn = fl[a].1.blocks.length := ⟨_, rfl⟩
      have hbnm : bn ≤ 9223372036854775807 := by
       obtain ⟨xs, hxs⟩ := hI.ints fl[a] (List.getElem_mem hal)
       have := row_maxl hxs
       omega
      replace hbn := Lib.hid hbn
      have r1 : wr.cell? ⟨B19, 1, none⟩ = some (.slice va fl.length vc) := by simp [hI.root.cell]
      go_wp2_with fail
      go_loopw [22] (fun j X => ∃ (b : Nat), b ≤ bn ∧ j = .int .i64 (b : Int) ∧ RtI W w7.heap.size B19 (RT.gen : Int) (.slice va fl.length vc) fl X) (fun j _ => bn - (intOf j).toNat)
      case atStart => exact ⟨0, Nat.zero_le _, rfl, hI⟩
      clear hI
      case round =>
       obtain ⟨b, hbb, rfl, hI⟩ := hrel
       have hb0 : (0 : Int) ≤ (b : Int) := by omega
       obtain ⟨g, c, ub, c2, e, hgl, hcell, hblk⟩ := hI.file hD7 hal
       injection e with e1 _ e3
       subst e1 e3
       rw [← hbn.out] at hcell hblk
       have r1 : wr.cell? ⟨B19, 1, none⟩ = some (.slice (some ⟨g, 0, none⟩) fl.length vc) := by simp [hI.root.cell]
       by_cases hbl : b < bn
       ·have hb2 : (b : Int) < (bn : Int) := by omega
        obtain ⟨g2, z, rfl, hz, hfz, hg2l, hI2⟩ := hblk b hbl
        replace hI2 := Lib.hid hI2
        clear hI hblk
        go_wp2_with fail
        go_roundw
        case rel => exact ⟨b + 1, by omega, by go_num, hI2.out⟩
        case measure => simp [intOf]; omega
       ·have hb2 : ¬ (b : Int) < (bn : Int) := by omega
        clear hblk
        go_wp2_with fail
        go_roundw
        case rel => exact ⟨a + 1, by omega, by go_num, hI⟩
        case measure => simp [intOf]; omega
     ·have ha2 : ¬ (a : Int) < (fl.length : Int) := by omega
      have r1 : wr.cell? ⟨B19, 1, none⟩ = some (.slice va fl.length vc) := by simp [hI.root.cell]
      have hlow := hI.low
      clear hI
      go_wp2_with (go_at_call 31; refine (PG.out wr hlow).mono ?_; rintro e wZ ⟨rfl, bZ⟩)
      go_ret
      exact ⟨ret_bool (by simp), hlow.trans (bZ.mono hlow.size)⟩
end
section
open Go.RowKit Go.Maps
variable {f d q r N T k b : Nat} {x : Pl.Fs} {y : Pl.Rf} {s : Pl.Dv} {fp fd fq fr : Nat → Prop} {w W W' X : World} {cs : Array Value}
theorem F4.doc2 {s1 s2 s2' : Pl.Dv} {y' : Pl.Rf} {fq' fr' : Nat → Prop} (h : F4 w f d q r x y s1 s2 fp fd fq fr W) (hR : RfAt w.heap.size q r y' fq' W') (hE : RefAt w.heap.size r s2' fr' W') (hdj : ∀ z, fq' z → ¬ fr' z) (n1 : ∀ z, fq' z → (fq z ∨ fr z) ∨ W.heap.size ≤ z) (n2 : ∀ z, fr' z → (fq z ∨ fr z) ∨ W.heap.size ≤ z) (hk : Keep (fun z => ¬ fq z ∧ ¬ fr z) W W') :
  F4 w f d q r x y' s1 s2' fp fd fq' fr' W' :=
 ⟨h.fs.keep (hk.mono (fun z hz _ => ⟨fun e => h.d2 z hz e, fun e => h.d3 z hz e⟩)), h.dev.keep (hk.mono (fun z hz _ => ⟨fun e => h.d4 z hz e, fun e => h.d5 z hz e⟩)), hR, hE, h.d1, fun z a b => apart_new n1 h.fs.lt (fun z a b => a.elim (h.d2 z b) (h.d3 z b)) z b a, fun z a b => apart_new n2 h.fs.lt (fun z a b => a.elim (h.d2 z b) (h.d3 z b)) z b a, fun z a b => apart_new n1 h.dev.lt (fun z a b => a.elim (h.d4 z b) (h.d5 z b)) z b a, fun z a b => apart_new n2 h.dev.lt (fun z a b => a.elim (h.d4 z b) (h.d5 z b)) z b a, hdj,
  hk.below h.low (Nat.le_refl _) (fun z hz => ⟨fun e => by have := h.rf.fpB z e; omega, fun e => by have := h.ref.fpB z e; omega⟩)⟩
def OneD (w : World) (f d q r N T k : Nat) (X : World) : Prop := ∃ (x : Pl.Fs) (y : Pl.Rf) (s : Pl.Dv) (fp fd fq fr : Nat → Prop), F4 w f d q r x y s s fp fd fq fr X ∧ Pl.RelF N T x y s ∧ Pl.Fine N k s
def BothE (b : Nat) (cs : Array Value) (F1 F2 : FuncId) (a1 a2 : Array Value) (W : World) (D : World → Prop) : Prop :=
 ∃ (R : Int) (M : World → Prop), Calls Tryz.prog F1 a1 W (fun e w1 => e = .returned (.int .i64 R) ∧ M w1 ∧ Blk w1 b cs 36) ∧ ∀ X, M X → Calls Tryz.prog F2 a2 X (fun e w2 => e = .returned (.int .i64 R) ∧ D w2)
theorem both_create (h : F4 w f d q r x y s s fp fd fq fr W) (hR : Pl.RelF N T x y s) (hF : Pl.Fine N k s) (nm : ByteArray) (hnm : nm.size ≤ 281474976710656) (hB : Blk W b cs 36) (hb : ¬ fp b ∧ ¬ fd b) :
  BothE b cs 32 33 #[.pointer (some ⟨f, 0, none⟩), .string nm] #[.pointer (some ⟨q, 0, none⟩), .string nm] W (OneD w f d q r N T k) :=
 ⟨(x.createE s nm).2, fun X => F4 w f d q r (x.createE s nm).1 y s s fp fd fq fr X, (create_any h.fs h.dev nm hnm).mono (fun e w1 ⟨he, hFs, st⟩ => ⟨he, h.fsS hFs st, hB.keep st.keep hb.1⟩),
  fun X hX => (rcreate_any hX.rf hX.ref nm (by have := hR.few; omega) hX.low.size).mono (fun e w2 ⟨kk, hkk, he, fq', hRf, st⟩ => ⟨by rw [he, (hR.create hkk).1], _, _, _, _, _, _, _, hX.rfS hRf st, (hR.create hkk).2, hF⟩)⟩
theorem both_append (h : F4 w f d q r x y s s fp fd fq fr W) (hR : Pl.RelF N T x y s) (hF : Pl.Fine N k s) (nm t : ByteArray) (hnm : nm.size ≤ 281474976710656) (ht : T + t.size ≤ 140737488355328) (hB : Blk W b cs 36) (hb : ¬ fp b ∧ ¬ fd b) :
  BothE b cs 34 35 #[.pointer (some ⟨f, 0, none⟩), .string nm, .string t] #[.pointer (some ⟨q, 0, none⟩), .string nm, .string t] W (OneD w f d q r N (T + t.size) k) :=
 ⟨(x.appendE s nm t).2, fun X => F4 w f d q r (x.appendE s nm t).1 y s s fp fd fq fr X, (append_any h.fs h.dev nm t (by unfold maxLen; omega) (fun z hz => by
   obtain ⟨p, hp, rfl, _⟩ := Pl.hget_some hz
   have := (hR.hk.all p hp).added
   omega) (by have := hR.hk.many; unfold maxLen; omega)).mono (fun e w1 ⟨he, hFs, st⟩ => ⟨he, h.fsS hFs st, hB.keep st.keep hb.1⟩),
  fun X hX => (rappend_any hX.rf hX.ref nm t (fun z hz => by have := hR.datas z hz; omega)).mono (fun e w2 ⟨kk, hkk, he, fq', hRf, st⟩ => ⟨by rw [he, (hR.append hkk).1], _, _, _, _, _, _, _, hX.rfS hRf st, (hR.append hkk).2, hF⟩)⟩
theorem both_delete (h : F4 w f d q r x y s s fp fd fq fr W) (hR : Pl.RelF N T x y s) (hF : Pl.Fine N k s) (nm : ByteArray) (hnm : nm.size ≤ 281474976710656) (hB : Blk W b cs 36) (hb : ¬ fp b ∧ ¬ fd b) :
  BothE b cs 38 39 #[.pointer (some ⟨f, 0, none⟩), .string nm] #[.pointer (some ⟨q, 0, none⟩), .string nm] W (OneD w f d q r N T k) :=
 ⟨(x.deleteE s nm).2, fun X => F4 w f d q r (x.deleteE s nm).1 y s s fp fd fq fr X, (delete_any h.fs h.dev nm (by unfold maxLen; omega)).mono (fun e w1 ⟨he, hFs, st⟩ => ⟨he, h.fsS hFs st, hB.keep st.keep hb.1⟩),
  fun X hX => (rdelete_any hX.rf hX.ref nm (by have := hR.few; omega) hX.low.size).mono (fun e w2 ⟨kk, hkk, he, fq', hRf, st⟩ => ⟨by rw [he, (hR.delete hkk).1], _, _, _, _, _, _, _, hX.rfS hRf st, (hR.delete hkk).2, hF⟩)⟩
theorem both_rename (h : F4 w f d q r x y s s fp fd fq fr W) (hR : Pl.RelF N T x y s) (hF : Pl.Fine N k s) (nm tn : ByteArray) (hnm : nm.size ≤ 281474976710656) (htn : tn.size ≤ 281474976710656) (hB : Blk W b cs 36) (hb : ¬ fp b ∧ ¬ fd b) :
  BothE b cs 36 37 #[.pointer (some ⟨f, 0, none⟩), .string nm, .string tn] #[.pointer (some ⟨q, 0, none⟩), .string nm, .string tn] W (OneD w f d q r N T k) :=
 ⟨(x.renameE s nm tn).2, fun X => F4 w f d q r (x.renameE s nm tn).1 y s s fp fd fq fr X, (rename_any h.fs h.dev nm tn (by unfold maxLen; omega) htn (by have := hR.hk.many; unfold maxLen; omega)).mono (fun e w1 ⟨he, hFs, st⟩ => ⟨he, h.fsS hFs st, hB.keep st.keep hb.1⟩),
  fun X hX => (rrename_any hX.rf hX.ref nm tn (by have := hR.few; omega) hX.low.size).mono (fun e w2 ⟨kk, jj, hkk, hjj, he, fq', hRf, st⟩ => ⟨by rw [he, (hR.rename hkk hjj).1], _, _, _, _, _, _, _, hX.rfS hRf st, (hR.rename hkk hjj).2, hF⟩)⟩
theorem Pl.commit_fine (hR : Pl.RelF N T x y s) (hF : Pl.Fine N k s) (hT : T ≤ 140737488355328) (hN2 : N ≤ 16384) : Pl.Fine N (k + 16402) (x.commitE s).1.2 := by
 unfold Pl.Fs.commitE
 split
 ·exact hF.mono (by omega)
 ·split
  ·exact hF.mono (by omega)
  ·cases hp : x.planE s with
   | none => exact hF.mono (by omega)
   | some lr =>
    obtain ⟨l, r0⟩ := lr
    have po := Pl.planE_ok hR.len (hR.hk.ok (by omega)) hp
    have h1 := po.few
    have h2 : Pl.Fine N (k + 16402) (Pl.wrRoot s l r0).1 := (Pl.wrRoot_fine hF l r0).mono (by omega)
    simp only
    split
    ·exact h2
    ·exact h2
theorem flat_few {l : List Pl.FileP} (hl : ∀ z ∈ l, z.blocks.length ≤ 16384) : (Pl.flatB l).length ≤ l.length * 16384 := by
 induction l with
 | nil => simp [Pl.flatB]
 | cons a l ih =>
  have h2 := ih (fun z hz => hl z (List.mem_cons_of_mem _ hz))
  have h3 := hl a List.mem_cons_self
  unfold Pl.flatB at *
  rw [List.flatMap_cons, List.length_append, List.length_cons]
  omega
theorem both_commit (h : F4 w f d q r x y s s fp fd fq fr W) (hR : Pl.RelF N T x y s) (hF : Pl.Fine N k s) (hk : k ≤ 1099511627776) (hN1 : 40 ≤ N) (hN2 : N ≤ 16384) (hT : T ≤ 140737488355328) (hB : Blk W b cs 36) (hb : ¬ fp b ∧ ¬ fd b) :
  BothE b cs 40 41 #[.pointer (some ⟨f, 0, none⟩)] #[.pointer (some ⟨q, 0, none⟩)] W (OneD w f d q r N T (k + 16402)) := by
 have hOk : Pl.Ok N k s := ⟨hF.len, hF.armed, hF.acts, hF.wait⟩
 have hmay := hR.may
 have hbl : ∀ b ∈ Pl.flatB x.safe.files, 32 ≤ b ∧ b < (N : Int) := fun b hb => by
  have h1 := hmay.seen x.safe.files.length (Nat.le_refl _)
  rw [List.take_length] at h1
  exact ⟨h1.lo b hb, h1.hi b hb⟩
 have hfl := flat_few (l := x.safe.files) (fun z hz => by have := (hmay.blocks (by omega) hz).1; omega)
 have hmn := hmay.many
 refine ⟨(x.commitE s).2, fun X => ∃ fp' fd', F4 w f d q r (x.commitE s).1.1 y (x.commitE s).1.2 s fp' fd' fq fr X, (commit_any h.fs h.dev h.d1 h.low.size h.low.size hOk hk hN1 hN2 (hR.hk.ok (by omega)) (by omega) (fun b hb => by have := hbl b hb; omega) hmay.g2).mono ?_, ?_⟩
 ·rintro e w1 ⟨he, fp', fd', hFs, hD, hdj, n1, n2, hkp⟩
  exact ⟨he, ⟨fp', fd', h.real hFs hD hdj n1 n2 hkp⟩, hB.keep hkp hb⟩
 ·rintro X ⟨fp', fd', hX⟩
  have hwf := hX.dev.wf
  obtain ⟨c1, c2, c3⟩ := hR.commit (by omega) hN1 hN2 hwf
  refine (rcommit_any hX.rf hX.ref hF hk hN1 hN2 hX.d6 hX.low.size hX.low.size hR.ymay (hR.handD (by omega) hN2) (hR.plan (by omega) hN2)).mono ?_
  rintro e w2 ⟨he, fq', fr', hRf, hE, hdj, st⟩
  refine ⟨by rw [he, c1], (x.commitE s).1.1, (y.commitR s).1.1, (x.commitE s).1.2, fp', fd', fq', fr', ?_, c3, Pl.commit_fine hR hF hT hN2⟩
  rw [c2] at hE
  exact hX.doc2 hRf hE hdj (fun z hz => st.new z (.inl hz)) (fun z hz => st.new z (.inr hz)) (st.keep.mono (fun z hz _ h => h.elim hz.1 hz.2))
end
section
open Go.RowKit Go.Maps
variable {f d q r N T k b : Nat} {x : Pl.Fs} {y : Pl.Rf} {s : Pl.Dv} {fp fd fq fr : Nat → Prop} {w W W' X : World} {cs : Array Value}
theorem OneD.mono {T' k' : Nat} (h : OneD w f d q r N T k X) (hT : T ≤ T') (hk : k ≤ k') : OneD w f d q r N T' k' X := by
 obtain ⟨x, y, s, fp, fd, fq, fr, h1, h2, h3⟩ := h
 exact ⟨x, y, s, fp, fd, fq, fr, h1, h2.mono hT, h3.mono hk⟩
theorem OneD.still (h : OneD w f d q r N T k X) (hb : Below X.heap.size X W) : OneD w f d q r N T k W := by
 obtain ⟨x, y, s, fp, fd, fq, fr, h1, h2, h3⟩ := h
 exact ⟨x, y, s, fp, fd, fq, fr, h1.beyond hb, h2, h3⟩
def BothV (F1 F2 : FuncId) (a1 a2 : Array Value) (W : World) (D : World → Prop) : Prop :=
 ∃ (M : World → Prop), Calls Tryz.prog F1 a1 W (fun e w1 => (∃ v, e = .returned v) ∧ M w1) ∧ ∀ X, M X → Calls Tryz.prog F2 a2 X (fun e w2 => (∃ v, e = .returned v) ∧ D w2)
theorem both_revert (h : F4 w f d q r x y s s fp fd fq fr W) (hR : Pl.RelF N T x y s) (hF : Pl.Fine N k s) (hk : k ≤ 1099511627776) (hN2 : N ≤ 16384) :
  BothV 42 43 #[.pointer (some ⟨f, 0, none⟩)] #[.pointer (some ⟨q, 0, none⟩)] W (OneD w f d q r N T k) := by
 have hmay := hR.may
 have hmn := hmay.many
 refine ⟨fun X => ∃ fp', F4 w f d q r (x.revertE s) y s s fp' fd fq fr X, (revert_any h.fs h.dev h.low.size (fun z hz => by
  have := hmay.blocks (by omega) hz
  unfold maxLen
  omega) (by omega)).mono ?_, ?_⟩
 ·rintro e w1 ⟨hv, fp', hFs, st⟩
  exact ⟨hv, fp', h.fsS hFs st⟩
 ·rintro X ⟨fp', hX⟩
  refine (rrevert_any hX.rf hX.ref hX.d6 hX.low.size (by have := hF.wait; omega) (by rw [hF.len]; exact hN2) (by rw [hF.len]; exact hR.ymay)).mono ?_
  rintro e w2 ⟨hv, fq', hRf, st⟩
  exact ⟨hv, _, _, _, _, _, _, _, hX.rfS hRf st, hR.revert hN2, hF⟩
set_option maxHeartbeats 4000000 in
theorem one_any4 (h : F4 w f d q r x y s s fp fd fq fr W) (hR : Pl.RelF N T x y s) (hF : Pl.Fine N k s) (hk : k ≤ 1099511627776) (hN1 : 40 ≤ N) (hN2 : N ≤ 16384) (c : AcF) (hT : T + c.data.size ≤ 140737488355328) (ua : Option Addr) (un uc : Nat) (hc : c.fine) (hnm : c.name.size ≤ 281474976710656) (htn : c.dest.size ≤ 281474976710656) :
  Calls Tryz.prog 13 #[.pointer (some ⟨f, 0, none⟩), .pointer (some ⟨q, 0, none⟩), .agg #[.int .i64 c.kind, .int .i64 c.at', .int .i64 c.num, .string c.name, .string c.dest, .string c.data, .slice ua un uc]] W fun e w' => e = .returned (.bool true) ∧ OneD w f d q r N (T + c.data.size) (k + 16402) w' := by
 have hb1 : Below W.heap.size W (W.alloc (.cells #[.int .i64 c.kind, .int .i64 c.at', .int .i64 c.num, .string c.name, .string c.dest, .string c.data, .slice ua un uc] 36)) := (Below.refl _ _).alloc (Nat.le_refl _) _
 have hX5 := Blk.new W #[.int .i64 c.kind, .int .i64 c.at', .int .i64 c.num, .string c.name, .string c.dest, .string c.data, .slice ua un uc] 36
 have h1 := h.beyond hb1
 have hbx : ¬ fp W.heap.size ∧ ¬ fd W.heap.size := ⟨fun e => by have := h.fs.lt _ e; omega, fun e => by have := h.dev.lt _ e; omega⟩
 have PT := Lib.hid (told_any h1 hR hN1 hN2 (by omega) c ua un uc hc hnm)
 have hD0 := Lib.hid (fun (X : World) (hb : Below (W.alloc (.cells #[.int .i64 c.kind, .int .i64 c.at', .int .i64 c.num, .string c.name, .string c.dest, .string c.data, .slice ua un uc] 36)).heap.size (W.alloc (.cells #[.int .i64 c.kind, .int .i64 c.at', .int .i64 c.num, .string c.name, .string c.dest, .string c.data, .slice ua un uc] 36)) X) => (⟨x, y, s, fp, fd, fq, fr, h1.beyond hb, hR.mono (Nat.le_add_right _ _), hF.mono (Nat.le_add_right _ _)⟩ : OneD w f d q r N (T + c.data.size) (k + 16402) X))
 go_enter Tryz.func13, Tryz.ntmps13
 go_upto_region 3 with (fail)
 generalize W.alloc (.cells #[.int .i64 c.kind, .int .i64 c.at', .int .i64 c.num, .string c.name, .string c.dest, .string c.data, .slice ua un uc] 36) = W1 at hX5 h1 PT hD0 ⊢
 obtain ⟨b5, hb5⟩ : ∃ b5, b5 = W.heap.size := ⟨_, rfl⟩
 rw [← hb5] at hX5 hbx ⊢
 have PC := both_create h1 hR hF c.name hnm hX5 hbx
 have PA := both_append h1 hR hF c.name c.data hnm hT hX5 hbx
 have PN := both_rename h1 hR hF c.name c.dest hnm htn hX5 hbx
 have PD := both_delete h1 hR hF c.name hnm hX5 hbx
 have PM := both_commit h1 hR hF hk hN1 hN2 (by omega) hX5 hbx
 have PV := both_revert h1 hR hF hk hN2
 have ht0 : T ≤ T + c.data.size := Nat.le_add_right _ _
 have hk0 : k ≤ k + 16402 := Nat.le_add_right _ _
 clear h1 hb1 hb5 hbx h hR hF hT hc
 obtain ⟨kd, at', num, nm, ds, dt, kpl⟩ := c
 simp only at *
 have l0 : W1.cell? ⟨b5, 0, none⟩ = some (.int .i64 kd) := by simp [hX5.cell]
 have l1 : W1.cell? ⟨b5, 1, none⟩ = some (.int .i64 at') := by simp [hX5.cell]
 have l2 : W1.cell? ⟨b5, 2, none⟩ = some (.int .i64 num) := by simp [hX5.cell]
 have l3 : W1.cell? ⟨b5, 3, none⟩ = some (.string nm) := by simp [hX5.cell]
 have l4 : W1.cell? ⟨b5, 4, none⟩ = some (.string ds) := by simp [hX5.cell]
 have l5 : W1.cell? ⟨b5, 5, none⟩ = some (.string dt) := by simp [hX5.cell]
 have l6 : W1.cell? ⟨b5, 6, none⟩ = some (.slice ua un uc) := by simp [hX5.cell]
 by_cases k0 : kd = 0
 ·subst k0
  obtain ⟨R, M, P1, P2⟩ := PC
  replace P1 := Lib.hid P1
  replace P2 := Lib.hid P2
  clear PA PN PD PM PV PT hD0
  go_wp2_with (first
   | (go_at_call 32; refine P1.out.mono ?_; rintro e w1 ⟨rfl, hM, hB1⟩; have m3 : w1.cell? ⟨b5, 3, none⟩ = some (.string nm) := (by simp [hB1.cell]); have m4 : w1.cell? ⟨b5, 4, none⟩ = some (.string ds) := (by simp [hB1.cell]); have m5 : w1.cell? ⟨b5, 5, none⟩ = some (.string dt) := (by simp [hB1.cell]); replace hM := Lib.hid hM)
   | (go_at_call 33; refine (P2.out w1 hM.out).mono ?_; rintro e w2 ⟨rfl, hD⟩))
  go_ret
  exact ⟨ret_bool (by simp), hD.mono (by omega) (by omega)⟩
 have j0 : (kd == 0) = false := by simpa using k0
 by_cases k1 : kd = 1
 ·subst k1
  obtain ⟨R, M, P1, P2⟩ := PA
  replace P1 := Lib.hid P1
  replace P2 := Lib.hid P2
  clear PC PN PD PM PV PT hD0
  go_wp2_with (first
   | (go_at_call 34; refine P1.out.mono ?_; rintro e w1 ⟨rfl, hM, hB1⟩; have m3 : w1.cell? ⟨b5, 3, none⟩ = some (.string nm) := (by simp [hB1.cell]); have m4 : w1.cell? ⟨b5, 4, none⟩ = some (.string ds) := (by simp [hB1.cell]); have m5 : w1.cell? ⟨b5, 5, none⟩ = some (.string dt) := (by simp [hB1.cell]); replace hM := Lib.hid hM)
   | (go_at_call 35; refine (P2.out w1 hM.out).mono ?_; rintro e w2 ⟨rfl, hD⟩))
  go_ret
  exact ⟨ret_bool (by simp), hD.mono (by omega) (by omega)⟩
 have j1 : (kd == 1) = false := by simpa using k1
 by_cases k2 : kd = 2
 ·subst k2
  obtain ⟨R, M, P1, P2⟩ := PN
  replace P1 := Lib.hid P1
  replace P2 := Lib.hid P2
  clear PC PA PD PM PV PT hD0
  go_wp2_with (first
   | (go_at_call 36; refine P1.out.mono ?_; rintro e w1 ⟨rfl, hM, hB1⟩; have m3 : w1.cell? ⟨b5, 3, none⟩ = some (.string nm) := (by simp [hB1.cell]); have m4 : w1.cell? ⟨b5, 4, none⟩ = some (.string ds) := (by simp [hB1.cell]); have m5 : w1.cell? ⟨b5, 5, none⟩ = some (.string dt) := (by simp [hB1.cell]); replace hM := Lib.hid hM)
   | (go_at_call 37; refine (P2.out w1 hM.out).mono ?_; rintro e w2 ⟨rfl, hD⟩))
  go_ret
  exact ⟨ret_bool (by simp), hD.mono (by omega) (by omega)⟩
 have j2 : (kd == 2) = false := by simpa using k2
 by_cases k3 : kd = 3
 ·subst k3
  obtain ⟨R, M, P1, P2⟩ := PD
  replace P1 := Lib.hid P1
  replace P2 := Lib.hid P2
  clear PC PA PN PM PV PT hD0
  go_wp2_with (first
   | (go_at_call 38; refine P1.out.mono ?_; rintro e w1 ⟨rfl, hM, hB1⟩; have m3 : w1.cell? ⟨b5, 3, none⟩ = some (.string nm) := (by simp [hB1.cell]); have m4 : w1.cell? ⟨b5, 4, none⟩ = some (.string ds) := (by simp [hB1.cell]); have m5 : w1.cell? ⟨b5, 5, none⟩ = some (.string dt) := (by simp [hB1.cell]); replace hM := Lib.hid hM)
   | (go_at_call 39; refine (P2.out w1 hM.out).mono ?_; rintro e w2 ⟨rfl, hD⟩))
  go_ret
  exact ⟨ret_bool (by simp), hD.mono (by omega) (by omega)⟩
 have j3 : (kd == 3) = false := by simpa using k3
 by_cases k4 : kd = 4
 ·subst k4
  obtain ⟨R, M, P1, P2⟩ := PM
  replace P1 := Lib.hid P1
  replace P2 := Lib.hid P2
  clear PC PA PN PD PV PT hD0
  go_wp2_with (first
   | (go_at_call 40; refine P1.out.mono ?_; rintro e w1 ⟨rfl, hM, hB1⟩; have m3 : w1.cell? ⟨b5, 3, none⟩ = some (.string nm) := (by simp [hB1.cell]); have m4 : w1.cell? ⟨b5, 4, none⟩ = some (.string ds) := (by simp [hB1.cell]); have m5 : w1.cell? ⟨b5, 5, none⟩ = some (.string dt) := (by simp [hB1.cell]); replace hM := Lib.hid hM)
   | (go_at_call 41; refine (P2.out w1 hM.out).mono ?_; rintro e w2 ⟨rfl, hD⟩))
  go_ret
  exact ⟨ret_bool (by simp), hD.mono (by omega) (by omega)⟩
 have j4 : (kd == 4) = false := by simpa using k4
 by_cases k5 : kd = 5
 ·subst k5
  obtain ⟨M, P1, P2⟩ := PV
  replace P1 := Lib.hid P1
  replace P2 := Lib.hid P2
  clear PC PA PN PD PM PT hD0
  go_wp2_with (first
   | (go_at_call 42; refine P1.out.mono ?_; rintro e w1 ⟨⟨v1, rfl⟩, hM⟩; replace hM := Lib.hid hM)
   | (go_at_call 43; refine (P2.out w1 hM.out).mono ?_; rintro e w2 ⟨⟨v2, rfl⟩, hD⟩))
  go_ret
  exact ⟨ret_bool (by simp), hD.mono (by omega) (by omega)⟩
 have j5 : (kd == 5) = false := by simpa using k5
 by_cases k67 : kd = 6 ∨ kd = 7
 ·clear PC PA PN PD PM PV
  rcases k67 with rfl | rfl
  all_goals
   go_wp2_with (go_at_call 12; refine PT.out.mono ?_; rintro e w2 ⟨rfl, b2⟩)
   go_ret
   exact ⟨rfl, hD0.out _ b2⟩
 have j6 : (kd == 6) = false := by simp; omega
 have j7 : (kd == 7) = false := by simp; omega
 clear PC PA PN PD PM PV PT
 go_wp2_with fail
 go_ret
 exact ⟨ret_bool (by simp), hD0.out _ (Below.refl _ _)⟩
end
end Go.Proofs.YtogblcdefbnbeaaGreat
