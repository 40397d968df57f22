
/- Walks: files at hand made, written behind, named anew, taken away. Condition: texts that may be. -/
import Derived.Test.YtogblcdefbnbeaaGreatQGx
import Derived.Test.YtogblcdefbnbeaaGreatQPn
import Derived.Deep.RegionHeld3
import Derived.Maps.OwnSet
import Derived.Deep.DeepCutAuto
set_option maxRecDepth 100000
namespace Go.Proofs.YtogblcdefbnbeaaGreat
section
open Go.RowKit Go.Maps
variable {B Bd f d m : Nat} {vf : Value} {x : Pl.Fs} {s : Pl.Dv} {rp fp fpd : Nat → Prop} {W W' : World}
theorem Step.beyond {g g' : Nat → Prop} {W1 : World} (h : Step g g' W W1) {W2 : World} (hb : Below W1.heap.size W1 W2) : Step g g' W W2 :=
 ⟨h.keep.beyond hb, h.new, fun k hk => Nat.lt_of_lt_of_le (h.lt k hk) hb.size⟩
theorem Step.after {g g' : Nat → Prop} {W1 W2 : World} (hg : ∀ k, g k → k < W.heap.size) (hb : Below W.heap.size W W1) (h : Step g g' W1 W2) : Step g g' W W2 :=
 ⟨(Keep.of_below (fp := fun k => ¬ g k ∧ k < W.heap.size) hb (fun _ h _ => h.2)).trans h.keep (fun k hk _ => hk.1) |>.mono (fun k hk hl => ⟨hk, hl⟩), fun k hk => by
  rcases h.new k hk with h1 | h1
  ·exact .inl h1
  ·exact .inr (Nat.le_trans hb.size h1), h.lt⟩
theorem FileV.zero2 (fp : Nat → Prop) (W : World) : FileV fp W (.agg #[.slice none 0 0, .int .i64 0, .string ⟨#[]⟩]) Pl.HF.zero := FileV.zero fp W
theorem hand_store {l : List (ByteArray × Pl.HF)} (h : HandAt rp W m l) {nm : ByteArray} (hs : nm.size ≤ maxLen) {v : Value} {y : Pl.HF} (hv : FileV rp W v y) (hl : l.length < maxLen) :
  ∃ w', (Instr.mapUpdate 84 (.map (some m)) (.string nm) v).run Tryz.prog W = .ok () w' ∧ w'.ownsMap Tryz.prog 9 (RF rp W) m (l.length + 1) (Pl.toD (Pl.hput l nm y)) ∧ W.mapTurned w' m := by
 obtain ⟨w', h1, h2, h3⟩ := World.ownsMap.store h str_law Tryz.underlying84 hl (key_of hs) (RF_mk hv)
 rw [← Pl.toD_put] at h2
 exact ⟨w', h1, h2, h3⟩
theorem hand_drop {l : List (ByteArray × Pl.HF)} (h : HandAt rp W m l) {nm : ByteArray} (hs : nm.size ≤ maxLen) (ty : TypeId) :
  ∃ w', (Builtin.delete_ #[84, 9] ty #[.map (some m), .string nm]).run Tryz.prog W = .ok (.tuple #[]) w' ∧ w'.ownsMap Tryz.prog 9 (RF rp W) m l.length (Pl.toD (Pl.hdel l nm)) ∧ W.mapTurned w' m := by
 obtain ⟨w', h1, h2, h3⟩ := World.ownsMap.drop h str_law Tryz.underlying84 (key_of hs) ty
 rw [← Pl.toD_del] at h2
 exact ⟨w', h1, h2, h3⟩
theorem keep_turned (h : W.mapTurned W' m) : Keep (fun k => k ≠ m) W W' := Keep.of_grownBy h.grown (fun k e _ hk => hk (Option.some.inj e).symm)
theorem FsO.done (h : FsO B f d m vf rp x W) {l : List (ByteArray × Pl.HF)} {n : Nat} {w1 : World} {c : Bool} (ht : W.mapTurned w1 m) (ho : w1.ownsMap Tryz.prog 9 (RF rp W) m n (Pl.toD l)) :
  FsO B f d m vf rp { x with hand := l, changed := c } (w1.setCell ⟨f, 5, none⟩ (.bool c)) ∧ Step (fsFp f m rp) (fsFp f m rp) W (w1.setCell ⟨f, 5, none⟩ (.bool c)) := by
 have hk1 := keep_turned ht
 have hk2 : Keep (fun k => k ≠ f ∧ k ≠ m) W (w1.setCell ⟨f, 5, none⟩ (.bool c)) := (hk1.mono (fp' := fun k => k ≠ f ∧ k ≠ m) (fun k hk _ => hk.2)).setCell _ _ _ (fun h _ => h.1 rfl)
 have hb1 := h.blk.keep hk1 (fun e => h.ne e.symm)
 refine h.turn hk2 ?_ (HandAt.of (ownsMap_reread ho ?_ (fun v z hz => RF_keep (hk2.mono (fp' := rp) (fun k hr _ => ⟨fun e => h.nf (e ▸ hr), fun e => h.nm (e ▸ hr)⟩)) (fun _ h => h) hz)))
 ·exact hb1.set 5 (.bool c)
 ·exact Below.heap_setCell _ _ _ _ h.ne
def Pl.Fs.createE (x : Pl.Fs) (s : Pl.Dv) (nm : ByteArray) : Pl.Fs × Int := if x.dead s = true then (x, 4) else x.create nm
set_option maxHeartbeats 4000000 in
theorem create_any (h : FsAt B f d x fp W) (hd : DevAt Bd d s fpd W) (nm : ByteArray) (hs : nm.size ≤ 281474976710656) :
  Calls Tryz.prog 32 #[.pointer (some ⟨f, 0, none⟩), .string nm] W fun e w' => e = .returned (.int .i64 (x.createE s nm).2) ∧ FsAt B f d (x.createE s nm).1 fp w' ∧ Step fp fp W w' := by
 obtain ⟨E, hE⟩ : ∃ E, E = x.createE s nm := ⟨_, rfl⟩
 rw [← hE]
 have hsm : nm.size ≤ maxLen := by unfold maxLen; omega
 have hlt := h.lt
 obtain ⟨m, vf, rp, ho, rfl⟩ := id h
 cases hdd : x.dead s with
 | true =>
  have PD := Lib.hid (dead_is hdd h hd)
  obtain rfl : E = (x, 4) := by rw [hE]; unfold Pl.Fs.createE; rw [if_pos hdd]
  clear hE hdd
  go_enter Tryz.func32, Tryz.ntmps32
  go_wp2_with fail
  refine PD.out.mono ?_
  rintro e w1 ⟨rfl, n, e1⟩
  have hb1 : Below W.heap.size W w1 := e1 ▸ below_drewN (Below.refl _ _) n
  clear e1
  go_wp2
  go_ret
  exact ⟨rfl, h.beyond hb1, (Step.refl hlt).beyond hb1⟩
 | false =>
  have PD := Lib.hid (dead_is hdd h hd)
  have hE2 : E = x.create nm := by rw [hE]; unfold Pl.Fs.createE; rw [if_neg (by rw [hdd]; exact Bool.false_ne_true)]
  unfold Pl.Fs.create at hE2
  clear hE hdd
  cases hn : Pl.named nm with
  | false =>
   obtain rfl : E = (x, 1) := by rw [hE2, if_pos hn]
   have PN := Lib.hid (fun (w : World) => (show Calls Tryz.prog 71 #[.string nm] w fun e w' => e = .returned (.bool (Pl.named nm)) ∧ w' = w from named_any nm w))
   rw [hn] at PN
   clear hE2 hn
   go_enter Tryz.func32, Tryz.ntmps32
   go_wp2_with fail
   refine PD.out.mono ?_
   rintro e w1 ⟨rfl, n, e1⟩
   have hb1 : Below W.heap.size W w1 := e1 ▸ below_drewN (Below.refl _ _) n
   clear e1
   go_wp2_with fail
   refine (PN.out _).mono ?_
   rintro e w2 ⟨rfl, rfl⟩
   go_wp2
   go_ret
   exact ⟨rfl, h.beyond hb1, (Step.refl hlt).beyond hb1⟩
  | true =>
   have PN := Lib.hid (fun (w : World) => (show Calls Tryz.prog 71 #[.string nm] w fun e w' => e = .returned (.bool (Pl.named nm)) ∧ w' = w from named_any nm w))
   rw [hn] at PN hE2
   rw [if_neg (by decide)] at hE2
   clear hn
   cases hg : Pl.hget x.hand nm with
   | some y =>
    rw [hg] at hE2
    obtain rfl : E = (x, 7) := by rw [hE2]; rfl
    clear hE2
    go_enter Tryz.func32, Tryz.ntmps32
    go_wp2_with fail
    refine PD.out.mono ?_
    rintro e w1 ⟨rfl, n, e1⟩
    have ho1 := ho.keep (keep_drewN e1 _)
    have hb1 : Below W.heap.size W w1 := e1 ▸ below_drewN (Below.refl _ _) n
    clear e1
    go_wp2_with fail
    refine (PN.out _).mono ?_
    rintro e w2 ⟨rfl, rfl⟩
    obtain ⟨c0, c1, c2, c3, c4, c5⟩ := ho1.cells
    obtain ⟨ua, uc, hrun, hu⟩ := hand_look ho1.hand hsm
    rw [hg] at hrun hu
    simp only [Option.getD_some, Option.isSome_some] at hrun hu
    clear PD PN hg
    go_wp2
    go_ret
    have hb2 := hb1.alloc hb1.size (.cells #[.slice ua y.blocks.length uc, .int .i64 (y.old : Int), .string y.added] 104)
    exact ⟨rfl, h.beyond hb2, (Step.refl hlt).beyond hb2⟩
   | none =>
    rw [hg] at hE2
    rw [if_neg (by decide)] at hE2
    go_enter Tryz.func32, Tryz.ntmps32
    go_wp2_with fail
    refine PD.out.mono ?_
    rintro e w1 ⟨rfl, n, e1⟩
    have ho1 := ho.keep (keep_drewN e1 _)
    have hb1 : Below W.heap.size W w1 := e1 ▸ below_drewN (Below.refl _ _) n
    clear e1
    go_wp2_with fail
    refine (PN.out _).mono ?_
    rintro e w2 ⟨rfl, rfl⟩
    obtain ⟨c0, c1, c2, c3, c4, c5⟩ := ho1.cells
    obtain ⟨ua, uc, hrun, hu⟩ := hand_look ho1.hand hsm
    rw [hg] at hrun hu
    simp only [Option.getD_none, Option.isSome_none, Pl.HF.zero] at hrun hu
    clear PD PN hg
    go_upto_region 10 with (fail)
    have hb2 := hb1.alloc hb1.size (.cells #[.slice ua 0 uc, .int .i64 0, .string .empty] 104)
    have hB3 : Below w2.heap.size w2 (w2.alloc (.cells #[.slice ua 0 uc, .int .i64 0, .string .empty] 104)) := (Below.refl _ _).alloc (Nat.le_refl _) _
    have ho3 := ho1.beyond hB3
    clear hB3 c0 c1 c2 c3 c4 c5 ho1 hrun hu hb1
    generalize w2.alloc (.cells #[.slice ua 0 uc, .int .i64 0, .string .empty] 104) = w3 at hb2 ho3 ⊢
    obtain ⟨c0, c1, c2, c3, c4, c5⟩ := ho3.cells
    have hln := fun ty => World.ownsMap.len ho3.hand Tryz.underlying84 ty
    simp only [Pl.toD_size] at hln
    by_cases h64 : 64 ≤ x.hand.length
    ·obtain rfl : E = (x, 5) := by rw [hE2, if_pos h64]
     have h64' : (64 : Int) ≤ (x.hand.length : Int) := by omega
     clear hE2
     go_wp2
     go_ret
     exact ⟨rfl, h.beyond hb2, (Step.refl hlt).beyond hb2⟩
    ·rw [if_neg h64] at hE2
     have h64' : (x.hand.length : Int) < 64 := by omega
     go_upto_region 12 with (fail)
     clear hln h64'
     have hf := ho3.blk.lt
     have hBd : Below w3.heap.size w3 w3.drew := (Below.refl _ _).drew
     have PC := Lib.hid (clone_any nm w3.drew hs)
     have hst := Lib.hid (fun (wA : World) (bA : Below w3.heap.size w3 wA) => hand_store (ho3.beyond bA).hand hsm (FileV.zero2 rp wA) (by unfold maxLen; omega))
     have hcl := Lib.hid (fun (wA : World) (bA : Below w3.heap.size w3 wA) => (ho3.beyond bA).cells.2.2.2.2.1)
     go_region_held3 (fun W' => W'.cell? ⟨f, 4, none⟩ = some (.map (some m))) (first | exact kA | exact kU | exact c4 | go_keep)
      (first
      | (go_at_call 63; refine PC.out.mono ?_; rintro ex wA ⟨rfl, bA⟩; have bA' := hBd.trans (bA.mono hBd.size); have kA := hcl.out wA bA'; obtain ⟨wU, hU1, hU2, hU3⟩ := hst.out wA bA'; have kU := (keep_turned hU3).cell (b := f) (o := 4) (fun e => ho3.ne e.symm) kA))
     have hoA := ho3.beyond bA'
     have hbW := hb2.trans (bA'.mono hb2.size)
     have hfU := keep_turned hU3
     have cU5 := hfU.cell (b := f) (o := 5) (fun e => hoA.ne e.symm) hoA.cells.2.2.2.2.2
     have fU5 : wU.frozen? ⟨f, 5, none⟩ = false := (hoA.blk.keep hfU (fun e => hoA.ne e.symm)).frozen 5
     obtain ⟨hfin, hstp⟩ := hoA.done (c := true) hU3 hU2
     have hfin2 := Lib.hid (FsAt.of hfin)
     have hstp2 := Lib.hid (Step.after hlt hbW hstp)
     clear hU1 hU2 hU3 hst hcl PC c0 c1 c2 c3 c4 c5 hfin hstp hoA
     go_wp2
     go_ret
     rw [hE2]
     exact ⟨rfl, hfin2.out, hstp2.out⟩
def Pl.Fs.deleteE (x : Pl.Fs) (s : Pl.Dv) (nm : ByteArray) : Pl.Fs × Int := if x.dead s = true then (x, 4) else x.delete nm
set_option maxHeartbeats 4000000 in
theorem delete_any (h : FsAt B f d x fp W) (hd : DevAt Bd d s fpd W) (nm : ByteArray) (hsm : nm.size ≤ maxLen) :
  Calls Tryz.prog 38 #[.pointer (some ⟨f, 0, none⟩), .string nm] W fun e w' => e = .returned (.int .i64 (x.deleteE s nm).2) ∧ FsAt B f d (x.deleteE s nm).1 fp w' ∧ Step fp fp W w' := by
 obtain ⟨E, hE⟩ : ∃ E, E = x.deleteE s nm := ⟨_, rfl⟩
 rw [← hE]
 have hlt := h.lt
 obtain ⟨m, vf, rp, ho, rfl⟩ := id h
 cases hdd : x.dead s with
 | true =>
  have PD := Lib.hid (dead_is hdd h hd)
  obtain rfl : E = (x, 4) := by rw [hE]; unfold Pl.Fs.deleteE; rw [if_pos hdd]
  clear hE hdd
  go_enter Tryz.func38, Tryz.ntmps38
  go_wp2_with fail
  refine PD.out.mono ?_
  rintro e w1 ⟨rfl, n, e1⟩
  have hb1 : Below W.heap.size W w1 := e1 ▸ below_drewN (Below.refl _ _) n
  clear e1
  go_wp2
  go_ret
  exact ⟨rfl, h.beyond hb1, (Step.refl hlt).beyond hb1⟩
 | false =>
  have PD := Lib.hid (dead_is hdd h hd)
  have hE2 : E = x.delete nm := by rw [hE]; unfold Pl.Fs.deleteE; rw [if_neg (by rw [hdd]; exact Bool.false_ne_true)]
  unfold Pl.Fs.delete at hE2
  clear hE hdd
  cases hg : Pl.hget x.hand nm with
  | none =>
   rw [hg] at hE2
   obtain rfl : E = (x, 6) := by rw [hE2]; rfl
   clear hE2
   go_enter Tryz.func38, Tryz.ntmps38
   go_wp2_with fail
   refine PD.out.mono ?_
   rintro e w1 ⟨rfl, n, e1⟩
   have ho1 := ho.keep (keep_drewN e1 _)
   have hb1 : Below W.heap.size W w1 := e1 ▸ below_drewN (Below.refl _ _) n
   clear e1
   obtain ⟨c0, c1, c2, c3, c4, c5⟩ := ho1.cells
   obtain ⟨ua, uc, hrun, hu⟩ := hand_look ho1.hand hsm
   rw [hg] at hrun hu
   simp only [Option.getD_none, Option.isSome_none, Pl.HF.zero] at hrun hu
   clear PD hg
   go_wp2
   go_ret
   have hb2 := hb1.alloc hb1.size (.cells #[.slice ua 0 uc, .int .i64 0, .string .empty] 104)
   exact ⟨rfl, h.beyond hb2, (Step.refl hlt).beyond hb2⟩
  | some y =>
   rw [hg] at hE2
   obtain rfl : E = ({ x with hand := Pl.hdel x.hand nm, changed := true }, 0) := by rw [hE2]; rfl
   clear hE2
   go_enter Tryz.func38, Tryz.ntmps38
   go_wp2_with fail
   refine PD.out.mono ?_
   rintro e w1 ⟨rfl, n, e1⟩
   have ho1 := ho.keep (keep_drewN e1 _)
   have hb1 : Below W.heap.size W w1 := e1 ▸ below_drewN (Below.refl _ _) n
   clear e1
   obtain ⟨c0, c1, c2, c3, c4, c5⟩ := ho1.cells
   obtain ⟨ua, uc, hrun, hu⟩ := hand_look ho1.hand hsm
   rw [hg] at hrun hu
   simp only [Option.getD_some, Option.isSome_some] at hrun hu
   clear PD hg
   go_upto_region 8 with (fail)
   have hb2 := hb1.alloc hb1.size (.cells #[.slice ua y.blocks.length uc, .int .i64 (y.old : Int), .string y.added] 104)
   have hB3 : Below w1.heap.size w1 (w1.alloc (.cells #[.slice ua y.blocks.length uc, .int .i64 (y.old : Int), .string y.added] 104)) := (Below.refl _ _).alloc (Nat.le_refl _) _
   have ho3 := ho1.beyond hB3
   clear hB3 c0 c1 c2 c3 c4 c5 ho1 hrun hu hb1
   generalize w1.alloc (.cells #[.slice ua y.blocks.length uc, .int .i64 (y.old : Int), .string y.added] 104) = w3 at hb2 ho3 ⊢
   obtain ⟨c0, c1, c2, c3, c4, c5⟩ := ho3.cells
   obtain ⟨wU, hU1, hU2, hU3⟩ := hand_drop ho3.hand hsm 0
   have hf := ho3.blk.lt
   have hfU := keep_turned hU3
   have cU5 := hfU.cell (b := f) (o := 5) (fun e => ho3.ne e.symm) c5
   have fU5 : wU.frozen? ⟨f, 5, none⟩ = false := (ho3.blk.keep hfU (fun e => ho3.ne e.symm)).frozen 5
   obtain ⟨hfin, hstp⟩ := ho3.done (c := true) hU3 hU2
   have hfin2 := Lib.hid (FsAt.of hfin)
   have hstp2 := Lib.hid (Step.after hlt hb2 hstp)
   clear hU2 hU3 hfin hstp
   go_wp2
   go_ret
   exact ⟨rfl, hfin2.out, hstp2.out⟩
def Pl.Fs.appendE (x : Pl.Fs) (s : Pl.Dv) (nm t : ByteArray) : Pl.Fs × Int := if x.dead s = true then (x, 4) else x.append nm t
set_option maxHeartbeats 4000000 in
theorem append_any (h : FsAt B f d x fp W) (hd : DevAt Bd d s fpd W) (nm t : ByteArray) (hsm : nm.size ≤ maxLen) (hz : ∀ y, Pl.hget x.hand nm = some y → y.added.size + t.size ≤ 9223372036854775807) (hl : x.hand.length < maxLen) :
  Calls Tryz.prog 34 #[.pointer (some ⟨f, 0, none⟩), .string nm, .string t] W fun e w' => e = .returned (.int .i64 (x.appendE s nm t).2) ∧ FsAt B f d (x.appendE s nm t).1 fp w' ∧ Step fp fp W w' := by
 obtain ⟨E, hE⟩ : ∃ E, E = x.appendE s nm t := ⟨_, rfl⟩
 rw [← hE]
 have hlt := h.lt
 obtain ⟨m, vf, rp, ho, rfl⟩ := id h
 cases hdd : x.dead s with
 | true =>
  have PD := Lib.hid (dead_is hdd h hd)
  obtain rfl : E = (x, 4) := by rw [hE]; unfold Pl.Fs.appendE; rw [if_pos hdd]
  clear hE hdd
  go_enter Tryz.func34, Tryz.ntmps34
  go_wp2_with fail
  refine PD.out.mono ?_
  rintro e w1 ⟨rfl, n, e1⟩
  have hb1 : Below W.heap.size W w1 := e1 ▸ below_drewN (Below.refl _ _) n
  clear e1
  go_wp2
  go_ret
  exact ⟨rfl, h.beyond hb1, (Step.refl hlt).beyond hb1⟩
 | false =>
  have PD := Lib.hid (dead_is hdd h hd)
  have hE2 : E = x.append nm t := by rw [hE]; unfold Pl.Fs.appendE; rw [if_neg (by rw [hdd]; exact Bool.false_ne_true)]
  unfold Pl.Fs.append at hE2
  clear hE hdd
  cases hg : Pl.hget x.hand nm with
  | none =>
   rw [hg] at hE2
   obtain rfl : E = (x, 6) := hE2
   clear hz
   go_enter Tryz.func34, Tryz.ntmps34
   go_wp2_with fail
   refine PD.out.mono ?_
   rintro e w1 ⟨rfl, n, e1⟩
   have ho1 := ho.keep (keep_drewN e1 _)
   have hb1 : Below W.heap.size W w1 := e1 ▸ below_drewN (Below.refl _ _) n
   clear e1
   obtain ⟨c0, c1, c2, c3, c4, c5⟩ := ho1.cells
   obtain ⟨ua, uc, hrun, hu⟩ := hand_look ho1.hand hsm
   rw [hg] at hrun hu
   simp only [Option.getD_none, Option.isSome_none, Pl.HF.zero] at hrun hu
   clear PD hg
   go_wp2
   go_ret
   have hb2 := hb1.alloc hb1.size (.cells #[.slice ua 0 uc, .int .i64 0, .string .empty] 104)
   exact ⟨rfl, h.beyond hb2, (Step.refl hlt).beyond hb2⟩
  | some y =>
   rw [hg] at hE2
   have hzy := hz y hg
   replace hE2 := Lib.hid hE2
   clear hz
   go_enter Tryz.func34, Tryz.ntmps34
   go_wp2_with fail
   refine PD.out.mono ?_
   rintro e w1 ⟨rfl, n, e1⟩
   have ho1 := ho.keep (keep_drewN e1 _)
   have hb1 : Below W.heap.size W w1 := e1 ▸ below_drewN (Below.refl _ _) n
   clear e1
   obtain ⟨c0, c1, c2, c3, c4, c5⟩ := ho1.cells
   obtain ⟨ua, uc, hrun, hu⟩ := hand_look ho1.hand hsm
   rw [hg] at hrun hu
   simp only [Option.getD_some, Option.isSome_some] at hrun hu
   clear PD hg
   go_upto_region 9 with (fail)
   have hb2 := hb1.alloc hb1.size (.cells #[.slice ua y.blocks.length uc, .int .i64 (y.old : Int), .string (y.added ++ t)] 104)
   have hB3 : Below w1.heap.size w1 (w1.alloc (.cells #[.slice ua y.blocks.length uc, .int .i64 (y.old : Int), .string (y.added ++ t)] 104)) := (Below.refl _ _).alloc (Nat.le_refl _) _
   have ho3 := ho1.beyond hB3
   have hx3 : Blk (w1.alloc (.cells #[.slice ua y.blocks.length uc, .int .i64 (y.old : Int), .string (y.added ++ t)] 104)) w1.heap.size _ _ := Blk.new _ _ _
   have hu3 := hu.keep (Keep.of_below (fp := rp) hB3 (fun k hk _ => ho1.lt k hk)) (fun _ h => h)
   have hbx : f ≠ w1.heap.size := fun e => by have := ho1.blk.lt; omega
   have hmx : m ≠ w1.heap.size := fun e => by have := World.ownsMap.lt ho1.hand; omega
   clear hB3 c0 c1 c2 c3 c4 c5 ho1 hrun hu hb1
   generalize w1.alloc (.cells #[.slice ua y.blocks.length uc, .int .i64 (y.old : Int), .string (y.added ++ t)] 104) = w3 at hb2 ho3 hx3 hu3 ⊢
   generalize w1.heap.size = bx at *
   obtain ⟨c0, c1, c2, c3, c4, c5⟩ := ho3.cells
   have x0 : w3.cell? ⟨bx, 0, none⟩ = some (.slice ua y.blocks.length uc) := by simp [hx3.cell]
   have x1 : w3.cell? ⟨bx, 1, none⟩ = some (.int .i64 (y.old : Int)) := by simp [hx3.cell]
   have x2 : w3.cell? ⟨bx, 2, none⟩ = some (.string (y.added ++ t)) := by simp [hx3.cell]
   have hBd : Below w3.heap.size w3 w3.drew := (Below.refl _ _).drew
   have hod := ho3.beyond hBd
   obtain ⟨wU, hU1, hU2, hU3⟩ := hand_store hod.hand hsm (show FileV rp w3.drew (.agg #[.slice ua y.blocks.length uc, .int .i64 (y.old : Int), .string (y.added ++ t)]) { y with added := y.added ++ t } from ⟨_, rfl, hu3.keep (Keep.of_below hBd (fun k hk _ => ho3.lt k hk)) (fun _ h => h)⟩) hl
   have hfU := keep_turned hU3
   have u4 := hfU.cell (b := f) (o := 4) (fun e => ho3.ne e.symm) hod.cells.2.2.2.2.1
   have u5 := hfU.cell (b := f) (o := 5) (fun e => ho3.ne e.symm) hod.cells.2.2.2.2.2
   have fU5 : wU.frozen? ⟨f, 5, none⟩ = false := (hod.blk.keep hfU (fun e => ho3.ne e.symm)).frozen 5
   have hxU := (hx3.keep (Keep.of_below (fp := fun k => k < w3.heap.size) hBd (fun _ h _ => h)) hx3.lt).keep hfU (fun e => hmx e.symm)
   have y0 : wU.cell? ⟨bx, 0, none⟩ = some (.slice ua y.blocks.length uc) := by simp [hxU.cell]
   have y1 : wU.cell? ⟨bx, 1, none⟩ = some (.int .i64 (y.old : Int)) := by simp [hxU.cell]
   have y2 : wU.cell? ⟨bx, 2, none⟩ = some (.string (y.added ++ t)) := by simp [hxU.cell]
   have hbd2 := hb2.trans (hBd.mono hb2.size)
   have hfinA := Lib.hid (fun c => FsAt.of (hod.done (c := c) hU3 hU2).1)
   have hstpA := Lib.hid (fun c => Step.after hlt hbd2 (hod.done (c := c) hU3 hU2).2)
   clear hx3 hu3 hxU hU2
   go_region_held3 (fun W' => W'.cell? ⟨f, 4, none⟩ = some (.map (some m)) ∧ W'.cell? ⟨bx, 0, none⟩ = some (.slice ua y.blocks.length uc) ∧ W'.cell? ⟨bx, 1, none⟩ = some (.int .i64 (y.old : Int)) ∧ W'.cell? ⟨bx, 2, none⟩ = some (.string (y.added ++ t))) (first | exact ⟨c4, x0, x1, x2⟩ | exact ⟨u4, y0, y1, y2⟩ | go_keep) (fail)
   clear c0 c1 c2 c3 c4 c5 x0 x1 x2 y0 y1 y2 hU1
   by_cases h0 : t.size = 0
   ·have he := list_of_size h0
    have he2 : t.toList.isEmpty = true := by simp [he]
    have hd0 : decide (0 < t.size) = false := by simp [h0]
    rw [hd0] at hE2
    cases hch : x.changed with
    | true =>
     rw [hch] at hE2 u5
     replace hE2 := Lib.hid hE2.out
     go_wp2
     go_ret
     rw [hE2.out]
     exact ⟨rfl, hfinA.out _, hstpA.out _⟩
    | false =>
     rw [hch] at hE2 u5
     go_wp2
     go_ret
     rw [hE2.out]
     exact ⟨rfl, hfinA.out _, hstpA.out _⟩
   ·have he := list_ne_of_size h0
    have he2 : t.toList.isEmpty = false := by simpa using he
    have hd0 : decide (0 < t.size) = true := by simp; omega
    rw [hd0] at hE2
    cases hch : x.changed with
    | true =>
     rw [hch] at hE2 u5
     go_wp2
     go_ret
     rw [hE2.out]
     exact ⟨rfl, hfinA.out _, hstpA.out _⟩
    | false =>
     rw [hch] at hE2 u5
     go_wp2
     go_ret
     rw [hE2.out]
     exact ⟨rfl, hfinA.out _, hstpA.out _⟩
theorem FsO.midTurn (h : FsO B f d m vf rp x W) {l : List (ByteArray × Pl.HF)} {n : Nat} {w1 : World} (ht : W.mapTurned w1 m) (ho : w1.ownsMap Tryz.prog 9 (RF rp W) m n (Pl.toD l)) :
  FsO B f d m vf rp { x with hand := l } w1 ∧ Step (fsFp f m rp) (fsFp f m rp) W w1 := by
 have hk1 := keep_turned ht
 have hk2 : Keep (fun k => k ≠ f ∧ k ≠ m) W w1 := hk1.mono (fun k hk _ => hk.2)
 exact h.turn (c := x.changed) hk2 (h.blk.keep hk1 (fun e => h.ne e.symm)) (HandAt.of (ownsMap_reread ho rfl (fun v z hz => RF_keep (hk2.mono (fp' := rp) (fun k hr _ => ⟨fun e => h.nf (e ▸ hr), fun e => h.nm (e ▸ hr)⟩)) (fun _ h => h) hz)))
def Pl.Fs.renameE (x : Pl.Fs) (s : Pl.Dv) (nm tn : ByteArray) : Pl.Fs × Int := if x.dead s = true then (x, 4) else x.rename nm tn
set_option maxHeartbeats 8000000 in
theorem rename_any (h : FsAt B f d x fp W) (hd : DevAt Bd d s fpd W) (nm tn : ByteArray) (hsm : nm.size ≤ maxLen) (hst : tn.size ≤ 281474976710656) (hl : x.hand.length < maxLen) :
  Calls Tryz.prog 36 #[.pointer (some ⟨f, 0, none⟩), .string nm, .string tn] W fun e w' => e = .returned (.int .i64 (x.renameE s nm tn).2) ∧ FsAt B f d (x.renameE s nm tn).1 fp w' ∧ Step fp fp W w' := by
 obtain ⟨E, hE⟩ : ∃ E, E = x.renameE s nm tn := ⟨_, rfl⟩
 rw [← hE]
 have htm : tn.size ≤ maxLen := by unfold maxLen; omega
 have hlt := h.lt
 obtain ⟨m, vf, rp, ho, rfl⟩ := id h
 cases hdd : x.dead s with
 | true =>
  have PD := Lib.hid (dead_is hdd h hd)
  obtain rfl : E = (x, 4) := by rw [hE]; unfold Pl.Fs.renameE; rw [if_pos hdd]
  clear hE hdd
  go_enter Tryz.func36, Tryz.ntmps36
  go_wp2_with fail
  refine PD.out.mono ?_
  rintro e w1 ⟨rfl, n, e1⟩
  have hb1 : Below W.heap.size W w1 := e1 ▸ below_drewN (Below.refl _ _) n
  clear e1
  go_wp2
  go_ret
  exact ⟨rfl, h.beyond hb1, (Step.refl hlt).beyond hb1⟩
 | false =>
  have PD := Lib.hid (dead_is hdd h hd)
  have hE2 : E = x.rename nm tn := by rw [hE]; unfold Pl.Fs.renameE; rw [if_neg (by rw [hdd]; exact Bool.false_ne_true)]
  unfold Pl.Fs.rename at hE2
  clear hE hdd
  have PN := Lib.hid (fun (w : World) => (show Calls Tryz.prog 71 #[.string tn] w fun e w' => e = .returned (.bool (Pl.named tn)) ∧ w' = w from named_any tn w))
  cases hn : Pl.named tn with
  | false =>
   obtain rfl : E = (x, 1) := by rw [hE2, if_pos hn]
   rw [hn] at PN
   clear hE2 hn
   go_enter Tryz.func36, Tryz.ntmps36
   go_wp2_with fail
   refine PD.out.mono ?_
   rintro e w1 ⟨rfl, n, e1⟩
   have hb1 : Below W.heap.size W w1 := e1 ▸ below_drewN (Below.refl _ _) n
   clear e1
   go_wp2_with fail
   refine (PN.out _).mono ?_
   rintro e w2 ⟨rfl, rfl⟩
   go_wp2
   go_ret
   exact ⟨rfl, h.beyond hb1, (Step.refl hlt).beyond hb1⟩
  | true =>
   rw [hn] at PN hE2
   rw [if_neg (by decide)] at hE2
   clear hn
   cases hg : Pl.hget x.hand nm with
   | none =>
    rw [hg] at hE2
    obtain rfl : E = (x, 6) := hE2
    go_enter Tryz.func36, Tryz.ntmps36
    go_wp2_with fail
    refine PD.out.mono ?_
    rintro e w1 ⟨rfl, n, e1⟩
    have ho1 := ho.keep (keep_drewN e1 _)
    have hb1 : Below W.heap.size W w1 := e1 ▸ below_drewN (Below.refl _ _) n
    clear e1
    go_wp2_with fail
    refine (PN.out _).mono ?_
    rintro e w2 ⟨rfl, rfl⟩
    obtain ⟨c0, c1, c2, c3, c4, c5⟩ := ho1.cells
    obtain ⟨ua, uc, hrun, hu⟩ := hand_look ho1.hand hsm
    rw [hg] at hrun hu
    simp only [Option.getD_none, Option.isSome_none, Pl.HF.zero] at hrun hu
    clear PD PN hg
    go_wp2
    go_ret
    have hb2 := hb1.alloc hb1.size (.cells #[.slice ua 0 uc, .int .i64 0, .string .empty] 104)
    exact ⟨rfl, h.beyond hb2, (Step.refl hlt).beyond hb2⟩
   | some y =>
    rw [hg] at hE2
    replace hE2 := Lib.hid hE2
    go_enter Tryz.func36, Tryz.ntmps36
    go_wp2_with fail
    refine PD.out.mono ?_
    rintro e w1 ⟨rfl, n, e1⟩
    have ho1 := ho.keep (keep_drewN e1 _)
    have hb1 : Below W.heap.size W w1 := e1 ▸ below_drewN (Below.refl _ _) n
    clear e1
    go_wp2_with fail
    refine (PN.out _).mono ?_
    rintro e w2 ⟨rfl, rfl⟩
    obtain ⟨c0, c1, c2, c3, c4, c5⟩ := ho1.cells
    obtain ⟨ua, uc, hrun, hu⟩ := hand_look ho1.hand hsm
    rw [hg] at hrun hu
    simp only [Option.getD_some, Option.isSome_some] at hrun hu
    clear PD PN hg
    go_upto_region 10 with (fail)
    have hb2 := hb1.alloc hb1.size (.cells #[.slice ua y.blocks.length uc, .int .i64 (y.old : Int), .string y.added] 104)
    have hB3 : Below w2.heap.size w2 (w2.alloc (.cells #[.slice ua y.blocks.length uc, .int .i64 (y.old : Int), .string y.added] 104)) := (Below.refl _ _).alloc (Nat.le_refl _) _
    have ho3 := ho1.beyond hB3
    have hx3 : Blk (w2.alloc (.cells #[.slice ua y.blocks.length uc, .int .i64 (y.old : Int), .string y.added] 104)) w2.heap.size _ _ := Blk.new _ _ _
    have hu3 := hu.keep (Keep.of_below (fp := rp) hB3 (fun k hk _ => ho1.lt k hk)) (fun _ h => h)
    have hbx : f ≠ w2.heap.size := fun e => by have := ho1.blk.lt; omega
    have hmx : m ≠ w2.heap.size := fun e => by have := World.ownsMap.lt ho1.hand; omega
    clear hB3 c0 c1 c2 c3 c4 c5 ho1 hrun hu hb1
    generalize w2.alloc (.cells #[.slice ua y.blocks.length uc, .int .i64 (y.old : Int), .string y.added] 104) = w3 at hb2 ho3 hx3 hu3 ⊢
    generalize w2.heap.size = bx at *
    by_cases heq : nm.data.toList = tn.data.toList
    ·have heq2 : (nm.toList == tn.toList) = true := by rw [Lib.toList_data, Lib.toList_data]; simpa using heq
     replace heq := Lib.hid heq
     go_wp2
     go_ret
     rw [hE2.out, if_pos heq.out]
     exact ⟨rfl, h.beyond hb2, (Step.refl hlt).beyond hb2⟩
    ·have heq2 : (nm.toList == tn.toList) = false := by rw [Lib.toList_data, Lib.toList_data]; simpa using heq
     replace heq := Lib.hid heq
     obtain ⟨c0, c1, c2, c3, c4, c5⟩ := ho3.cells
     obtain ⟨wD, hD1, hD2, hD3⟩ := hand_drop ho3.hand hsm 0
     obtain ⟨hoD, hsD⟩ := ho3.midTurn hD3 hD2
     have hkD := keep_turned hD3
     have hxD := hx3.keep hkD (fun e => hmx e.symm)
     have huD := hu3.keep (hkD.mono (fp' := rp) (fun k hr _ e => ho3.nm (e ▸ hr))) (fun _ h => h)
     go_upto_region 12 with (fail)
     have hstD := Step.after hlt hb2 hsD
     clear hD1 hD2 hD3 c0 c1 c2 c3 c4 c5 ho3 hx3 hu3 hsD hkD
     obtain ⟨c0, c1, c2, c3, c4, c5⟩ := hoD.cells
     have x0 : wD.cell? ⟨bx, 0, none⟩ = some (.slice ua y.blocks.length uc) := by simp [hxD.cell]
     have x1 : wD.cell? ⟨bx, 1, none⟩ = some (.int .i64 (y.old : Int)) := by simp [hxD.cell]
     have x2 : wD.cell? ⟨bx, 2, none⟩ = some (.string y.added) := by simp [hxD.cell]
     have hBd : Below wD.heap.size wD wD.drew := (Below.refl _ _).drew
     have PC := Lib.hid (clone_any tn wD.drew hst)
     have hll : (Pl.hdel x.hand nm).length < maxLen := Nat.lt_of_le_of_lt (List.length_filter_le _ _) hl
     have hst2 := Lib.hid (fun (wA : World) (bA : Below wD.heap.size wD wA) => hand_store (hoD.beyond bA).hand htm (show FileV rp wA (.agg #[.slice ua y.blocks.length uc, .int .i64 (y.old : Int), .string y.added]) y from ⟨_, rfl, huD.keep (Keep.of_below bA (fun k hk _ => hoD.lt k hk)) (fun _ h => h)⟩) hll)
     have hcl := Lib.hid (fun (wA : World) (bA : Below wD.heap.size wD wA) => (⟨(hoD.beyond bA).cells.2.2.2.2.1, (bA.cell (p := ⟨bx, 0, none⟩) hxD.lt).trans x0, (bA.cell (p := ⟨bx, 1, none⟩) hxD.lt).trans x1, (bA.cell (p := ⟨bx, 2, none⟩) hxD.lt).trans x2⟩ : wA.cell? ⟨f, 4, none⟩ = some (.map (some m)) ∧ wA.cell? ⟨bx, 0, none⟩ = some (.slice ua y.blocks.length uc) ∧ wA.cell? ⟨bx, 1, none⟩ = some (.int .i64 (y.old : Int)) ∧ wA.cell? ⟨bx, 2, none⟩ = some (.string y.added)))
     have hmD := Lib.hid (fun (wA wU : World) (hk : Keep (fun k => k ≠ m) wA wU) (h4 : wA.cell? ⟨f, 4, none⟩ = some (.map (some m)) ∧ wA.cell? ⟨bx, 0, none⟩ = some (.slice ua y.blocks.length uc) ∧ wA.cell? ⟨bx, 1, none⟩ = some (.int .i64 (y.old : Int)) ∧ wA.cell? ⟨bx, 2, none⟩ = some (.string y.added)) => (⟨hk.cell (fun e => hoD.ne e.symm) h4.1, hk.cell (fun e => hmx e.symm) h4.2.1, hk.cell (fun e => hmx e.symm) h4.2.2.1, hk.cell (fun e => hmx e.symm) h4.2.2.2⟩ : wU.cell? ⟨f, 4, none⟩ = some (.map (some m)) ∧ wU.cell? ⟨bx, 0, none⟩ = some (.slice ua y.blocks.length uc) ∧ wU.cell? ⟨bx, 1, none⟩ = some (.int .i64 (y.old : Int)) ∧ wU.cell? ⟨bx, 2, none⟩ = some (.string y.added)))
     go_region_held3 (fun W' => W'.cell? ⟨f, 4, none⟩ = some (.map (some m)) ∧ W'.cell? ⟨bx, 0, none⟩ = some (.slice ua y.blocks.length uc) ∧ W'.cell? ⟨bx, 1, none⟩ = some (.int .i64 (y.old : Int)) ∧ W'.cell? ⟨bx, 2, none⟩ = some (.string y.added)) (first | exact kA | exact kU | exact ⟨c4, x0, x1, x2⟩ | go_keep)
      (first
      | (go_at_call 63; refine PC.out.mono ?_; rintro ex wA ⟨rfl, bA⟩; have bA' := hBd.trans (bA.mono hBd.size); have kA := hcl.out wA bA'; obtain ⟨wU, hU1, hU2, hU3⟩ := hst2.out wA bA'; have kU := hmD.out wA wU (keep_turned hU3) kA))
     have hoA := hoD.beyond bA'
     have hstA := hstD.beyond bA'
     have hfU := keep_turned hU3
     have hf := hoA.blk.lt
     have cU5 := hfU.cell (b := f) (o := 5) (fun e => hoA.ne e.symm) hoA.cells.2.2.2.2.2
     have fU5 : wU.frozen? ⟨f, 5, none⟩ = false := (hoA.blk.keep hfU (fun e => hoA.ne e.symm)).frozen 5
     obtain ⟨hfin, hstp⟩ := hoA.done (c := true) hU3 hU2
     have hfin2 := Lib.hid (FsAt.of hfin)
     have hstp2 := Lib.hid (hstA.trans hstp)
     clear hU1 hU2 hU3 hst2 hcl hmD PC c0 c1 c2 c3 c4 c5 x0 x1 x2 hfin hstp hoA hstA hstD kA kU
     go_wp2
     go_ret
     rw [hE2.out, if_neg heq.out]
     exact ⟨rfl, hfin2.out, hstp2.out⟩
end
end Go.Proofs.YtogblcdefbnbeaaGreat
