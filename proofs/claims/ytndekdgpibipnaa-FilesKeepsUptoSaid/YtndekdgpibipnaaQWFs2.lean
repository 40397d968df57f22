
/- Walks: is a file system dead, a file's size. Condition: sizes that bytes may have. -/
import Derived.Test.YtndekdgpibipnaaQWFs
import Derived.Test.YtndekdgpibipnaaQGi
import Derived.Test.YtndekdgpibipnaaQGe
import Derived.Deep.QuietTactic
import Derived.BigQuiet
import Derived.IntWalk
import Derived.StringKeys
import Derived.Outline

namespace Go.Proofs.Ytndekdgpibipnaa
open Go.RowKit Go.Maps

variable {B Bd f d m : Nat} {vf : Value} {x : Pl.Fs} {s : Pl.Dv} {rp fp fpd : Nat → Prop} {W W' : World}
theorem up_quiet (h : DevAt B d s fp W) {b : Bool} (hd : s.down = b) (n : Nat) : Calls Try.prog 19 #[.pointer (some ⟨d, 0, none⟩)] (W.drewN n) fun e w' => e = .returned (.bool (!b)) ∧ w' = W.drewN n :=
  (up_is (h.keep ((Keep.refl _ W).drewN n)) hd).mono fun _ _ ⟨h1, h2⟩ => ⟨h1, h2.symm⟩
theorem epoch_quiet (h : DevAt B d s fp W) (n : Nat) : Calls Try.prog 25 #[.pointer (some ⟨d, 0, none⟩)] (W.drewN n) fun e w' => e = .returned (.int .i64 (s.epoch : Int)) ∧ w' = W.drewN n :=
  (epoch_any (h.keep ((Keep.refl _ W).drewN n))).mono fun _ _ ⟨h1, h2⟩ => ⟨h1, h2.symm⟩

theorem keep_drewN {W W' : World} {n : Nat} (e : W' = W.drewN n) (g : Nat → Prop) : Keep g W W' := e ▸ (Keep.refl g W).drewN n

set_option maxRecDepth 100000 in
set_option maxHeartbeats 2000000 in
theorem dead_any (h : FsAt B f d x fp W) (hd : DevAt Bd d s fpd W) : Calls Try.prog 77 #[.pointer (some ⟨f, 0, none⟩)] W fun e w' => e = .returned (.bool (x.dead s)) ∧ ∃ n, w' = W.drewN n := by
  obtain ⟨m, vf, rp, h, rfl⟩ := h
  obtain ⟨c0, c1, c2, c3, c4, c5⟩ := h.cells
  have PE := Lib.hid (fun n => epoch_quiet hd n)
  cases hdn : s.down with
  | true =>
    have PU := Lib.hid (fun n => up_quiet hd hdn n)
    obtain ⟨D, hD⟩ : ∃ D, D = x.dead s := ⟨_, rfl⟩
    rw [← hD]
    have hD' : D = true := by rw [hD]; unfold Pl.Fs.dead; rw [hdn]; rfl
    subst hD'
    clear hD hdn h hd
    go_enter Try.func77, Try.ntmps77
    go_wp2_with fail
    go_quiet ((first | (go_at_call 19; exact Calls.quiet_of_same (PU.out _)) | (go_at_call 25; exact Calls.quiet_of_same (PE.out _))))
    go_wp2
    go_ret
    exact ⟨rfl, _, rfl⟩
  | false =>
    have PU := Lib.hid (fun n => up_quiet hd hdn n)
    obtain ⟨D, hD⟩ : ∃ D, D = x.dead s := ⟨_, rfl⟩
    rw [← hD]
    have hD' := Lib.hid (show D = decide (s.epoch ≠ x.epoch) by rw [hD]; unfold Pl.Fs.dead; rw [hdn]; rfl)
    clear hD hdn h hd
    go_enter Try.func77, Try.ntmps77
    go_wp2_with fail
    go_quiet ((first | (go_at_call 19; exact Calls.quiet_of_same (PU.out _)) | (go_at_call 25; exact Calls.quiet_of_same (PE.out _))))
    go_wp2
    go_ret
    refine ⟨?_, _, rfl⟩
    rw [hD'.out]
    by_cases e : s.epoch = x.epoch
    · simp [e]
    · have h1 : (s.epoch : Int) ≠ (x.epoch : Int) := by omega
      simp [e, h1]

theorem dead_is {b : Bool} (hb : x.dead s = b) (h : FsAt B f d x fp W) (hd : DevAt Bd d s fpd W) : Calls Try.prog 77 #[.pointer (some ⟨f, 0, none⟩)] W fun e w' => e = .returned (.bool b) ∧ ∃ n, w' = W.drewN n := hb ▸ dead_any h hd

theorem str_law : Keyed Try.prog 9 := string_keyed Try.underlying9
theorem zero_file (w : World) : (zeroValue 134).run Try.prog w = .ok (.agg #[.slice none 0 0, .int .i64 0, .string .empty]) w := by kernel_rfl
theorem key_of {s : ByteArray} (hs : s.size ≤ maxLen) : keyOf Try.prog 9 (.string s) = some (.string s.data.toList) := WideMaps.keyOf_string_mk Try.underlying9 hs

/-- what is at hand under a name, looked up -/
theorem hand_look {l : List (ByteArray × Pl.HF)} (h : HandAt rp W m l) {nm : ByteArray} (hs : nm.size ≤ maxLen) :
    ∃ (a : Option Addr) (c : Nat), (Instr.lookup 125 (.map (some m)) (.string nm) true).run Try.prog W = .ok (.tuple #[.agg #[.slice a ((Pl.hget l nm).getD Pl.HF.zero).blocks.length c, .int .i64 (((Pl.hget l nm).getD Pl.HF.zero).old : Int), .string ((Pl.hget l nm).getD Pl.HF.zero).added], .bool (Pl.hget l nm).isSome]) W ∧ IntsF rp W (.slice a ((Pl.hget l nm).getD Pl.HF.zero).blocks.length c) ((Pl.hget l nm).getD Pl.HF.zero).blocks := by
  obtain ⟨v, ps, hrun, hv⟩ := World.ownsMap.look_ok h str_law Try.underlying125 (zero_file W) (RF_mk (FileV.zero rp W)) (key_of hs)
  rw [Pl.toD_has] at hrun
  rw [Pl.toD_at] at hv
  obtain ⟨y, ⟨u, rfl, hu⟩, e⟩ := RF_inv hv
  injection e with e _
  injection e with e
  subst e
  obtain ⟨a, c, rfl, h1, h2, h3⟩ := id hu.1
  exact ⟨a, c, hrun, hu⟩

/-- a file's size as it is told -/
def Pl.Fs.sizeE (x : Pl.Fs) (s : Pl.Dv) (nm : ByteArray) : Int × Int := if x.dead s = true then (0, 4) else match Pl.hget x.hand nm with | none => (0, 6) | some y => ((y.size : Int), 0)
set_option maxRecDepth 100000 in
set_option maxHeartbeats 2000000 in
theorem size_any (h : FsAt B f d x fp W) (hd : DevAt Bd d s fpd W) (nm : ByteArray) (hs : nm.size ≤ maxLen) (hz : ∀ y, Pl.hget x.hand nm = some y → y.size ≤ 9223372036854775807) :
    Calls Try.prog 39 #[.pointer (some ⟨f, 0, none⟩), .string nm] W fun e w' => e = .returned (.tuple #[.int .i64 (x.sizeE s nm).1, .int .i64 (x.sizeE s nm).2]) ∧ Below W.heap.size W w' := by
  obtain ⟨E, hE⟩ : ∃ E, E = x.sizeE s nm := ⟨_, rfl⟩
  rw [← hE]
  obtain ⟨m, vf, rp, ho, rfl⟩ := id h
  cases hdd : x.dead s with
  | true =>
    have PD := Lib.hid (dead_is hdd h hd)
    obtain rfl : E = (0, 4) := by rw [hE]; unfold Pl.Fs.sizeE; rw [if_pos hdd]
    clear hE hdd
    go_enter Try.func39, Try.ntmps39
    go_wp2_with fail
    refine PD.out.mono ?_
    rintro e w1 ⟨rfl, n, e1⟩
    have ho1 := ho.keep (keep_drewN e1 _)
    have hb1 : Below W.heap.size W w1 := e1 ▸ below_drewN (Below.refl _ _) n
    clear e1
    go_wp2
    go_ret2
    exact ⟨rfl, hb1⟩
  | false =>
    have PD := Lib.hid (dead_is hdd h hd)
    cases hg : Pl.hget x.hand nm with
    | none =>
      obtain rfl : E = (0, 6) := by rw [hE]; unfold Pl.Fs.sizeE; rw [if_neg (by rw [hdd]; exact Bool.false_ne_true), hg]
      clear hE hdd hz
      go_enter Try.func39, Try.ntmps39
      go_wp2_with fail
      refine PD.out.mono ?_
      rintro e w1 ⟨rfl, n, e1⟩
      have ho1 := ho.keep (keep_drewN e1 _)
      have hb1 : Below W.heap.size W w1 := e1 ▸ below_drewN (Below.refl _ _) n
      clear e1
      obtain ⟨c0, c1, c2, c3, c4, c5⟩ := ho1.cells
      obtain ⟨ua, uc, hrun, hu⟩ := hand_look ho1.hand hs
      rw [hg] at hrun hu
      simp only [Option.getD_none, Option.isSome_none, Pl.HF.zero] at hrun hu
      clear PD hg
      go_wp2
      go_ret2
      exact ⟨rfl, hb1.alloc hb1.size _⟩
    | some y =>
      have hy := hz y hg
      obtain rfl : E = ((y.size : Int), 0) := by rw [hE]; unfold Pl.Fs.sizeE; rw [if_neg (by rw [hdd]; exact Bool.false_ne_true), hg]
      unfold Pl.HF.size at hy ⊢
      clear hE hdd hz
      go_enter Try.func39, Try.ntmps39
      go_wp2_with fail
      refine PD.out.mono ?_
      rintro e w1 ⟨rfl, n, e1⟩
      have ho1 := ho.keep (keep_drewN e1 _)
      have hb1 : Below W.heap.size W w1 := e1 ▸ below_drewN (Below.refl _ _) n
      clear e1
      obtain ⟨c0, c1, c2, c3, c4, c5⟩ := ho1.cells
      obtain ⟨ua, uc, hrun, hu⟩ := hand_look ho1.hand hs
      rw [hg] at hrun hu
      simp only [Option.getD_some, Option.isSome_some] at hrun hu
      clear PD hg
      go_wp2
      go_ret2
      exact ⟨by simp, hb1.alloc hb1.size _⟩
end Go.Proofs.Ytndekdgpibipnaa
