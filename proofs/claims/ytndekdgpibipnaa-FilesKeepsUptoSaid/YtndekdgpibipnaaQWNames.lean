
/- Walks: the names at hand, sorted. Condition: few enough. -/
import Derived.Test.YtndekdgpibipnaaQIter
import Derived.Test.YtndekdgpibipnaaQWFs2
import Derived.Maps.Ext
import Derived.Outline

namespace Go.Proofs.Ytndekdgpibipnaa
open Go.RowKit Go.Maps Go.Sort Go.Shelf

theorem bytesBefore_lt : ∀ {a b : List UInt8}, bytesBefore a b = true → a < b
  | [], [], h => by simp [bytesBefore] at h
  | [], _ :: _, _ => List.Lex.nil
  | _ :: _, [], h => by simp [bytesBefore] at h
  | a :: r, b :: s, h => by
    unfold bytesBefore at h
    simp only [Bool.or_eq_true, decide_eq_true_eq, Bool.and_eq_true, beq_iff_eq] at h
    rcases h with h | ⟨rfl, h⟩
    · exact List.Lex.rel h
    · exact List.Lex.cons (bytesBefore_lt h)
variable {B Bd f d m : Nat} {vf : Value} {x : Pl.Fs} {s : Pl.Dv} {rp fp fpd : Nat → Prop} {W W' : World}
/-- files at hand stand by rising names -/
theorem HandAt.rising {l : List (ByteArray × Pl.HF)} (h : HandAt rp W m l) : l.Pairwise (fun p q => bytesBefore p.1.data.toList q.1.data.toList = true) := by
  obtain ⟨es, e, hp, _⟩ := World.ownsMap.canon h str_law
  unfold Pl.toD at e
  injection e with e
  rw [← e, List.pairwise_map] at hp
  exact hp
def Pl.namesOf (l : List (ByteArray × Pl.HF)) : List ByteArray := l.map (·.1)
theorem strKeys_toD (l : List (ByteArray × Pl.HF)) : strKeys (Pl.toD l) = l.map fun p => p.1.data.toList := by
  unfold Pl.toD strKeys
  simp only [List.map_map]
  rfl
theorem sorts_any (m : Nat) : AnyZ.SortsIn Try.prog laySorted_ren Fence.wide m :=
  ⟨fun blk off cap ss W hH hblk hsz => callsIn_wide.2 (AnyM.slices_Sort_string laySort blk off cap ss W hH hblk hsz), fun p cap W => callsIn_wide.2 (AnyM.slices_Sort_string_none laySort p cap W)⟩
theorem mapsKeys_any (mb : Option Nat) (W : World) : CallsIn Fence.wide 5 Try.prog 85 #[.map mb] W fun e w' => e = .returned (.func (.func 107) #[] #[.pointer (some ⟨W.heap.size, 0, none⟩)]) ∧ w' = W.alloc (.cells #[.map mb] 125) :=
  AnyZ.keys_in layKeys Fence.wide 5 trivial rfl mb W
set_option maxHeartbeats 1000000 in
theorem sortedKeys_any {l : List (ByteArray × Pl.HF)} (hown : HandAt rp W m l) (hl : l.length ≤ 1073741824) :
    CallsIn Fence.wide 5 Try.prog 84 #[.func (.func 107) #[] #[.pointer (some ⟨W.heap.size, 0, none⟩)]] (W.alloc (.cells #[.map (some m)] 125)) fun e w' =>
      ∃ v, e = .returned v ∧ w'.ownsRow W.heap.size 9 1 v l.length ((Pl.namesOf l).map Value.string) ∧ Below W.heap.size W w' := by
  have hbl := World.ownsMap.lt hown
  have hris := hown.rising
  have hseq : SeqGives Fence.wide 2 Try.prog 107 #[.pointer (some ⟨W.heap.size, 0, none⟩)] encStr (fun ss => ss.Perm (strKeys (Pl.toD l))) (Maps.size (Pl.toD l)) (W.alloc (.cells #[.map (some m)] 125)) :=
    AnyZ.keys_gives (ρ := layKeys_ren) { layKeys with } Fence.wide _ trivial rfl (by omega) W.heap.size m l.length (Pl.toD l) _ (by simp) (by simp) (by
      obtain ⟨es, clock, hb, Ft, hs, hD⟩ := hown
      exact ⟨es, clock, (Below.heap_alloc _ _ m hbl).trans hb, Ft, hs, hD⟩)
  refine (AnyZ.sorted_in laySorted Fence.wide 5 trivial trivial trivial trivial rfl (by omega) (sorts_any _) (enters_of Try.func106 (by kernel_rfl) rfl) 107 #[.pointer (some ⟨W.heap.size, 0, none⟩)] trivial (enters_of Try.func107 (by kernel_rfl) rfl) _ _ (by rw [Pl.toD_size]; unfold maxLen; omega) (by rw [Pl.toD_size]; omega) _ hseq).mono ?_
  rintro e w' ⟨v, ss, rfl, hS, hrow, -, hb⟩
  have e1 : ss.mergeSort (fun x y => decide (x ≤ y)) = l.map fun p => p.1.data.toList := by
    have h1 := mergeSort_of_perm hS
    rw [strKeys_toD] at h1
    refine h1.trans (List.mergeSort_of_pairwise ?_)
    rw [List.pairwise_map]
    refine hris.imp (fun h => ?_)
    simp only [leB, decide_eq_true_eq]
    exact List.le_of_lt (bytesBefore_lt h)
  have e2 : ss.length = l.length := by rw [hS.length_eq, strKeys_toD, List.length_map]
  have e3 : (l.map fun p => p.1.data.toList).map encStr = (Pl.namesOf l).map Value.string := by
    unfold Pl.namesOf
    rw [List.map_map, List.map_map]
    refine List.map_congr_left (fun p _ => ?_)
    simp [encStr]
  rw [e1, e2] at hrow
  have hrow2 := hrow
  rw [show ∀ (ρ : Ren), ρ = laySorted_ren → ρ.t 26 = 9 from fun ρ h => by rw [h]; rfl] at hrow2
  · rw [e3] at hrow2
    refine ⟨v, rfl, ?_, ((Below.refl _ _).alloc (Nat.le_refl _) _).trans (hb.mono (by simp))⟩
    refine ⟨hrow2.1, hrow2.2.imp id ?_⟩
    rintro ⟨g, cap, cur, q1, q2, q3⟩
    exact ⟨g, cap, cur, q1, by simp at q2; omega, q3⟩
  · rfl

def Pl.Fs.namesE (x : Pl.Fs) (s : Pl.Dv) : List ByteArray := if x.dead s = true then [] else Pl.namesOf x.hand
set_option maxRecDepth 100000 in
set_option maxHeartbeats 1000000 in
theorem names_any (h : FsAt B f d x fp W) (hd : DevAt Bd d s fpd W) (hl : x.hand.length ≤ 1073741824) :
    Calls Try.prog 46 #[.pointer (some ⟨f, 0, none⟩)] W fun e w' => ∃ v, e = .returned v ∧ w'.ownsRow W.heap.size 9 1 v (x.namesE s).length ((x.namesE s).map Value.string) ∧ Below W.heap.size W w' := by
  obtain ⟨E, hE⟩ : ∃ E, E = x.namesE s := ⟨_, rfl⟩
  rw [← hE]
  obtain ⟨m, vf, rp, ho, rfl⟩ := id h
  cases hdd : x.dead s with
  | true =>
    have PD := Lib.hid (dead_is hdd h hd)
    obtain rfl : E = [] := by rw [hE]; unfold Pl.Fs.namesE; rw [if_pos hdd]
    clear hE hdd
    go_enter Try.func46, Try.ntmps46
    go_wp2_with fail
    refine PD.out.mono ?_
    rintro e w1 ⟨rfl, n, e1⟩
    have hb1 : Below W.heap.size W w1 := e1 ▸ below_drewN (Below.refl _ _) n
    clear e1
    go_wp2
    go_ret
    exact ⟨_, rfl, World.ownsRow_nil _ _ _ _, hb1⟩
  | false =>
    have PD := Lib.hid (dead_is hdd h hd)
    obtain rfl : E = Pl.namesOf x.hand := by rw [hE]; unfold Pl.Fs.namesE; rw [if_neg (by rw [hdd]; exact Bool.false_ne_true)]
    clear hE hdd
    go_enter Try.func46, Try.ntmps46
    go_wp2_with fail
    refine PD.out.mono ?_
    rintro e w1 ⟨rfl, n, e1⟩
    have ho1 := ho.keep (keep_drewN e1 _)
    have hb1 : Below W.heap.size W w1 := e1 ▸ below_drewN (Below.refl _ _) n
    clear e1 PD
    obtain ⟨c0, c1, c2, c3, c4, c5⟩ := ho1.cells
    have PK := Lib.hid (callsIn_wide.1 (mapsKeys_any (some m) w1))
    have PS := Lib.hid (callsIn_wide.1 (sortedKeys_any ho1.hand hl))
    go_wp2_with (first
      | (go_at_call 85; refine PK.out.mono ?_; rintro e w' ⟨rfl, rfl⟩)
      | (go_at_call 84; refine PS.out.mono ?_; rintro e w2 ⟨v, rfl, hr, hb2⟩))
    go_ret
    refine ⟨v, rfl, ?_, hb1.trans (hb2.mono hb1.size)⟩
    have e1 : (Pl.namesOf x.hand).length = x.hand.length := by simp [Pl.namesOf]
    rw [e1]
    refine ⟨hr.1, hr.2.imp id ?_⟩
    rintro ⟨g, cap, cur, q1, q2, q3⟩
    exact ⟨g, cap, cur, q1, Nat.le_trans hb1.size q2, q3⟩
end Go.Proofs.Ytndekdgpibipnaa
