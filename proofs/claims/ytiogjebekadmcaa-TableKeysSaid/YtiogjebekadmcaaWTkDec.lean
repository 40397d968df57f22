
/- Walks: reading versions' places. Condition: lengths that the form's reach lets. -/
import Derived.Test.YtiogjebekadmcaaWTk
import Derived.Deep.MidRow
namespace Go.Proofs.Ytiogjebekadmcaa
open Go.RowKit

theorem ver_loadVar {B : Nat} {k : ByteArray} {s : Int} {d : Bool} {v : ByteArray} {W : World} (h : VrAt B k s d v W) : (loadVar 44 ⟨B, 0, none⟩).run Try.prog W = .ok (.agg #[.string k, .int .u64 s, .bool d, .string v]) W :=
  run_loadVar_mid (P := Try.prog) W B 0 44 [.string k, .int .u64 s, .bool d, .string v] _ (fun j u hj => by
    rcases j with _ | _ | _ | _ | j
    · obtain rfl : Value.string k = u := by simpa using hj
      exact h.1
    · obtain rfl : Value.int .u64 s = u := by simpa using hj
      exact h.2.1
    · obtain rfl : Value.bool d = u := by simpa using hj
      exact h.2.2.1
    · obtain rfl : Value.string v = u := by simpa using hj
      exact h.2.2.2.1
    · simp at hj) Try.underlying44 rfl (by kernel_rfl)
theorem results_ver {fn : Func} {p u : Tmp} (h : fn.results = #[.cell p 44, .tmp u]) {tmps : Array Value} {B : Nat} {k : ByteArray} {s : Int} {d : Bool} {v : ByteArray} {w : World} (hp : tmps.getD p undef = .pointer (some ⟨B, 0, none⟩)) (hf : VrAt B k s d v w) :
    (results fn tmps).run Try.prog w = .ok (.tuple #[.agg #[.string k, .int .u64 s, .bool d, .string v], tmps.getD u undef]) w := by
  have hp' : tmps[p]?.getD undef = .pointer (some ⟨B, 0, none⟩) := by simpa using hp
  simp [results, h, hp', asAddr, ver_loadVar hf, Result.andThen]

/-- what reading a place answers -/
def decV (l : List UInt8) : Value := .tuple #[.agg #[.string ⟨(Pl.decKey l).1.1.toArray⟩, .int .u64 ((Pl.decKey l).1.2.1 : Nat), .bool (Pl.decKey l).1.2.2, .string ⟨#[]⟩], .int .i64 ((Pl.decKey l).2 : Nat)]

def VrW (B : Nat) (k : ByteArray) (s : Int) (d : Bool) (v : ByteArray) (W : World) : Prop := VrAt B k s d v W ∧ W.frozen? ⟨B, 0, none⟩ = false ∧ W.frozen? ⟨B, 1, none⟩ = false ∧ W.frozen? ⟨B, 2, none⟩ = false ∧ W.frozen? ⟨B, 3, none⟩ = false
theorem VrW.kept {B : Nat} {k : ByteArray} {s : Int} {d : Bool} {v : ByteArray} {W W' : World} (h : VrW B k s d v W) (hb : Below W.heap.size W W') : VrW B k s d v W' :=
  have hl := h.1.2.2.2.2
  ⟨h.1.kept hb, (hb.frozen (p := ⟨B, 0, none⟩) hl).trans h.2.1, (hb.frozen (p := ⟨B, 1, none⟩) hl).trans h.2.2.1, (hb.frozen (p := ⟨B, 2, none⟩) hl).trans h.2.2.2.1, (hb.frozen (p := ⟨B, 3, none⟩) hl).trans h.2.2.2.2⟩
theorem VrW.new (w : World) (k : ByteArray) (s : Int) (d : Bool) (v : ByteArray) (t : TypeId) : VrW w.heap.size k s d v (w.alloc (.cells #[.string k, .int .u64 s, .bool d, .string v] t)) :=
  ⟨VrAt.new w k s d v t, by simp, by simp, by simp, by simp⟩
theorem VrAt.set {B : Nat} {k k' : ByteArray} {s s' : Int} {d d' : Bool} {v v' : ByteArray} {W : World} (h : VrAt B k s d v W) :
    VrAt B k' s' d' v' ((((W.setCell ⟨B, 0, none⟩ (.string k')).setCell ⟨B, 1, none⟩ (.int .u64 s')).setCell ⟨B, 2, none⟩ (.bool d')).setCell ⟨B, 3, none⟩ (.string v')) := by
  obtain ⟨h0, h1, h2, h3, hB⟩ := h
  refine ⟨?_, ?_, ?_, ?_, by simpa using hB⟩
  · rw [World.cell?_setCell_other _ _ _ _ (by simp), World.cell?_setCell_other _ _ _ _ (by simp), World.cell?_setCell_other _ _ _ _ (by simp)]
    exact World.cell?_setCell_same _ _ _ h0
  · rw [World.cell?_setCell_other _ _ _ _ (by simp), World.cell?_setCell_other _ _ _ _ (by simp)]
    exact World.cell?_setCell_same _ _ _ ((World.cell?_setCell_other _ _ _ _ (by simp)).trans h1)
  · rw [World.cell?_setCell_other _ _ _ _ (by simp)]
    exact World.cell?_setCell_same _ _ _ ((World.cell?_setCell_other _ _ _ _ (by simp)).trans ((World.cell?_setCell_other _ _ _ _ (by simp)).trans h2))
  · exact World.cell?_setCell_same _ _ _ ((World.cell?_setCell_other _ _ _ _ (by simp)).trans ((World.cell?_setCell_other _ _ _ _ (by simp)).trans ((World.cell?_setCell_other _ _ _ _ (by simp)).trans h3)))
theorem below_set4 {B0 B : Nat} {w W : World} (h : Below B0 w W) (hB : B0 ≤ B) (a b c d : Value) : Below B0 w ((((W.setCell ⟨B, 0, none⟩ a).setCell ⟨B, 1, none⟩ b).setCell ⟨B, 2, none⟩ c).setCell ⟨B, 3, none⟩ d) :=
  (((h.setCell hB _).setCell hB _).setCell hB _).setCell hB _

theorem decV_bad {l : List UInt8} (h : (Pl.takeKey l).2.2 ≠ 0 ∨ l.length ≠ (Pl.takeKey l).2.1 + 8) : decV l = .tuple #[.agg #[.string .empty, .int .u64 0, .bool false, .string .empty], .int .i64 3] := by
  unfold decV Pl.decKey
  rw [if_pos h]; rfl
theorem decV_no {l : List UInt8} (h : ¬ ((Pl.takeKey l).2.2 ≠ 0 ∨ l.length ≠ (Pl.takeKey l).2.1 + 8)) (hm : Pl.mayV (Pl.takeKey l).1 [] (Pl.decNum l / 2) (Pl.decNum l % 2 == 1) = false) : decV l = .tuple #[.agg #[.string .empty, .int .u64 0, .bool false, .string .empty], .int .i64 3] := by
  unfold decV Pl.decKey
  rw [if_neg h, if_neg (by rw [hm]; simp)]; rfl
theorem decV_ok {l : List UInt8} (h : ¬ ((Pl.takeKey l).2.2 ≠ 0 ∨ l.length ≠ (Pl.takeKey l).2.1 + 8)) (hm : Pl.mayV (Pl.takeKey l).1 [] (Pl.decNum l / 2) (Pl.decNum l % 2 == 1) = true) : decV l = .tuple #[.agg #[.string ⟨(Pl.takeKey l).1.toArray⟩, .int .u64 ((Pl.decNum l / 2 : Nat) : Int), .bool (Pl.decNum l % 2 == 1), .string ⟨#[]⟩], .int .i64 0] := by
  unfold decV Pl.decKey
  rw [if_neg h, if_pos hm]; rfl
theorem and_one (n : Nat) (h : n < 18446744073709551616) : bits .and .u64 (n : Int) 1 = ((n % 2 : Nat) : Int) := by
  rw [show (1 : Int) = ((1 : Nat) : Int) from rfl, u64_and_nat _ _ h (by omega), Nat.and_one_is_mod]
theorem odd_bool (n : Nat) : (((n % 2 : Nat) : Int) == 1) = (n % 2 == 1) := by
  rw [Bool.eq_iff_iff]; simp; omega

set_option maxRecDepth 100000 in
set_option maxHeartbeats 4000000 in
theorem decKey_any (s : ByteArray) (w : World) (hs : s.size ≤ 140737488351232) :
    Calls Try.prog 26 #[.string s] w fun e w' => e = .returned (decV s.data.toList) ∧ Below w.heap.size w w' := by
  have P1 := Lib.hid (fun w => takeKeyText_any s w hs)
  have v0 := VrW.new w .empty 0 false .empty 44
  have hb0 : Below w.heap.size w (w.alloc (.cells #[.string .empty, .int .u64 0, .bool false, .string .empty] 44)) := (Below.refl _ w).alloc (Nat.le_refl _) _
  have hl : (Pl.takeKey s.data.toList).1.length ≤ 0 + s.data.toList.length ∧ (Pl.takeKey s.data.toList).2.1 ≤ 0 + s.data.toList.length := Pl.tkey_length s.data.toList [] 0
  rw [Pl.size_data] at hl
  have hbad := decV_bad (l := s.data.toList)
  have hno := decV_no (l := s.data.toList)
  have hok := decV_ok (l := s.data.toList)
  have hD : Pl.decNum s.data.toList = 18446744073709551615 - Pl.word (s.data.toList.drop (Pl.takeKey s.data.toList).2.1) := rfl
  rw [Pl.size_data] at hbad hno hok
  generalize Pl.takeKey s.data.toList = t at P1 hl hbad hno hok hD
  obtain ⟨K, n, err⟩ := t
  generalize Pl.decNum s.data.toList = D at hno hok hD
  generalize decV s.data.toList = R at hbad hno hok ⊢
  simp only at hl hbad hno hok hD
  replace hbad := Lib.hid hbad
  replace hno := Lib.hid hno
  replace hok := Lib.hid hok
  replace hD := Lib.hid hD
  go_enter Try.func26, Try.ntmps26
  go_wp2_with fail
  refine (P1.out _).mono ?_
  rintro e w1 ⟨rfl, b1⟩
  have v1 := v0.kept b1
  have hb1 := below_seq hb0 b1
  have ⟨⟨f0, f1, f2, f3, fB⟩, z0, z1, z2, z3⟩ := v1
  unfold tupS
  simp only
  by_cases he : err = 0
  · subst he
    rw [show ((0 : Nat) : Int) = 0 from rfl]
    by_cases hn : s.size = n + 8
    · have hno1 := Lib.hid (hno.out (by rintro (h | h); exact h rfl; exact h hn))
      have hok1 := Lib.hid (hok.out (by rintro (h | h); exact h rfl; exact h hn))
      have hlenD : (s.data.toList.drop n).length = 8 := by rw [List.length_drop, Pl.size_data]; omega
      have hlt := Pl.word_lt8 _ hlenD
      have hD1 : D ≤ 18446744073709551615 := by rw [hD.out]; omega
      have HLT := Lib.hid hlt
      have HD1 := Lib.hid hD1
      clear hlt hD1 hno hok hbad
      have hn0 : ((s.size : Int) != (n : Int) + 8) = false := by simp; omega
      have hA : n + 8 ≤ s.size := by omega
      have hB : s.size ≤ n + 8 := by omega
      clear hn
      go_wp2
      go_loop [7, 8, 26] (fun x _ i => ∃ k m : Nat, k ≤ 8 ∧ i = .int .i64 k ∧ x = .int .u64 m ∧ Hid (m = Pl.word ((s.data.toList.drop n).take k))) (fun _ _ i => 8 - (intOf i).toNat)
      case atStart => exact ⟨0, 0, by omega, rfl, rfl, by show _ = _; simp [Pl.word]⟩
      case round =>
        obtain ⟨k, m, hk, rfl, rfl, H⟩ := hrel
        by_cases hlt8 : k < 8
        · have hks : n + k < s.size := by omega
          have hw : IntKind.u64.wrap ((s[n + k].toNat : Nat) : Int) = ((s[n + k].toNat : Nat) : Int) := by have := byte_lt s[n + k]; exact IntWalk.u64_in _ (by omega)
          have hnl : m < 72057594037927936 := by
            have h1 := Pl.word_lt 7 ((s.data.toList.drop n).take k) (by simp; omega)
            rw [← H.out] at h1; exact h1
          have HN := Lib.hid hnl
          have hg : (s.data.toList.drop n)[k]'(by omega) = s[n + k] := by rw [List.getElem_drop]; rfl
          have hwt := Pl.word_take (l := s.data.toList.drop n) (k := k) (by omega)
          rw [hg, ← H.out] at hwt
          replace hwt := Lib.hid hwt
          clear hnl hlenD hg
          go_wp2
          go_round
          case rel => exact ⟨k + 1, m * 256 + s[n + k].toNat, by omega, by go_num, by rw [Pl.or_byte m _ HN.out (byte_lt' _)], hwt.out.symm⟩
          case measure => simp [intOf]; omega
        · obtain rfl : k = 8 := by omega
          rw [List.take_of_length_le (by omega), show Pl.word (s.data.toList.drop n) = 18446744073709551615 - D from by rw [hD.out]; have := HLT.out; omega] at H
          have hC : Hid (bits .xor .u64 IntKind.u64.max (m : Int) = (D : Int)) := by
            show _ = _
            have := comp_eq m (by rw [H.out]; omega)
            rw [show (if IntKind.u64.signed = true then (-1 : Int) else IntKind.u64.max) = IntKind.u64.max from rfl] at this
            rw [this, H.out]; have := HD1.out; omega
          go_wp2_with fail
          rw [hC.out]
          have hD64 := HD1.out
          rw [and_one D (by omega), odd_bool, show (D : Int) / 2 = ((D / 2 : Nat) : Int) from by omega]
          have P2 := Lib.hid (fun w => tmay_any ⟨K.toArray⟩ .empty (D / 2) (D % 2 == 1) w)
          have x0 := VrW.new w1 ⟨K.toArray⟩ ((D / 2 : Nat) : Int) (D % 2 == 1) .empty 44
          have hbx : Below w1.heap.size w1 (w1.alloc (.cells #[.string ⟨K.toArray⟩, .int .u64 ((D / 2 : Nat) : Int), .bool (D % 2 == 1), .string .empty] 44)) := (Below.refl _ w1).alloc (Nat.le_refl _) _
          have v2 := v1.kept hbx
          refine (P2.out _).mono ?_
          rintro e w4 ⟨rfl, b4⟩
          replace v2 := v2.kept b4
          replace x0 := x0.kept b4
          have hb4 := below_seq hb1 (hbx.trans (b4.mono hbx.size))
          clear f0 f1 f2 f3 fB z0 z1 z2 z3
          have ⟨⟨f0, f1, f2, f3, fB⟩, z0, z1, z2, z3⟩ := v2
          have ⟨⟨g0, g1, g2, g3, gB⟩, _, _, _, _⟩ := x0
          cases hm : Pl.mayV K [] (D / 2) (D % 2 == 1) with
          | false =>
            go_wp2_with fail
            exact bodyPost_ret (results_ver rfl rfl v2.1.set) rfl ⟨by rw [hno1.out hm]; rfl, below_set4 hb4 (Nat.le_refl _) _ _ _ _⟩
          | true =>
            go_wp2_with fail
            exact bodyPost_ret (results_ver rfl rfl v2.1.set) rfl ⟨by rw [hok1.out hm]; rfl, below_set4 hb4 (Nat.le_refl _) _ _ _ _⟩
    · have hn1 : ((s.size : Int) != (n : Int) + 8) = true := by simp; omega
      go_wp2_with fail
      exact bodyPost_ret (results_ver rfl rfl v1.1.set) rfl ⟨by rw [hbad.out (.inr hn)]; rfl, below_set4 hb1 (Nat.le_refl _) _ _ _ _⟩
  · have he1 : ((err : Int) != 0) = true := by simp; omega
    go_wp2_with fail
    exact bodyPost_ret (results_ver rfl rfl v1.1.set) rfl ⟨by rw [hbad.out (.inl he)]; rfl, below_set4 hb1 (Nat.le_refl _) _ _ _ _⟩

set_option maxRecDepth 100000 in
set_option maxHeartbeats 4000000 in
theorem refDecKey_any (s : ByteArray) (w : World) (hs : s.size ≤ 140737488351232) :
    Calls Try.prog 27 #[.string s] w fun e w' => e = .returned (decV s.data.toList) ∧ Below w.heap.size w w' := by
  have P1 := Lib.hid (fun w => refTakeKeyText_any s w hs)
  have v0 := VrW.new w .empty 0 false .empty 44
  have hb0 : Below w.heap.size w (w.alloc (.cells #[.string .empty, .int .u64 0, .bool false, .string .empty] 44)) := (Below.refl _ w).alloc (Nat.le_refl _) _
  have hl : (Pl.takeKey s.data.toList).1.length ≤ 0 + s.data.toList.length ∧ (Pl.takeKey s.data.toList).2.1 ≤ 0 + s.data.toList.length := Pl.tkey_length s.data.toList [] 0
  rw [Pl.size_data] at hl
  have hbad := decV_bad (l := s.data.toList)
  have hno := decV_no (l := s.data.toList)
  have hok := decV_ok (l := s.data.toList)
  have hD : Pl.decNum s.data.toList = 18446744073709551615 - Pl.word (s.data.toList.drop (Pl.takeKey s.data.toList).2.1) := rfl
  have hde := Pl.dec_enc s.data.toList
  rw [Pl.size_data] at hbad hno hok hde
  generalize Pl.takeKey s.data.toList = t at P1 hl hbad hno hok hD hde
  obtain ⟨K, n, err⟩ := t
  generalize Pl.decNum s.data.toList = D at hno hok hD hde
  generalize decV s.data.toList = R at hbad hno hok ⊢
  simp only at hl hbad hno hok hD hde
  replace hde := Lib.hid hde
  replace hbad := Lib.hid hbad
  replace hno := Lib.hid hno
  replace hok := Lib.hid hok
  replace hD := Lib.hid hD
  go_enter Try.func27, Try.ntmps27
  go_wp2_with fail
  refine (P1.out _).mono ?_
  rintro e w1 ⟨rfl, b1⟩
  have v1 := v0.kept b1
  have hb1 := below_seq hb0 b1
  have ⟨⟨f0, f1, f2, f3, fB⟩, z0, z1, z2, z3⟩ := v1
  unfold tupS
  simp only
  by_cases he : err = 0
  · subst he
    rw [show ((0 : Nat) : Int) = 0 from rfl]
    by_cases hn : s.size = n + 8
    · have hno1 := Lib.hid (hno.out (by rintro (h | h); exact h rfl; exact h hn))
      have hok1 := Lib.hid (hok.out (by rintro (h | h); exact h rfl; exact h hn))
      have hde1 := Lib.hid (hde.out (by rintro (h | h); exact h rfl; exact h hn))
      have hlenD : (s.data.toList.drop n).length = 8 := by rw [List.length_drop, Pl.size_data]; omega
      have hlt := Pl.word_lt8 _ hlenD
      have hD1 : D ≤ 18446744073709551615 := by rw [hD.out]; omega
      have HLT := Lib.hid hlt
      have HD1 := Lib.hid hD1
      clear hlt hD1 hno hok hbad hde
      have hn0 : ((s.size : Int) != (n : Int) + 8) = false := by simp; omega
      have hA : n + 8 ≤ s.size := by omega
      have hB : s.size ≤ n + 8 := by omega
      clear hn
      have hx : (s.extract n s.size).data.toList.take 8 = s.data.toList.drop n := by
        rw [Pl.extract_mk]
        simp [List.take_of_length_le (Nat.le_of_eq (Pl.size_data s))]
        exact List.take_of_length_le (by omega)
      have PW := Lib.hid (fun w => word_any (s.extract n s.size) w (by rw [ByteArray.size_extract]; omega))
      rw [hx] at PW
      clear hx hlenD
      obtain ⟨m, hm⟩ : ∃ m, m = Pl.word (s.data.toList.drop n) := ⟨_, rfl⟩
      rw [← hm] at PW HLT hD
      clear hm
      have hC : Hid (bits .xor .u64 IntKind.u64.max (m : Int) = (D : Int)) := by
        show _ = _
        have := comp_eq m (by have := HLT.out; omega)
        rw [show (if IntKind.u64.signed = true then (-1 : Int) else IntKind.u64.max) = IntKind.u64.max from rfl] at this
        rw [this, hD.out]
      go_wp2_with fail
      refine (PW.out _).mono ?_
      rintro e w2 ⟨rfl, rfl⟩
      go_wp2_with fail
      have hq : IntKind.u64.wrap ((D : Int).tdiv 2) = ((D / 2 : Nat) : Int) := by
        rw [Int.tdiv_eq_ediv_of_nonneg (Int.natCast_nonneg D), IntKind.wrap_u64]
        have := HD1.out
        omega
      have hr : ((D : Int).tmod 2 == 1) = (D % 2 == 1) := by
        rw [Int.tmod_eq_emod_of_nonneg (Int.natCast_nonneg D), ← odd_bool]
        rfl
      rw [hC.out, hq, hr]
      clear hq hr
      have P2 := Lib.hid (fun w => refEncKey_any ⟨K.toArray⟩ .empty (D / 2) (D % 2 == 1) w)
      have x0 := VrW.new w1 ⟨K.toArray⟩ ((D / 2 : Nat) : Int) (D % 2 == 1) .empty 44
      have hbx : Below w1.heap.size w1 (w1.alloc (.cells #[.string ⟨K.toArray⟩, .int .u64 ((D / 2 : Nat) : Int), .bool (D % 2 == 1), .string .empty] 44)) := (Below.refl _ w1).alloc (Nat.le_refl _) _
      have v2 := v1.kept hbx
      have hE2 : Hid (Pl.encKey (⟨K.toArray⟩ : ByteArray).data.toList ByteArray.empty.data.toList (D / 2) (D % 2 == 1) = Pl.encKey K [] (D / 2) (D % 2 == 1)) := by show _ = _; rfl
      rw [hE2.out] at P2
      clear hE2
      generalize Pl.encKey K [] (D / 2) (D % 2 == 1) = E at P2 hde1
      refine (P2.out _).mono ?_
      rintro e w4 ⟨rfl, b4⟩
      replace v2 := v2.kept b4
      replace x0 := x0.kept b4
      have hb4 := below_seq hb1 (hbx.trans (b4.mono hbx.size))
      clear f0 f1 f2 f3 fB z0 z1 z2 z3
      have ⟨⟨f0, f1, f2, f3, fB⟩, z0, z1, z2, z3⟩ := v2
      have ⟨⟨g0, g1, g2, g3, gB⟩, _, _, _, _⟩ := x0
      cases hm : Pl.mayV K [] (D / 2) (D % 2 == 1) with
      | false =>
        have hne : ¬ E = s.data.toList := by rw [hde1.out, hm]; simp
        have hc1 : (({ data := E.toArray } : ByteArray).toList == s.toList) = false := by rw [ByteArray.toList_eq, ByteArray.toList_eq]; simpa using hne
        have hc2 : (E == s.toList) = false := by rw [ByteArray.toList_eq]; simpa using hne
        go_wp2_with fail
        exact bodyPost_ret (results_ver rfl rfl v2.1.set) rfl ⟨by rw [hno1.out hm]; rfl, below_set4 hb4 (Nat.le_refl _) _ _ _ _⟩
      | true =>
        have hne : E = s.data.toList := by rw [hde1.out, hm]
        have hc1 : (({ data := E.toArray } : ByteArray).toList == s.toList) = true := by rw [ByteArray.toList_eq, ByteArray.toList_eq]; simpa using hne
        have hc2 : (E == s.toList) = true := by rw [ByteArray.toList_eq]; simpa using hne
        clear hne
        go_wp2_with fail
        exact bodyPost_ret (results_ver rfl rfl v2.1.set) rfl ⟨by rw [hok1.out hm]; rfl, below_set4 hb4 (Nat.le_refl _) _ _ _ _⟩
    · have hn1 : ((s.size : Int) != (n : Int) + 8) = true := by simp; omega
      go_wp2_with fail
      exact bodyPost_ret (results_ver rfl rfl v1.1.set) rfl ⟨by rw [hbad.out (.inr hn)]; rfl, below_set4 hb1 (Nat.le_refl _) _ _ _ _⟩
  · have he1 : ((err : Int) != 0) = true := by simp; omega
    go_wp2_with fail
    exact bodyPost_ret (results_ver rfl rfl v1.1.set) rfl ⟨by rw [hbad.out (.inl he)]; rfl, below_set4 hb1 (Nat.le_refl _) _ _ _ _⟩
end Go.Proofs.Ytiogjebekadmcaa
