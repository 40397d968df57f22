
/- Walks: a table's functions, told by its versions and its towers. Condition: rows whose bytes fit. -/
import Derived.Test.YtcfcijgnkbmlaaaWFromT
namespace Go.Proofs.Ytcfcijgnkbmlaaa
open Go.RowKit Go.Shelf

/-- in W, a table lies in block T: its versions, its towers' heights, its nodes' blocks -/
structure TblAt (W : World) (T : Nat) (xs : List Ver) (hs bs : List Nat) : Prop where
  sk : SkAt W T xs hs bs (xs.length : Int) (Pl.bytesOf xs : Int)
  good : Pl.TGood xs hs
theorem TblAt.below {W W' : World} {T : Nat} {xs : List Ver} {hs bs : List Nat} (h : TblAt W T xs hs bs) (hb : Below W.heap.size W W') : TblAt W' T xs hs bs := ⟨h.sk.below hb, h.good⟩
theorem TblAt.keep {fp : Nat → Prop} {W W' : World} {T : Nat} {xs : List Ver} {hs bs : List Nat} (h : TblAt W T xs hs bs) (hb : Keep fp W W') (hf : ∀ k, SkB T bs k → fp k) : TblAt W' T xs hs bs := ⟨h.sk.keep hb hf, h.good⟩
theorem tbl_new (w : World) : Calls Try.prog 27 #[] w fun e w' => e = .returned (.pointer (some ⟨w.heap.size, 0, none⟩)) ∧ TblAt w' w.heap.size [] [] [] ∧ Below w.heap.size w w' :=
  (tnew_any w).mono fun _ _ ⟨h1, h2, h3⟩ => ⟨h1, ⟨h2, .nil⟩, h3⟩
theorem tbl_add (T : Nat) (xs : List Ver) (hs bs : List Nat) (v : Ver) (h : Int) (w : World) (hT : TblAt w T xs hs bs) (hx : xs.length ≤ 8796093022208) :
    Calls Try.prog 28 #[.pointer (some ⟨T, 0, none⟩), .agg #[.string v.key, .int .u64 (v.seq : Int), .bool v.del, .string v.val], .int .i64 h] w fun e w' =>
      e = .returned (.int .i64 (Pl.addT xs hs v h).2.2) ∧ (∃ bs', TblAt w' T (Pl.addT xs hs v h).1 (Pl.addT xs hs v h).2.1 bs' ∧ ∀ q, SkB T bs' q → SkB T bs q ∨ w.heap.size ≤ q) ∧ Keep (fun q => ¬ SkB T bs q) w w' := by
  have hkb : ∀ {w' : World}, Below w.heap.size w w' → TblAt w' T xs hs bs ∧ Keep (fun q => ¬ SkB T bs q) w w' := fun hb => ⟨hT.below hb, Keep.of_below hb (fun _ _ h => h)⟩
  by_cases hc : Pl.mayM v.key v.seq v.del v.val = false ∨ h < 1 ∨ 8 < h
  · have e : Pl.addT xs hs v h = (xs, hs, 1) := by unfold Pl.addT; rw [if_pos hc]
    rw [e]
    refine (add_bad T v h w hc).mono ?_
    rintro e w' ⟨rfl, hb⟩
    exact ⟨rfl, ⟨bs, (hkb hb).1, fun q h => .inl h⟩, (hkb hb).2⟩
  · have hm : Pl.mayM v.key v.seq v.del v.val = true := by
      cases hm : Pl.mayM v.key v.seq v.del v.val
      · exact absurd (.inl hm) hc
      · rfl
    have hA := Pl.ahead_less hT.good.ris v
    cases ht : Pl.thereV xs v
    · have e : Pl.addT xs hs v h = (Pl.ins xs (Pl.kOf xs v) v, Pl.ins hs (Pl.kOf xs v) h.toNat, 0) := by unfold Pl.addT; rw [if_neg hc, if_neg (by rw [ht]; exact Bool.false_ne_true)]
      rw [e]
      have hby := hT.good.bytes
      refine (add_ok T xs hs bs _ _ v h (Pl.kOf xs v) w hT.sk hA hT.good.lo hm (by omega) (by omega) (fun hk => Pl.there_no ht hk) (by omega) (by omega)).mono ?_
      rintro e w' ⟨rfl, b, h1, h2, h3, h4⟩
      refine ⟨rfl, ⟨Pl.ins bs (Pl.kOf xs v) b, ⟨?_, hT.good.ins hm (by omega) (by omega) (fun hk => Pl.there_no ht hk)⟩, fun q hq => ?_⟩, h4⟩
      · rw [Pl.bytesOf_ins, Pl.ins_length]
        have e1 : (xs.length : Int) + 1 = ((xs.length + 1 : Nat) : Int) := by omega
        have e2 : (Pl.bytesOf xs : Int) + ((v.key.size : Int) + (v.val.size : Int) + 16) = ((Pl.bytesOf xs + (v.key.size + v.val.size + 16) : Nat) : Int) := by omega
        rw [e1, e2] at h3
        exact h3
      · rcases hq with hq | hq
        · exact .inl (.inl hq)
        · rcases mem_ins.1 hq with hq | hq
          · right; omega
          · exact .inl (.inr hq)
    · have e : Pl.addT xs hs v h = (xs, hs, 7) := by unfold Pl.addT; rw [if_neg hc, if_pos ht]
      rw [e]
      obtain ⟨hk, hp⟩ := Pl.there_yes ht
      refine (add_there T xs hs bs _ _ v h (Pl.kOf xs v) w hT.sk hA hT.good.lo hm (by omega) (by omega) hk hp).mono ?_
      rintro e w' ⟨rfl, hb⟩
      exact ⟨rfl, ⟨bs, (hkb hb).1, fun q h => .inl h⟩, (hkb hb).2⟩

set_option maxRecDepth 100000 in
theorem tbl_len (T : Nat) (xs : List Ver) (hs bs : List Nat) (w : World) (hT : TblAt w T xs hs bs) :
    Calls Try.prog 31 #[.pointer (some ⟨T, 0, none⟩)] w fun e w' => e = .returned (.int .i64 (xs.length : Nat)) ∧ w' = w := by
  have c12 : w.cell? ⟨T, 12, none⟩ = some (.int .i64 (xs.length : Int)) := (cell_of hT.sk.head).trans rfl
  go_enter Try.func31, Try.ntmps31
  go_wp2
  go_ret
  exact ⟨rfl, rfl⟩
set_option maxRecDepth 100000 in
theorem tbl_bytes (T : Nat) (xs : List Ver) (hs bs : List Nat) (w : World) (hT : TblAt w T xs hs bs) :
    Calls Try.prog 34 #[.pointer (some ⟨T, 0, none⟩)] w fun e w' => e = .returned (.int .i64 (Pl.bytesOf xs : Nat)) ∧ w' = w := by
  have c13 : w.cell? ⟨T, 13, none⟩ = some (.int .i64 (Pl.bytesOf xs : Int)) := (cell_of hT.sk.head).trans rfl
  go_enter Try.func34, Try.ntmps34
  go_wp2
  go_ret
  exact ⟨rfl, rfl⟩

theorem seqF_of_R {F : Fence} {n : Nat} {P : Program} {g : Nat} {lb : Array Value} {encs : Ver → Array Value} {rfp mfp kfp : Nat → Prop} {Y : List Ver} {w : World} {N : Nat} (h : SeqR F n P g lb encs rfp mfp kfp (fun ys => ys = Y) (fun ys => ys <+: Y) w) (hr : ∀ q, rfp q → mfp q) (hN : Y.length ≤ N) :
    SeqF F n P g lb encs mfp kfp (fun ys => ys = Y) (fun ys => ys <+: Y) N w := by
  intro l J Jx W fp hkm hd hlt hJ hJx hY h0
  refine h l J Jx W fp (hkm.mono (fun q hq _ => hr q hq)) hd hlt hJ hJx (fun pre x fp1 W1 h1 h2 h3 => hY pre x fp1 W1 h1 h2 ?_) h0
  have := h3.length_le
  simp at this
  omega
/-- what a range over From tells -/
theorem tbl_from (T : Nat) (xs : List Ver) (hs bs : List Nat) (key : ByteArray) (most : Int) (w : World) (hT : TblAt w T xs hs bs) (hx : xs.length ≤ 2932031007316) :
    Calls Try.prog 29 #[.pointer (some ⟨T, 0, none⟩), .string key, .int .i64 most] w fun e w' =>
      ∃ v, e = .returned v ∧ w'.ownsRow w.heap.size 24 4 v (heads (xs.drop (Pl.bOf xs key)) most).length (vcells (heads (xs.drop (Pl.bOf xs key)) most)) ∧ Below w.heap.size w w' := by
  refine callsIn_wide.1 (from_in 6 (by omega) (some ⟨T, 0, none⟩) key most w (SkB T bs) (xs.drop (Pl.bOf xs key)) xs.length (fun k hk => hT.sk.lt hk) (by omega) (fun W b hk hb1 hb2 hbz => ?_))
  have hS := hT.sk.keep hk (fun _ h => h)
  have h := tfrom1_seqR 5 (by omega) b T xs hs bs _ _ key (Pl.bOf xs key) W (fun q => SkB T bs q ∨ q = b ∨ q = b + 1) hb1 hb2 hS (Pl.ahead_key hT.good.ris key) hT.good.lo (by omega) (by
    rintro q (h | h | h)
    · exact hS.lt h
    · have := hb1.lt; omega
    · have := hb2.lt; omega)
  have h2 := seqF_of_R h (fun q h => h) (N := xs.length) (by simp)
  intro l J Jx W' fp hkm hd hlt hJ hJx hY h0
  refine (h2 l J Jx W' fp hkm hd hlt hJ hJx hY h0).mono ?_
  rintro e w' ⟨h1, h2, h3⟩
  exact ⟨h1, h2.mono (fun q hq _ => .inl hq), h3⟩
end Go.Proofs.Ytcfcijgnkbmlaaa
