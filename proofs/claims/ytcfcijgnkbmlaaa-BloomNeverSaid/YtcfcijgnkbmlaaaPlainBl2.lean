/- Plain law: filters: what is asked of them. Condition: none. -/
import Derived.Test.YtcfcijgnkbmlaaaPlainBl
import Derived.Laws.BitsAllLaws
import Derived.Lib.BitFns
namespace Go.Proofs.Ytcfcijgnkbmlaaa.Pl

/-- as long, and all bits of the one are in the other one -/
def Sub (a b : List UInt8) : Prop := a.length = b.length ∧ ∀ i (h : i < a.length) (h' : i < b.length), a[i] ||| b[i] = b[i]
theorem Sub.refl (b : List UInt8) : Sub b b := ⟨rfl, fun _ _ _ => UInt8.or_self⟩
theorem Sub.trans {a b c : List UInt8} (h : Sub a b) (g : Sub b c) : Sub a c := ⟨h.1.trans g.1, fun i hi hi' => by
  have hb : i < b.length := by rw [← h.1]; exact hi
  rw [← g.2 i hb hi', ← UInt8.or_assoc, h.2 i hi hb]⟩
theorem sub_setBit (b : List UInt8) (i : Nat) : Sub b (setBit b i) := ⟨(setBit_length b i).symm, fun j h h' => by
  have e : (setBit b i)[j] = if 1 + i / 8 = j then (b[1 + i / 8]?).getD 0 ||| UInt8.ofNat (2 ^ (i % 8)) else b[j] := List.getElem_set (by simpa [setBit] using h')
  rw [e]
  split
  · rename_i e
    subst e
    rw [List.getElem?_eq_getElem h, Option.getD_some, ← UInt8.or_assoc, UInt8.or_self]
  · exact UInt8.or_self⟩
theorem sub_setBits (l : List Nat) : ∀ b : List UInt8, Sub b (setBits b l) := by
  induction l with
  | nil => exact fun b => Sub.refl b
  | cons i l ih => exact fun b => (sub_setBit b i).trans (ih _)
theorem sub_fold (k q : Nat) (keys : List (List UInt8)) : ∀ b : List UInt8, Sub b (keys.foldl (fun b key => setBits b (keyPlaces key k (8 * q))) b) := by
  induction keys with
  | nil => exact fun b => Sub.refl b
  | cons i l ih => exact fun b => (sub_setBits _ b).trans (ih _)
theorem sub_withPlaces (k q : Nat) (keys : List (List UInt8)) (n : Nat) : Sub (withPlaces k q (keys.take n)) (withPlaces k q keys) := by
  have h : withPlaces k q keys = (keys.drop n).foldl (fun b key => setBits b (keyPlaces key k (8 * q))) (withPlaces k q (keys.take n)) := by
    unfold withPlaces
    rw [← List.foldl_append, List.take_append_drop]
  rw [h]
  exact sub_fold k q _ _
theorem andNot_sub (x y : UInt8) (h : x ||| y = y) : bits .andNot .u8 (x.toNat : Int) (y.toNat : Int) = 0 := by
  have hx := x.toNat_lt
  have hy := y.toNat_lt
  have e : ∀ z : UInt8, BitVec.ofInt 8 (z.toNat : Int) = z.toBitVec := fun z => by
    apply BitVec.eq_of_toNat_eq
    rw [ofInt_u8 _ z.toNat_lt]; rfl
  show IntKind.u8.wrap ((BitVec.ofInt 8 (x.toNat : Int) &&& ~~~BitVec.ofInt 8 (y.toNat : Int)).toNat : Int) = 0
  rw [e, e, ← h]
  have h0 : x.toBitVec &&& ~~~(x ||| y).toBitVec = 0 := by
    rw [UInt8.toBitVec_or]
    apply BitVec.eq_of_getLsbD_eq
    intro i hi
    simp [hi]
    intro h1 h2
    rw [h1] at h2
    exact absurd h2 (by simp)
  rw [h0]
  rfl
/-- of as many bits: the filter of the first keys is in the one of all -/
theorem build_sub (each : Int) (keys : List (List UInt8)) (n : Nat) (hl : (build each (keys.take n)).length = (build each keys).length) (hn : build each (keys.take n) ≠ []) : Sub (build each (keys.take n)) (build each keys) := by
  unfold build at hl hn ⊢
  by_cases h1 : each < 1 ∨ keys.take n = []
  · rw [if_pos h1] at hn; exact absurd rfl hn
  · rw [if_neg h1] at hl hn ⊢
    by_cases h2 : each < 1 ∨ keys = []
    · rcases h2 with h2 | h2
      · exact absurd (.inl h2) h1
      · exact absurd (.inr (by rw [h2]; simp)) h1
    · rw [if_neg h2] at hl ⊢
      rw [withKeys_length, withKeys_length] at hl
      rw [← withPlaces_eq, ← withPlaces_eq]
      rw [show manyBytes each.toNat (keys.take n).length = manyBytes each.toNat keys.length from by omega]
      exact sub_withPlaces _ _ keys n
theorem build_head (each : Int) (keys : List (List UInt8)) (h : build each keys ≠ []) : (build each keys)[0]? = some (UInt8.ofNat (manyPlaces each.toNat)) := by
  unfold build at h ⊢
  by_cases h1 : each < 1 ∨ keys = []
  · rw [if_pos h1] at h; exact absurd rfl h
  · rw [if_neg h1, withKeys_head]

/-- how many of the first bits are set -/
def cnt (b : List UInt8) : Nat → Nat
  | 0 => 0
  | m + 1 => cnt b m + (hasBit b m).toNat
theorem cnt_le (b : List UInt8) : ∀ m, cnt b m ≤ m
  | 0 => Nat.le_refl _
  | m + 1 => by have := cnt_le b m; unfold cnt; have : (hasBit b m).toNat ≤ 1 := by cases hasBit b m <;> simp
                omega
theorem cnt_pos (b : List UInt8) {j : Nat} (hj : hasBit b j = true) : ∀ m, j < m → 1 ≤ cnt b m
  | 0, h => by omega
  | m + 1, h => by
    unfold cnt
    by_cases e : j = m
    · subst e; rw [hj]; simp
    · have := cnt_pos b hj m (by omega); omega
theorem ones8 : ∀ x : Fin 256, Lib.onesCount x.val = (x.val.testBit 0).toNat + (x.val.testBit 1).toNat + (x.val.testBit 2).toNat + (x.val.testBit 3).toNat + (x.val.testBit 4).toNat + (x.val.testBit 5).toNat + (x.val.testBit 6).toNat + (x.val.testBit 7).toNat := by decide +kernel
theorem hasBit_byte (b : List UInt8) (k r : Nat) (hr : r < 8) (h : 1 + k < b.length) : hasBit b (8 * k + r) = (b[1 + k]).toNat.testBit r := by
  unfold hasBit
  rw [show 1 + (8 * k + r) / 8 = 1 + k from by omega, show (8 * k + r) % 8 = r from by omega, List.getElem?_eq_getElem h, Option.getD_some]
theorem cnt_byte (b : List UInt8) (k : Nat) (h : 1 + k < b.length) : cnt b (8 * (k + 1)) = cnt b (8 * k) + Lib.onesCount (b[1 + k]).toNat := by
  have e := ones8 ⟨(b[1 + k]).toNat, UInt8.toNat_lt _⟩
  simp only at e
  rw [e]
  show cnt b (8 * k + 8) = _
  simp only [cnt]
  have e0 := hasBit_byte b k 0 (by omega) h
  rw [Nat.add_zero] at e0
  rw [e0, hasBit_byte b k 1 (by omega) h, hasBit_byte b k 2 (by omega) h, hasBit_byte b k 3 (by omega) h, hasBit_byte b k 4 (by omega) h, hasBit_byte b k 5 (by omega) h, hasBit_byte b k 6 (by omega) h, hasBit_byte b k 7 (by omega) h]
  omega

/-- is it a filter? -/
def valid (b : List UInt8) : Bool := b.isEmpty || (decide (9 ≤ b.length) && decide (1 ≤ (b[0]?.getD 0).toNat) && decide ((b[0]?.getD 0).toNat ≤ 30))
def has (b key : List UInt8) : Bool := !(valid b) || b.isEmpty || (keyPlaces key (b[0]?.getD 0).toNat (8 * (b.length - 1))).all (hasBit b)
def load (b : List UInt8) : Nat × Nat := if valid b = false ∨ b = [] then (0, 0) else (cnt b (8 * (b.length - 1)), 8 * (b.length - 1))
theorem build_len (each : Int) (keys : List (List UInt8)) (h : build each keys ≠ []) : (build each keys).length = 1 + manyBytes each.toNat keys.length := by
  unfold build at h ⊢
  by_cases h1 : each < 1 ∨ keys = []
  · rw [if_pos h1] at h; exact absurd rfl h
  · rw [if_neg h1, withKeys_length]
theorem build_bound (each : Int) (keys : List (List UInt8)) (n : Nat) (h : keys.length ≤ n) : (build each keys).length ≤ 3 * n + 9 := by
  by_cases h0 : build each keys = []
  · rw [h0]; simp
  · rw [build_len each keys h0]
    unfold manyBytes
    have : min each.toNat 20 * keys.length ≤ 20 * n := Nat.mul_le_mul (by omega) h
    omega
theorem build_valid (each : Int) (keys : List (List UInt8)) : valid (build each keys) = true := by
  unfold valid
  by_cases h : build each keys = []
  · rw [h]; rfl
  · have hb := manyPlaces_bd each.toNat
    have hm := manyBytes_pos each.toNat keys.length
    rw [build_head each keys h, build_len each keys h, Option.getD_some, UInt8.toNat_ofNat', Nat.mod_eq_of_lt (show manyPlaces each.toNat < 2 ^ 8 by omega)]
    simp only [Bool.or_eq_true, Bool.and_eq_true, decide_eq_true_eq]
    right; omega
theorem build_has (each : Int) (keys : List (List UInt8)) (key : List UInt8) (hk : key ∈ keys) : has (build each keys) key = true := by
  unfold has
  by_cases h : build each keys = []
  · rw [h]; rfl
  · have hb := manyPlaces_bd each.toNat
    have hm := manyBytes_pos each.toNat keys.length
    rw [build_head each keys h, build_len each keys h, Option.getD_some, UInt8.toNat_ofNat', Nat.mod_eq_of_lt (show manyPlaces each.toNat < 2 ^ 8 by omega)]
    simp only [Bool.or_eq_true, List.all_eq_true]
    right
    intro j hj
    rw [Nat.add_sub_cancel_left] at hj
    unfold build at h ⊢
    by_cases h1 : each < 1 ∨ keys = []
    · rw [if_pos h1] at h; exact absurd rfl h
    · rw [if_neg h1]
      exact (hasBit_withKeys _ _ _ _).2 ⟨key, hk, hj⟩
theorem build_nil_iff (each : Int) (keys : List (List UInt8)) (hk : keys ≠ []) : build each keys = [] ↔ each < 1 := by
  unfold build
  by_cases h1 : each < 1 ∨ keys = []
  · rw [if_pos h1]
    rcases h1 with h | h
    · exact ⟨fun _ => h, fun _ => rfl⟩
    · exact absurd h hk
  · rw [if_neg h1]
    constructor
    · intro h
      have := congrArg List.length h
      rw [withKeys_length] at this
      simp at this
    · intro h; exact absurd (.inl h) h1
theorem build_load (each : Int) (keys : List (List UInt8)) (h : build each keys ≠ []) (hk : keys ≠ []) : 1 ≤ (load (build each keys)).1 := by
  unfold load
  rw [if_neg (by rintro (h' | h'); rw [build_valid] at h'; cases h'; exact h h')]
  show 1 ≤ cnt _ _
  have hm := manyBytes_pos each.toNat keys.length
  have hb := manyPlaces_bd each.toNat
  obtain ⟨key, rest, rfl⟩ := List.exists_cons_of_ne_nil hk
  obtain ⟨m, hq⟩ : ∃ m, manyPlaces each.toNat = m + 1 := ⟨manyPlaces each.toNat - 1, by omega⟩
  have hmem : Pl.hash key % (8 * manyBytes each.toNat (key :: rest).length) ∈ keyPlaces key (manyPlaces each.toNat) (8 * manyBytes each.toNat (key :: rest).length) := by
    unfold keyPlaces
    rw [hq]
    simp [places]
  refine cnt_pos _ (j := Pl.hash key % (8 * manyBytes each.toNat (key :: rest).length)) ?_ _ ?_
  · have hne := h
    unfold build at h ⊢
    by_cases h1 : each < 1 ∨ key :: rest = []
    · rw [if_pos h1] at h; exact absurd rfl h
    · rw [if_neg h1]
      exact (hasBit_withKeys _ _ _ _).2 ⟨key, by simp, hmem⟩
  · rw [build_len each _ h, Nat.add_sub_cancel_left]
    exact Nat.mod_lt _ (by omega)
theorem load_le (b : List UInt8) : (load b).1 ≤ (load b).2 := by
  unfold load
  split
  · exact Nat.le_refl _
  · exact cnt_le _ _
end Go.Proofs.Ytcfcijgnkbmlaaa.Pl
