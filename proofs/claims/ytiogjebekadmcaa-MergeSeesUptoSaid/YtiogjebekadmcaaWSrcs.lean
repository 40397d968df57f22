
/- Laws: merge's sources together. Condition: rows whose bytes fit. -/
import Derived.Test.YtiogjebekadmcaaWSrc
import Derived.Test.YtiogjebekadmcaaIt
namespace Go.Proofs.Ytiogjebekadmcaa
open Go.RowKit Go.Shelf

/-- what lies in a source of which these versions are left, the first one at hand -/
def srcHead (d : Nat) (R : List Ver) : Array Value := match R with
  | [] => #[.func (.func 65) #[] #[.pointer (some ⟨d, 0, none⟩)], .string .empty, .int .u64 0, .bool false, .string .empty, .bool false]
  | x :: _ => #[.func (.func 65) #[] #[.pointer (some ⟨d, 0, none⟩)], .string x.key, .int .u64 (x.seq : Int), .bool x.del, .string x.val, .bool true]
/-- a block of versions between lo and hi -/
def DBlk (lo hi : Nat) (W : World) (b : Nat) : Prop := lo ≤ b ∧ b < hi ∧ ∃ cs z, W.heap[b]? = some (.cells cs 44 z)
/-- what is drawn from -/
def Rest (lo hi : Nat) (W : World) (d : Nat) (Q : List Ver) : Prop :=
  ∃ (ao : Option Addr) (cap : Nat), Boxed W d 22 (.slice ao Q.length cap) ∧ Q.length ≤ cap ∧ cap ≤ 9223372036854775807 ∧ (0 < Q.length → ∃ b off, ao = some ⟨b, off, none⟩ ∧ RowIn W b off Q ∧ DBlk lo hi W b)
def Src (lo hi : Nat) (W : World) (d : Nat) (R : List Ver) : Prop := lo ≤ d ∧ d + 1 < hi ∧ PBlk W (d + 1) (srcHead d R) ∧ Rest lo hi W d R.tail

theorem DBlk.kept {lo hi : Nat} {W W' : World} {b : Nat} (h : DBlk lo hi W b) (hb : W'.heap[b]? = W.heap[b]?) : DBlk lo hi W' b := by
  obtain ⟨h1, h2, cs, z, h3⟩ := h
  exact ⟨h1, h2, cs, z, hb.trans h3⟩
theorem Rest.kept {lo hi : Nat} {W W' : World} {d : Nat} {Q : List Ver} (h : Rest lo hi W d Q) (hs : W.heap.size ≤ W'.heap.size) (hd : W'.heap[d]? = W.heap[d]?) (hb : ∀ b, DBlk lo hi W b → W'.heap[b]? = W.heap[b]?) : Rest lo hi W' d Q := by
  obtain ⟨ao, cap, h1, h2, h3, h4⟩ := h
  refine ⟨ao, cap, hd.trans h1, h2, h3, fun h0 => ?_⟩
  obtain ⟨b, off, e, hr, hB⟩ := h4 h0
  exact ⟨b, off, e, hr.kept hs (hb b hB), hB.kept (hb b hB)⟩
theorem Src.kept {lo hi : Nat} {W W' : World} {d : Nat} {R : List Ver} (h : Src lo hi W d R) (hs : W.heap.size ≤ W'.heap.size) (hd : W'.heap[d]? = W.heap[d]?) (hp : W'.heap[d + 1]? = W.heap[d + 1]?) (hb : ∀ b, DBlk lo hi W b → W'.heap[b]? = W.heap[b]?) : Src lo hi W' d R := by
  obtain ⟨h1, h2, h3, h4⟩ := h
  exact ⟨h1, h2, hp.trans h3, h4.kept hs hd hb⟩
theorem DBlk.wider {lo hi hi' : Nat} {W : World} {b : Nat} (h : DBlk lo hi W b) (hh : hi ≤ hi') : DBlk lo hi' W b := ⟨h.1, Nat.lt_of_lt_of_le h.2.1 hh, h.2.2⟩
theorem Rest.wider {lo hi hi' : Nat} {W : World} {d : Nat} {Q : List Ver} (h : Rest lo hi W d Q) (hh : hi ≤ hi') : Rest lo hi' W d Q := by
  obtain ⟨ao, cap, h1, h2, h3, h4⟩ := h
  refine ⟨ao, cap, h1, h2, h3, fun h0 => ?_⟩
  obtain ⟨b, off, e, hr, hB⟩ := h4 h0
  exact ⟨b, off, e, hr, hB.wider hh⟩
theorem Src.wider {lo hi hi' : Nat} {W : World} {d : Nat} {R : List Ver} (h : Src lo hi W d R) (hh : hi ≤ hi') : Src lo hi' W d R := ⟨h.1, Nat.lt_of_lt_of_le h.2.1 hh, h.2.2.1, h.2.2.2.wider hh⟩

theorem row_tail {W : World} {b off : Nat} {x : Ver} {q : List Ver} (h : RowIn W b off (x :: q)) : RowIn W b (off + 4) q := ⟨h.1, fun i hi => by
  have := h.2 (i + 1) (by simp; omega)
  rw [show off + (i + 1) * 4 = off + 4 + i * 4 by omega] at this
  exact this⟩

theorem typed_ne {W : World} {b b' : Nat} {cs cs' : Array Value} {t t' : TypeId} {z z' : Nat × Nat} (h : W.heap[b]? = some (.cells cs t z)) (h' : W.heap[b']? = some (.cells cs' t' z')) (ht : t ≠ t') : b ≠ b' := by
  rintro rfl
  rw [h] at h'
  cases h'
  exact ht rfl

/-- one is drawn -/
theorem goes_any (lo hi d : Nat) (c1 c2 c3 c4 c5 : Value) (W : World) (Q : List Ver) (h1 : lo ≤ d) (h2 : d + 1 < hi) (hp : PBlk W (d + 1) #[.func (.func 65) #[] #[.pointer (some ⟨d, 0, none⟩)], c1, c2, c3, c4, c5]) (hr : Rest lo hi W d Q) :
    Calls Try.prog 47 #[.pointer (some ⟨d + 1, 0, none⟩)] W fun e w' => (∃ u, e = .returned u) ∧ Keep (fun k => k ≠ d + 1 ∧ k ≠ d) W w' ∧ Src lo hi w' d Q := by
  obtain ⟨ao, cap, hd, g1, g2, g3⟩ := hr
  cases Q with
  | nil =>
    refine (goes_none d (d + 1) c1 c2 c3 c4 c5 ao cap W hd hp).mono ?_
    rintro e w' ⟨he, hk, hp'⟩
    exact ⟨he, hk.mono (fun _ h _ => h.1), h1, h2, hp', ao, cap, hk.boxed (show d ≠ d + 1 by omega) hd, Nat.zero_le _, g2, fun h => by cases h⟩
  | cons x q =>
    obtain ⟨b, off, rfl, hrow, hB⟩ := g3 (by simp)
    refine (goes_some d (d + 1) c1 c2 c3 c4 c5 b off x q cap W (by omega) hd g1 g2 hrow hp).mono ?_
    rintro e w' ⟨he, hk, hp', off', cap', hd', k1, k2, k3⟩
    have hb1 : b ≠ d + 1 := by obtain ⟨_, _, cs, z, hh⟩ := hB; exact typed_ne hh hp (by decide)
    have hb2 : b ≠ d := by obtain ⟨_, _, cs, z, hh⟩ := hB; exact typed_ne hh hd (by decide)
    have hbb := hk.block b ⟨hb1, hb2⟩ hrow.1
    refine ⟨he, hk, h1, h2, hp', _, cap', hd', k1, k2, fun h0 => ⟨b, off', rfl, ?_, hB.kept hbb⟩⟩
    rw [k3 h0]
    exact (row_tail hrow).kept hk.size hbb

/-- all sources -/
structure Srcs (lo hi : Nat) (W : World) (ds : List Nat) (Rs : List (List Ver)) : Prop where
  len : ds.length = Rs.length
  src : ∀ i (h1 : i < ds.length) (h2 : i < Rs.length), Src lo hi W ds[i] Rs[i]
  inc : ∀ i j (h1 : i < ds.length) (h2 : j < ds.length), i < j → ds[i] + 1 < ds[j]
theorem Srcs.kept {lo hi : Nat} {W W' : World} {ds : List Nat} {Rs : List (List Ver)} {f : Nat → Prop} (h : Srcs lo hi W ds Rs) (hk : Keep f W W') (hf : ∀ k, lo ≤ k → k < hi → f k) (hh : hi ≤ W.heap.size) : Srcs lo hi W' ds Rs :=
  ⟨h.len, fun i h1 h2 => by
    have hs := h.src i h1 h2
    exact hs.kept hk.size (hk.block _ (hf _ hs.1 (by have := hs.2.1; omega)) (by have := hs.2.1; omega)) (hk.block _ (hf _ (by have := hs.1; omega) hs.2.1) (by have := hs.2.1; omega)) (fun b hB => hk.block _ (hf _ hB.1 hB.2.1) (by have := hB.2.1; omega)), h.inc⟩
theorem Srcs.wider {lo hi hi' : Nat} {W : World} {ds : List Nat} {Rs : List (List Ver)} (h : Srcs lo hi W ds Rs) (hh : hi ≤ hi') : Srcs lo hi' W ds Rs := ⟨h.len, fun i h1 h2 => (h.src i h1 h2).wider hh, h.inc⟩
/-- one source has gone on -/
theorem Srcs.goes {lo hi : Nat} {W W' : World} {ds : List Nat} {Rs : List (List Ver)} (h : Srcs lo hi W ds Rs) (hh : hi ≤ W.heap.size) (i : Nat) (h1 : i < ds.length) (h2 : i < Rs.length) (hk : Keep (fun k => k ≠ ds[i] + 1 ∧ k ≠ ds[i]) W W') (hs : Src lo hi W' ds[i] Rs[i].tail) : Srcs lo hi W' ds (Rs.set i Rs[i].tail) := by
  have ho := h.src i h1 h2
  obtain ⟨_, _, hp, ao, cap, hd, _⟩ := ho
  refine ⟨by rw [List.length_set]; exact h.len, fun j g1 g2 => ?_, h.inc⟩
  by_cases e : j = i
  · subst e
    rw [List.getElem_set_self]
    exact hs
  · rw [List.getElem_set_ne (by omega)]
    have g2' : j < Rs.length := by rw [List.length_set] at g2; exact g2
    have hj := h.src j g1 g2'
    have hne : ds[j] ≠ ds[i] + 1 ∧ ds[j] ≠ ds[i] ∧ ds[j] + 1 ≠ ds[i] := by
      rcases Nat.lt_or_ge j i with q | q
      · have := h.inc j i g1 h1 q; omega
      · have := h.inc i j h1 g1 (by omega); omega
    have hj2 := hj.2.1
    refine hj.kept hk.size (hk.block _ ⟨hne.1, hne.2.1⟩ (by omega)) (hk.block _ ⟨by omega, hne.2.2⟩ (by omega)) (fun b hB => hk.block _ ?_ (by have := hB.2.1; omega))
    obtain ⟨_, _, cs, z, hb⟩ := hB
    exact ⟨typed_ne hb hp (by decide), typed_ne hb hd (by decide)⟩

/-- pointers to sources -/
def ptrs (ds : List Nat) : List Value := ds.map fun d => .pointer (some ⟨d + 1, 0, none⟩)
theorem ptrs_length (ds : List Nat) : (ptrs ds).length = ds.length := by simp [ptrs]
theorem ptrs_snoc (ds : List Nat) (d : Nat) : ptrs (ds ++ [d]) = ptrs ds ++ [.pointer (some ⟨d + 1, 0, none⟩)] := by simp [ptrs]
def AllAt (lo hi : Nat) (W : World) (v : Value) (ds : List Nat) : Prop :=
  ∃ (ao : Option Addr) (cap : Nat), v = .slice ao ds.length cap ∧ ds.length ≤ 9223372036854775807 ∧ (0 < ds.length → ∃ b, ao = some ⟨b, 0, none⟩ ∧ lo ≤ b ∧ b < hi ∧ b < W.heap.size ∧ (∃ cs z, W.heap[b]? = some (.cells cs 83 z)) ∧ ∀ i (h : i < ds.length), W.cell? ⟨b, i, none⟩ = some (.pointer (some ⟨ds[i] + 1, 0, none⟩)))
theorem AllAt.kept {lo hi : Nat} {W W' : World} {v : Value} {ds : List Nat} (h : AllAt lo hi W v ds) (hs : W.heap.size ≤ W'.heap.size) (hb : ∀ b, lo ≤ b → b < hi → (∃ cs z, W.heap[b]? = some (.cells cs 83 z)) → W'.heap[b]? = W.heap[b]?) : AllAt lo hi W' v ds := by
  obtain ⟨ao, cap, rfl, h1, h⟩ := h
  refine ⟨ao, cap, rfl, h1, fun h0 => ?_⟩
  obtain ⟨b, rfl, g1, g2, g3, g4, g5⟩ := h h0
  have e := hb b g1 g2 g4
  refine ⟨b, rfl, g1, g2, by omega, by rw [e]; exact g4, fun i hi => (World.cell?_of_block (a := ⟨b, i, none⟩) e).trans (g5 i hi)⟩
theorem all_own {lo : Nat} {W : World} {v : Value} {ds : List Nat} (h : W.ownsRow lo 83 1 v ds.length (ptrs ds)) (hl : ds.length ≤ 9223372036854775807) : AllAt lo W.heap.size W v ds := by
  have h' := h
  rcases h.2 with ⟨rfl, h0⟩ | ⟨g, cap, cur, rfl, h1, h2, h3, h4, _⟩
  · exact ⟨none, 0, by rw [h0], hl, fun h => by omega⟩
  · have hg := (Array.getElem?_eq_some_iff.1 h2).1
    refine ⟨_, cap, rfl, hl, fun _ => ⟨g, rfl, h1, hg, hg, ⟨_, _, h2⟩, fun i hi => ?_⟩⟩
    rw [h'.cellAt i (by omega)]
    simp [ptrs, hi]
end Go.Proofs.Ytiogjebekadmcaa
