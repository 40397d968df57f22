
/- Plain law: what one group of a row gives. Condition: none. -/
import Derived.Test.YtiogjebekadmcaaPlainMg
namespace Go.Proofs.Ytiogjebekadmcaa.Pl

variable {lo : ByteArray} {sq : Nat} {L : List Ver} {a b : Nat}

theorem seg_key (hab : a < b) (hb : b ≤ L.length) (hin : ∀ j, a < j → j < b → ¬ isStart L j) {i : Nat} (h1 : a ≤ i) (h2 : i < b) : (L[i]'(by omega)).key.toList = (L[a]'(by omega)).key.toList := by
  have := group_one hab hb hin
  refine this _ ?_
  have h := seg_split L h1 h2 hb
  rw [h]; simp
theorem group_end (hab : a < b) (hb : b ≤ L.length) (hs : isStart L a) (hin : ∀ j, a < j → j < b → ¬ isStart L j) (hq : ∀ q (h : q < L.length), a ≤ q → q < b → sq < L[q].seq) :
    prun lo sq s0 (L.take b) = prun lo sq s0 (L.take a) := by
  rw [take_seg L (Nat.le_of_lt hab), prun_append]
  rw [(run_late (lo := lo) (seg L a b) (group_one hab hb hin) (fun v hv => ?_) _ (start_open (by omega) hs)).1, List.append_nil]
  obtain ⟨i, hi, rfl⟩ := List.getElem_of_mem hv
  rw [seg_get L hb hi]
  rw [seg_length L hb] at hi
  exact hq _ _ (by omega) (by omega)
theorem group_low (hab : a < b) (hb : b ≤ L.length) (hin : ∀ j, a < j → j < b → ¬ isStart L j) {i : Nat} (h1 : a ≤ i) (h2 : i < b) (hlo : Op.bytesLess (L[i]'(by omega)).key.toList lo.toList = true) :
    prun lo sq s0 (L.take b) = prun lo sq s0 (L.take a) := by
  rw [take_seg L (Nat.le_of_lt hab), prun_append]
  rw [run_low (seg L a b) (group_one hab hb hin) (by rw [← seg_key hab hb hin h1 h2]; exact hlo), List.append_nil]
theorem group_found (hab : a < b) (hb : b ≤ L.length) (hs : isStart L a) (hin : ∀ j, a < j → j < b → ¬ isStart L j) {i : Nat} (h1 : a ≤ i) (h2 : i < b) (hlo : Op.bytesLess (L[i]'(by omega)).key.toList lo.toList = false)
    (hq : ∀ q (h : q < L.length), a ≤ q → q < i → sq < L[q].seq) (hx : (L[i]'(by omega)).seq ≤ sq) :
    prun lo sq s0 (L.take b) = prun lo sq s0 (L.take a) ++ (if (L[i]'(by omega)).del then [] else [((L[i]'(by omega)).key, (L[i]'(by omega)).val)]) := by
  rw [take_seg L (Nat.le_of_lt hab), prun_append]
  have ho := group_one hab hb hin
  have hsp := seg_split L h1 h2 hb
  rw [hsp] at ho ⊢
  rw [run_found (lo := lo) (seg L a i) (seg L (i + 1) b) _ ho (by rw [← seg_key hab hb hin h1 h2]; exact hlo) (fun v hv => ?_) hx _ (start_open (by omega) hs)]
  obtain ⟨q, hq2, rfl⟩ := List.getElem_of_mem hv
  rw [seg_get L (by omega) hq2]
  rw [seg_length L (by omega)] at hq2
  exact hq _ _ (by omega) (by omega)
end Go.Proofs.Ytiogjebekadmcaa.Pl
