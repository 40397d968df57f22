
/- Regions in a round of a range over a function: what is shown of them outside serves inside. Condition: none. -/
import Derived.Test.YtogblcdefbnbeaaGreatQGu
import Derived.StillTailTactics
set_option maxRecDepth 100000
namespace Go.Proofs.YtogblcdefbnbeaaGreat
section
open Go.RowKit Go.Shelf
def noDefer (ops : Array Oper) : Bool := ops.all fun o => match o.op with | .defer _ => false | _ => true
theorem noDefer_at {ops : Array Oper} (h : noDefer ops = true) {i : Nat} {o : Oper} (ho : ops[i]? = some o) : ∀ c, o.op ≠ .defer c := by
 intro c hc
 have := Array.all_eq_true'.1 h o (Array.mem_of_getElem? ho)
 rw [hc] at this
 cases this
variable {P : Program} {ops : Array Oper} {md : Region.Mode} {Q : Exit → Act → World → Prop} {l n : Nat}
theorem uponIn_of_upon {o : Oper} {a : Act} {next : Act → World → Prop} {r : Result Next} (h : o.upon P a next Q r) : o.uponIn (Fence.wide.inRound l) n P a next Q r := by
 have hd : (Fence.wide.inRound l).depth.isSome = true → 1 ≤ n := fun hd => by cases hd
 cases r with
 | ok nx w' =>
  cases nx with
  | value v => exact h
  | skip => exact h
  | defer d => exact h
  | enter f args => exact ⟨hd, (callsIn_wide (n := n - 1)).2 h⟩
  | row r args => exact ⟨hd, fun c cs _ => let ⟨v, w2, hr, hs⟩ := h c cs; ⟨v, w2, hr, stepsIn_wide.2 hs⟩⟩
  | _ => exact h.elim
 | halt hh w' => cases hh <;> exact h
theorem wpOpIn_of_wpOp (hQ : ¬ LetsOut Q) (hnd : noDefer ops = true) {i : Nat} {K K' : Act → World → Prop} (hK : ∀ a w, K a w → K' a w) {a : Act} {w : World} (h : wpOp P ops Q i K a w) : wpOpIn (Fence.wide.inRound l) n P ops Q i K' a w := by
 unfold wpOp at h
 unfold wpOpIn
 cases ho : ops[i]? with
 | none => rw [ho] at h; exact hK _ _ h
 | some o =>
  rw [ho] at h
  simp only at h ⊢
  split at h
  ·rename_i hw
   rw [if_pos hw]
   rcases h with h | ⟨_, h⟩
   ·refine ⟨fun _ _ => trivial, ?_⟩
    rw [show o.semAt (Fence.wide.inRound l).round a.eval = execOp a.eval o from Oper.semAt_some l _ _ (noDefer_at hnd ho)]
    exact uponIn_of_upon (Oper.wp_mono hK h)
   ·exact absurd h hQ
  ·rename_i hw
   rw [if_neg hw]
   exact ⟨fun _ _ => trivial, hK _ _ h⟩
theorem wpAnyIn_of_wpAny (hQ : ¬ LetsOut Q) (hnd : noDefer ops = true) : ∀ (fuel : Nat) (listed : Array Bool) (a : Act) (w : World), wpAny P md ops Q fuel listed a w → wpAnyIn (Fence.wide.inRound l) n P md ops Q fuel listed a w
 | 0, _, _, _, h => h
 | fuel + 1, _, _, _, h => ⟨h.1, fun i hi => wpOpIn_of_wpOp hQ hnd (fun a w h => wpAnyIn_of_wpAny hQ hnd fuel _ a w h) (h.2 i hi)⟩
end
end Go.Proofs.YtogblcdefbnbeaaGreat
