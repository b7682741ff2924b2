/- From the evaluator to a law's walk. -/
import Derived.Test.YtifpmcejajfagaaGreatEv15
import Derived.Below
set_option linter.all false
namespace Go.Ev
variable [Env]
open Go.RowKit
variable {P : Program}

def m0 : M := fun _ => none
/-- nothing there, but for what is known of the numbers known by a name -/
def sOf (Γ : Facts) : Store := ⟨0, .e, Γ⟩
def s0 : Store := sOf ⟨[], []⟩
theorem blk_sOf (Γ : Facts) (b : Nat) : (sOf Γ).blk b = none := by simp [sOf, Store.blk, T.get]
theorem one_sOf (Γ : Facts) (b : Nat) : (sOf Γ).one b = none := by simp [sOf, Store.one, T.get]
theorem sim_sOf {Γ : Facts} (hΓ : Γ.Holds) (W : World) : Sim m0 (sOf Γ) W :=
  { dom := fun b r h => by cases h
    obj := fun b k h => by rw [blk_sOf] at h; cases h
    inj := fun b b' k k' r r' h => by rw [blk_sOf] at h; cases h
    one := fun b x h => by rw [one_sOf] at h; cases h
    oinj := fun b b' x x' r r' h => by rw [one_sOf] at h; cases h
    fact := hΓ }
theorem holds_nil : (Facts.mk [] []).Holds := ⟨fun _ _ h => (List.not_mem_nil h).elim, fun _ _ _ h => (List.not_mem_nil h).elim⟩
theorem blk_s0 (b : Nat) : s0.blk b = none := blk_sOf _ b
theorem one_s0 (b : Nat) : s0.one b = none := one_sOf _ b
theorem sim_s0 (W : World) : Sim m0 s0 W := sim_sOf holds_nil W
theorem below_of_keep {W w' : World} {m' : M} {σ σ' : Store} (h : Keep m0 σ W m' σ' w') : Below W.heap.size W w' :=
  ⟨h.os, h.tape, h.output, h.size, fun k hk => h.heap k hk fun ⟨b, q, hm, hq, _⟩ => by cases hq⟩
theorem law_calls_at (hmx : P.follows .mixedOrders = true) {X : Xt} (hX : XOk P X) {S : Sums} (hS : SumsOk P S) {L d : Nat} {f : FuncId} {args : List V} {args' : Array Value} (hargs : VRs m0 args args'.toList)
    {Γ : Facts} (hΓ : Γ.Holds) (h : evFn P X S L d f args (sOf Γ) fun v _ => v = .bo true) (W : World) : Calls P f args' W fun e w' => e = .returned (.bool true) ∧ Below W.heap.size W w' := by
  refine (fn_sound hX hS (fun call hcall => draw_ok hmx hX hcall) d f args (sOf Γ) _ h m0 W args' hargs (sim_sOf hΓ W)).mono ?_
  rintro e w' ⟨v, r, m', σ', rfl, rfl, hv, _, hk⟩
  simp only [VR] at hv
  subst hv
  exact ⟨rfl, below_of_keep hk⟩
theorem law_calls (hmx : P.follows .mixedOrders = true) {X : Xt} (hX : XOk P X) {S : Sums} (hS : SumsOk P S) {L d : Nat} {f : FuncId} {args : List V} {args' : Array Value} (hargs : VRs m0 args args'.toList)
    (h : evFn P X S L d f args s0 fun v _ => v = .bo true) (W : World) : Calls P f args' W fun e w' => e = .returned (.bool true) ∧ Below W.heap.size W w' :=
  law_calls_at hmx hX hS hargs holds_nil h W
def noX : Xt := fun _ _ _ => none
def noS : Sums := fun _ => none
theorem noX_ok : XOk P noX := fun f args σ rs h => by cases h
theorem noS_ok : SumsOk P noS := fun f T h => by cases h

inductive Sh where
  | l
  | n (a b : Sh)
def Sh.says : Sh → Prop
  | .l => V.bo true = V.bo true
  | .n a b => a.says ∧ b.says
theorem Sh.ok : ∀ s : Sh, s.says
  | .l => rfl
  | .n a b => ⟨Sh.ok a, Sh.ok b⟩
end Go.Ev
