/- Tables of calls, proved by one reckoning of the kernel. -/
import Derived.Test.YtifpmcejajfagaaGreatEv21
set_option linter.all false
namespace Go.Ev
variable (P : Program) (X : Xt)

/-- each entry of a table, run in the empty store -/
def memoAll (S : Sums) (L d : Nat) (f : FuncId) : List (List V × V) → Prop
  | [] => V.bo true = V.bo true
  | (a, c) :: l => (fnF P X S L d f a s0 fun v _ => V.bo (leV c v) = .bo true) ∧ memoAll S L d f l
def flatAll (tab : List (List V × V)) : Bool := tab.all fun x => x.1.all V.flat && x.2.flat
def Sh.row : Nat → Sh
  | 0 => .l
  | k + 1 => .n .l (Sh.row k)
open Go.RowKit
variable {P X}
theorem memo_of [Env] (hmx : P.follows .mixedOrders = true) (hX : XOk P X) {S : Sums} (hS : SumsOk P S) {L d : Nat} {f : FuncId} : ∀ {tab : List (List V × V)}, memoAll P X S L d f tab → flatAll tab = true → MemoOk P f tab
  | [], _, _ => fun a c hm => (List.not_mem_nil hm).elim
  | (a, c) :: l, h, hf => fun a' c' hm => by
    simp only [memoAll] at h
    simp only [flatAll, List.all_cons, Bool.and_eq_true] at hf
    rcases List.mem_cons.1 hm with e | hm
    · cases e
      refine ⟨?_, hf.1.1, hf.1.2⟩
      have := fn_sound hX hS (fun call hcall => draw_ok hmx hX hcall) d f a s0 _ (fnF_ev P X h.1)
      intro m w args' hargs hS'
      refine (this m w args' hargs hS').mono ?_
      rintro e w' ⟨v, r, m', σ', hv, rest⟩
      exact ⟨v, r, m', σ', (by simpa using hv), rest⟩
    · exact memo_of hmx hX hS (tab := l) h.2 (by simp only [flatAll]; exact hf.2) a' c' hm
/-- a law's walk, from the run of all its paths -/
theorem law_run [Env] (hmx : P.follows .mixedOrders = true) (hX : XOk P X) {S : Sums} (hS : SumsOk P S) {L d : Nat} {f : FuncId} {args : List V} {args' : Array Value} (hargs : VRs m0 args args'.toList)
    {Γ : Facts} (hΓ : Γ.Holds) {sh : Sh} (h : fnF P X S L d f args (sOf Γ) (fun v _ => v = .bo true) = sh.says) (W : World) :
    Calls P f args' W fun e w' => e = .returned (.bool true) ∧ Below W.heap.size W w' :=
  law_calls_at hmx hX hS hargs hΓ (fnF_ev P X (Eq.mpr h (Sh.ok sh))) W
/-- one more summary -/
def Sums.and (S : Sums) (f : FuncId) (T : List V → Store → (V → Store → Prop) → Prop) : Sums := fun g => bif Nat.beq g f then some T else S g
theorem SumsOk.and [Env] {S : Sums} (h : SumsOk P S) {f : FuncId} {T : List V → Store → (V → Store → Prop) → Prop} (hT : ∀ args σ K, T args σ K → SemCall P f args σ K) : SumsOk P (S.and f T) := by
  intro g T' hg args σ K hk
  unfold Sums.and at hg
  cases hb : Nat.beq g f with
  | true =>
    rw [hb] at hg
    rw [nbeq, decide_eq_true_eq] at hb
    subst hb
    cases hg
    exact hT args σ K hk
  | false => rw [hb] at hg; exact h g T' hg args σ K hk
theorem SumsOk.memo [Env] {S : Sums} (h : SumsOk P S) {f : FuncId} {tab : List (List V × V)} (hT : MemoOk P f tab) : SumsOk P (S.and f (memoT tab)) :=
  h.and fun args σ K hk => memo_sound hT hk
end Go.Ev
