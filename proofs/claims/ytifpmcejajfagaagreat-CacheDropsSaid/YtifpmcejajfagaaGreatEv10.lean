/- Functions. -/
import Derived.Test.YtifpmcejajfagaaGreatEv9
set_option linter.all false
namespace Go.Ev
variable [Env]
variable {P : Program}

theorem argFr_get : ∀ (l : List V) (i : Nat) (t : W V) (k : Nat), (argFr l i t).get k = if i ≤ k ∧ k < i + l.length then l[k - i]? else t.get k
  | [], i, t, k => by simp only [argFr, List.length_nil]; rw [if_neg (by omega)]
  | v :: l, i, t, k => by
    simp only [argFr, List.length_cons]
    rw [argFr_get l (i + 1), W.get_put]
    by_cases h1 : i + 1 ≤ k ∧ k < i + 1 + l.length
    · rw [if_pos h1, if_pos (by omega), show k - i = (k - (i + 1)) + 1 by omega]; simp
    · rw [if_neg h1]
      by_cases h2 : k = i
      · subst h2; rw [if_pos rfl, if_pos (by omega)]; simp
      · rw [if_neg h2, if_neg (by omega)]

theorem VRs.getElem {m : M} : ∀ {l : List V} {l' : List Value}, VRs m l l' → ∀ (j : Nat) (v : V), l[j]? = some v → ∃ w, l'[j]? = some w ∧ VR m v w
  | [], _, _, j, v, hj => by simp at hj
  | _ :: _, [], h, _, _, _ => h.elim
  | x :: l, y :: l', h, 0, v, hj => by simp at hj; subst hj; exact ⟨y, rfl, h.1⟩
  | x :: l, y :: l', h, j + 1, v, hj => by simpa using VRs.getElem h.2 j v (by simpa using hj)

theorem args_FrR {m : M} {args : List V} {args' : Array Value} (h : VRs m args args'.toList) {nt : Nat} (hn : args.length ≤ nt) :
    FrR m ⟨nt, argFr args 0 .e⟩ (args' ++ Array.replicate (nt - args'.size) undef) := by
  have hl : args.length = args'.size := by simpa using VRs.length h
  refine ⟨by simp; omega, fun t v ht => ?_⟩
  simp only [argFr_get] at ht
  split at ht
  · rename_i hlt
    rw [Nat.sub_zero] at ht
    obtain ⟨w, h1, h2⟩ := VRs.getElem h t v ht
    refine ⟨w, ?_, h2⟩
    rw [Array.getElem?_append_left (by omega), ← Array.getElem?_toList]; exact h1
  · simp [W.get_e] at ht

theorem resV_sound {m : M} {σ : Store} {w : World} (h : Sim m σ w) {fr : Fr} {tmps : Array Value} (hf : FrR m fr tmps) : ∀ {rs : List ResultVar} {l : List V}, resV P fr σ rs = some (true, l) →
    ∃ l', (rs.mapM fun (r : ResultVar) => (match r with
      | .tmp t => pure (tmps.getD t undef)
      | .cell a t => do loadVar t (← asAddr (tmps.getD a undef)) : Sem Value)).run P w = .ok l' w ∧ VRs m l l'
  | [], l, e => by simp only [resV] at e; cases e; exact ⟨[], rfl, trivial⟩
  | .tmp t :: rs, l, e => by
    simp only [resV] at e
    split at e
    · rename_i v c r hv hr
      cases e
      obtain ⟨u, h1, h2⟩ := hf.get t v hv
      obtain ⟨l', g1, g2⟩ := resV_sound h hf hr
      refine ⟨u :: l', ?_, h2, g2⟩
      rw [List.mapM_cons]
      simp only [Sem.run_bind, Sem.run_pure, Result.andThen_ok, g1]
      simp [Array.getD_eq_getD_getElem?, h1]
    · cases e
  | .cell a ty :: rs, l, e => by
    simp only [resV] at e
    split at e
    · rename_i pa hpa
      split at e
      · rename_i x c r hx hr
        split at e
        · rename_i v hv
          simp only [Option.some.injEq, Prod.mk.injEq, Bool.and_eq_true] at e
          obtain ⟨⟨hc1, rfl⟩, rfl⟩ := e
          obtain ⟨u, h1, h2⟩ := hf.get a pa hpa
          obtain ⟨r', v', q0, q1, q2, q3⟩ := load_sound h hx hc1 h2
          rw [hv] at q0; cases q0
          obtain ⟨l', g1, g2⟩ := resV_sound h hf hr
          refine ⟨r' :: l', ?_, q3, g2⟩
          rw [List.mapM_cons]
          have hu : tmps.getD a undef = u := by simp [Array.getD_eq_getD_getElem?, h1]
          have hlv : (do loadVar ty (← asAddr u) : Sem Value).run P w = .ok r' w := by
            have : ∃ pl, pa = .p (some pl) := by
              unfold evLoad at hx
              cases pa with
              | p o => cases o with
                | none => simp at hx
                | some pl => exact ⟨pl, rfl⟩
              | _ => simp at hx
            obtain ⟨pl, rfl⟩ := this
            obtain ⟨rr, hrr, rfl⟩ := h2
            simpa [Instr.loadAt, Instr.sureAddr, asAddr] using q2
          simp only [hu, Sem.run_bind] at hlv ⊢
          simp only [hlv, Result.andThen_ok, g1, Sem.run_pure]
        · cases e
      · cases e
    · cases e

theorem results_sound {m : M} {σ : Store} {w : World} (h : Sim m σ w) {fr : Fr} {tmps : Array Value} (hf : FrR m fr tmps) {fn : Func} {c : Bool} {l : List V} (e : resV P fr σ fn.results.toList = some (c, l)) (hc : c = true) :
    ∃ r, (results fn tmps).run P w = .ok r w ∧ VR m (results1 l) r := by
  subst hc
  obtain ⟨l', g1, g2⟩ := resV_sound h hf e
  have hm : (fn.results.mapM fun (r : ResultVar) => (match r with
      | .tmp t => pure (tmps.getD t undef)
      | .cell a t => do loadVar t (← asAddr (tmps.getD a undef)) : Sem Value)).run P w = .ok l'.toArray w := by
    rw [Array.mapM_eq_mapM_toList, Sem.run_map, g1]; rfl
  have hrun : (results fn tmps).run P w = .ok (if h : l'.toArray.size = 1 then l'.toArray[0] else .tuple l'.toArray) w := by
    have e := congrArg (fun r => Result.andThen r (fun (vs : Array Value) w => Sem.run P (pure (if h : vs.size = 1 then vs[0] else .tuple vs)) w)) hm
    refine Eq.trans ?_ e
    unfold results
    rw [Sem.run_bind]
    rfl
  refine ⟨_, hrun, ?_⟩
  match l, l', g2 with
  | [], [], _ => exact ⟨#[], rfl, rfl, fun j hj => by simp at hj⟩
  | [v], [u], g2 => exact g2.1
  | v1 :: v2 :: l, u1 :: u2 :: l', g2 =>
    rw [dif_neg (by simp)]
    refine ⟨_, rfl, ?_, fun j hj => ?_⟩
    · have := VRs.length g2; simp only [List.length_cons, List.size_toArray] at this ⊢; omega
    · obtain ⟨w', h1, h2⟩ := VRs.get g2 j (by have := VRs.length g2; simp only [List.length_cons, List.size_toArray] at this hj ⊢; omega)
      have : (u1 :: u2 :: l').toArray[j] = w' := by
        have hj' : j < (u1 :: u2 :: l').length := by simpa using hj
        rw [List.getElem?_eq_getElem hj'] at h1
        simpa using h1
      rw [this]; exact h2

theorem body_sound {X : Xt} (hX : XOk P X) {call : Cl} (hcall : ClOk P call) (hD : DrawOk P X call) {L : Nat} : ClOk P (evBody P X L call) := by
  intro f args σ K hK m w args' hargs hS
  unfold evBody at hK
  cases hf : P.funcs[f]? with
  | none => simp [hf] at hK
  | some fn =>
    simp only [hf] at hK
    cases hb : fn.body with
    | none => simp [hb] at hK
    | some c =>
      simp only [hb] at hK
      cases hle : Nat.ble args.length fn.ntmps with
      | false => rw [hle] at hK; exact hK.elim
      | true =>
        rw [hle] at hK
        simp only [cond_true] at hK
        rw [nble, decide_eq_true_eq] at hle
        refine calls_of_wp hf hb ?_
        refine code_sound hX hcall hD c m σ w _ _ _ _ hS (args_FrR hargs hle) hK ?_
        rintro e a' w' ⟨fr', σ', m', hk, f1, s1, k1, d1⟩
        have hend : ∀ (hk : (match resV P fr' σ' fn.results.toList with
            | some (c, l) => cond c (K (results1 l) σ') False
            | none => False)), a'.defers = [] ∧ ∃ v, (results fn a'.tmps).run P w' = .ok v w' ∧
              (∃ v_1 r m' σ', K v_1 σ' ∧ Ending.returned v = .returned r ∧ VR m' v_1 r ∧ Sim m' σ' w' ∧ Keep m σ w m' σ' w') := by
          intro hk
          cases hr : resV P fr' σ' fn.results.toList with
          | none => simp [hr] at hk
          | some cl =>
            obtain ⟨c, l⟩ := cl
            simp only [hr] at hk
            cases c with
            | false => exact hk.elim
            | true =>
              obtain ⟨r, g1, g2⟩ := results_sound s1 f1 hr rfl
              exact ⟨d1, r, g1, _, r, m', σ', hk, rfl, g2, s1, k1⟩
        cases e with
        | normal => exact hend hk
        | ret => exact hend hk
        | exit id => exact hk.elim

def SumsOk (P : Program) (S : Sums) : Prop := ∀ f T, S f = some T → ∀ args σ K, T args σ K → SemCall P f args σ K

theorem fn_sound {X : Xt} (hX : XOk P X) {S : Sums} (hS : SumsOk P S) (hD : ∀ call, ClOk P call → DrawOk P X call) {L : Nat} : ∀ d, ClOk P (evFn P X S L d) := by
  intro d
  induction d with
  | zero => intro f args σ K hK; exact hK.elim
  | succ d ih =>
    intro f args σ K hK
    simp only [evFn] at hK
    cases hs : S f with
    | some T => rw [hs] at hK; exact hS f T hs args σ K hK
    | none => rw [hs] at hK; exact body_sound hX ih (hD _ ih) f args σ K hK

end Go.Ev
