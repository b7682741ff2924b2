/- Rows of operations, calls. -/
import Derived.Test.YtifpmcejajfagaaGreatEv8
import Derived.LoopN
import Derived.Scope
set_option linter.all false
namespace Go.Ev
variable [Env]
variable {P : Program}

/-- what a call of a Go function comes to -/
def SemCall (P : Program) (f : FuncId) (args : List V) (σ : Store) (K : V → Store → Prop) : Prop :=
  ∀ (m : M) (w : World) (args' : Array Value), VRs m args args'.toList → Sim m σ w →
    Calls P f args' w fun e w' => ∃ v r m' σ', K v σ' ∧ e = .returned r ∧ VR m' v r ∧ Sim m' σ' w' ∧ Keep m σ w m' σ' w'
def ClOk (P : Program) (call : Cl) : Prop := ∀ f args σ K, call f args σ K → SemCall P f args σ K
def XOk (P : Program) (X : Xt) : Prop := ∀ f args σ rs, X f args σ = some rs → rs.c = true → ∀ (m : M) (w : World) (args' : Array Value), VRs m args args'.toList → Sim m σ w →
  ∃ v r m' w', rs.v = some v ∧ (callFunc f args').run P w = .ok (.value r) w' ∧ VR m' v r ∧ Sim m' rs.σ w' ∧ Keep m σ w m' rs.σ w'

/-- what holds behind a step -/
def Nx (m : M) (σ : Store) (w : World) (a : Act) (K : Fr → Store → Prop) (a' : Act) (w' : World) : Prop :=
  ∃ fr' σ' m', K fr' σ' ∧ FrR m' fr' a'.tmps ∧ Sim m' σ' w' ∧ Keep m σ w m' σ' w' ∧ a'.defers = a.defers

theorem Act.put_defers' (a : Act) (d : Option Tmp) (v : Value) : (a.put d v).defers = a.defers := by cases d <;> rfl

theorem rsK_sound {r : Option Rs} {K : Option V → Store → Prop} (hK : rsK r K) : ∃ rs, r = some rs ∧ rs.c = true ∧ K rs.v rs.σ := by
  unfold rsK at hK
  cases r with
  | none => exact hK.elim
  | some rs =>
    simp only at hK
    cases hc : rs.c with
    | false => rw [hc] at hK; exact hK.elim
    | true => rw [hc] at hK; exact ⟨rs, rfl, hc, hK⟩
theorem putK_sound {fr : Fr} {d : Option Tmp} {v : Option V} {K : Fr → Prop} (h : putK fr d v K) : ∃ fr', fr.put d v = some fr' ∧ K fr' := by
  unfold putK at h
  cases hp : fr.put d v with
  | none => simp [hp] at h
  | some fr' => simp only [hp] at h; exact ⟨fr', rfl, h⟩

theorem enters_run {f : FuncId} (h : enters P f = true) (args : Array Value) (w : World) : (callFunc f args).run P w = .ok (.enter f args) w := by
  unfold enters at h
  cases hf : P.funcs[f]? with
  | none => simp [hf] at h
  | some fn =>
    simp only [hf, Bool.and_eq_true, Bool.not_eq_true'] at h
    obtain ⟨h1, h2⟩ := h
    have h3 : fn.body.isNone = false := by cases hb : fn.body <;> simp_all
    unfold callFunc
    simp only [Sem.run_bind, run_program, Result.andThen_ok, hf, h2, Bool.false_eq_true, if_false, h3, Sem.run_pure]

/-- an operation: the value that is laid in its temporary, the world behind it -/
theorem oper_sound {X : Xt} (hX : XOk P X) {call : Cl} (hcall : ClOk P call) {m : M} {σ : Store} {w : World} (h : Sim m σ w) {ρ : Operand → Option V} {a : Act} (hf : RR m ρ a) {o : Oper} {K : Option V → Store → Prop}
    (hK : evOper P X call o ρ σ K) {next : Act → World → Prop} {Q : Exit → Act → World → Prop}
    (hn : ∀ v σ' m' r w', K v σ' → VR m' (v.getD .junk) r → Sim m' σ' w' → Keep m σ w m' σ' w' → next (a.put o.dst r) w') : o.wp P a w next Q := by
  have plain : ∀ {rs : Option Rs}, rsK rs K → (∀ rs', rs = some rs' → rs'.c = true → ∃ r m' w', (execOp a.eval o).run P w = outOf rs'.v r w' ∧ VR m' (rs'.v.getD .junk) (match rs'.v with | some _ => r | none => undef) ∧ Sim m' rs'.σ w' ∧ Keep m σ w m' rs'.σ w') → o.wp P a w next Q := by
    intro rs h1 h2
    obtain ⟨rs', rfl, hc, hk⟩ := rsK_sound h1
    obtain ⟨r, m', w', g1, g2, g3, g4⟩ := h2 rs' rfl hc
    unfold Oper.wp
    rw [g1]
    cases hv : rs'.v with
    | none =>
      rw [hv] at g2 hk
      simp only [outOf, Oper.upon]
      exact hn _ _ m' _ _ hk g2 g3 g4
    | some v =>
      rw [hv] at g2 hk
      simp only [outOf, Oper.upon]
      exact hn _ _ m' _ _ hk g2 g3 g4
  unfold evOper at hK
  split at hK
  · rename_i c ho
    split at hK
    · rename_i b hb
      cases hl : opds ρ c.args.toList with
      | none => simp [hl] at hK
      | some l =>
        simp only [hl] at hK
        refine plain hK fun rs' hrs hc => ?_
        have hvs := opds_sound hf hl
        obtain ⟨v, r, m', w', g0, g1, g2, g3, g4⟩ := builtin_sound h hrs hc (args' := c.args.map a.eval) (by simpa using hvs) o.type (c.args.map fun | .const _ => true | _ => false)
        refine ⟨r, m', w', ?_, by rw [g0]; exact g2, g3, g4⟩
        rw [g0]
        simp only [execOp, ho, resolve, hb, Sem.run_bind, Sem.run_pure, Result.andThen_ok, invoke]
        exact g1
    · rename_i hnb
      cases ht : target ρ c with
      | none => simp [ht] at hK
      | some fl =>
        obtain ⟨f, l⟩ := fl
        simp only [ht] at hK
        unfold target at ht
        split at ht
        · rename_i fv hfv
          split at ht
          · rename_i f' n g l' hof hol
            cases ht
            have hvf := hf _ _ hof
            obtain ⟨xs, e1, e2, e3⟩ := hvf
            have hvs := opds_sound hf hol
            have hargs : VRs m (l' ++ tab g n 0) ((c.args.map a.eval) ++ xs).toList := by
              rw [Array.toList_append, Array.toList_map]
              exact VRs.append hvs (VRs.ofTab g n 0 xs.toList (by simpa using e2) fun j w hj => by
                have hlt : j < xs.size := by have := (List.getElem?_eq_some_iff.1 hj).1; simpa using this
                have := e3 j hlt
                rw [Nat.zero_add]
                have e : xs[j] = w := by simpa [hlt] using hj
                rw [← e]; exact this)
            have hexec : (execOp a.eval o).run P w = (callFunc f ((c.args.map a.eval) ++ xs)).run P w := by
              simp only [execOp, ho, resolve, hfv, e1, Deferred.ofValue, Sem.run_bind, Sem.run_pure, Result.andThen_ok, invoke]
              simp
            cases hen : enters P f with
            | true =>
              rw [hen] at hK
              simp only [cond_true] at hK
              unfold Oper.wp
              rw [hexec, enters_run hen]
              simp only [Oper.upon]
              refine (hcall _ _ _ _ hK m w _ hargs h).mono ?_
              rintro e w' ⟨v, r, m', σ', hk, rfl, g1, g2, g3⟩
              exact hn (some v) σ' m' r w' hk g1 g2 g3
            | false =>
              rw [hen] at hK
              simp only [cond_false] at hK
              refine plain hK fun rs' hrs hc => ?_
              obtain ⟨v, r, m', w', g0, g1, g2, g3, g4⟩ := hX _ _ _ _ hrs hc m w _ hargs h
              refine ⟨r, m', w', ?_, by rw [g0]; exact g2, g3, g4⟩
              rw [g0, hexec, g1]; rfl
          · cases ht
        · cases ht
  · rename_i c x y ho
    cases hc : ρ c with
    | none => simp [hc] at hK
    | some vc =>
      simp only [hc] at hK
      cases vc with
      | bo b =>
        simp only at hK
        have hb := hf _ _ hc
        simp only [VR] at hb
        have hexec : (execOp a.eval o).run P w = .ok (.value (if b then a.eval x else a.eval y)) w := by
          simp only [execOp, ho, hb, asBool, Sem.run_bind, Sem.run_pure, Result.andThen_ok]
        unfold Oper.wp
        rw [hexec]
        simp only [Oper.upon]
        cases b with
        | true =>
          simp only [cond_true] at hK
          cases hx : ρ x with
          | none => simp [hx] at hK
          | some v =>
            simp only [hx] at hK
            exact hn (some v) σ m _ w hK (hf _ _ hx) h (Keep.refl ..)
        | false =>
          simp only [cond_false] at hK
          cases hx : ρ y with
          | none => simp [hx] at hK
          | some v =>
            simp only [hx] at hK
            exact hn (some v) σ m _ w hK (hf _ _ hx) h (Keep.refl ..)
      | _ => exact hK.elim
  · rename_i x isString ho
    split at hK
    · rename_i u hu
      obtain ⟨v, σ', r, w', g0, g1, g2, g3, g4⟩ := next_sound (P := P) h hK (hf _ _ hu) o.type
      have hexec : (execOp a.eval o).run P w = .ok (.value r) w' := by
        simp only [execOp, ho, Sem.run_bind, g1, Result.andThen_ok, Sem.run_pure]
      unfold Oper.wp
      rw [hexec]
      simp only [Oper.upon]
      exact hn (some v) σ' m r w' g0 g2 g3 g4
    · exact hK.elim
  · exact plain hK fun rs' hrs hc => evOp_sound h hf hrs hc

theorem step_sound {X : Xt} (hX : XOk P X) {call : Cl} (hcall : ClOk P call) {m : M} {σ : Store} {w : World} (h : Sim m σ w) {fr : Fr} {a : Act} (hf : FrR m fr a.tmps) {o : Oper} {K : Fr → Store → Prop}
    (hK : evStep P X call o fr σ K) {next : Act → World → Prop} {Q : Exit → Act → World → Prop} (hn : ∀ a' w', Nx m σ w a K a' w' → next a' w') : o.wp P a w next Q := by
  refine oper_sound hX hcall h hf.rr hK fun v σ' m' r w' hk g1 g2 g3 => ?_
  obtain ⟨fr', hp, hk⟩ := putK_sound hk
  exact hn _ _ ⟨fr', σ', m', hk, (hf.mono g3.le).putAct hp g1, g2, g3, Act.put_defers' ..⟩

/-- the guard, as both sides see it -/
theorem guard_sound {m : M} {fr : Fr} {a : Act} (hf : FrR m fr a.tmps) {ops : List Oper} {o : Oper} {yes : Prop} {no : Fr → Prop} (hg : evGuard ops o fr yes no) :
    (Region.wanted o (yielded ops.toArray a.tmps) = true ∧ yes) ∨ (Region.wanted o (yielded ops.toArray a.tmps) = false ∧ ∃ fr', fr.put o.dst none = some fr' ∧ no fr') := by
  unfold evGuard at hg
  unfold Region.wanted
  have hput : ∀ {no : Fr → Prop}, putK fr o.dst none no → ∃ fr', fr.put o.dst none = some fr' ∧ no fr' := by
    intro no h
    unfold putK at h
    cases hp : fr.put o.dst none with
    | none => simp [hp] at h
    | some fr' => simp only [hp] at h; exact ⟨fr', rfl, h⟩
  cases hgu : o.guard with
  | none => rw [hgu] at hg; exact .inl ⟨rfl, hg⟩
  | some jw =>
    obtain ⟨j, want⟩ := jw
    rw [hgu] at hg
    simp only at hg ⊢
    unfold yieldedV at hg
    unfold yielded
    rw [show (ops.toArray[j]?) = ops[j]? by simp]
    cases hd : (ops[j]?).bind (·.dst) with
    | none => simp [hd] at hg
    | some d =>
      simp only [hd, Option.bind_some] at hg ⊢
      cases ht : fr.t.get d with
      | none => simp [ht] at hg
      | some v =>
        obtain ⟨u, h1, h2⟩ := hf.get d v ht
        simp only [ht] at hg
        cases v with
        | bo x =>
          simp only [VR] at h2
          subst h2
          simp only [h1]
          simp only at hg
          cases hx : (x == want) with
          | true =>
            rw [hx] at hg
            refine .inl ⟨?_, hg⟩
            have : x = want := by simpa using hx
            simp [this]
          | false =>
            rw [hx] at hg
            refine .inr ⟨?_, hput hg⟩
            simpa using hx
        | junk =>
          simp only [VR] at h2
          subst h2
          simp only [h1]
          exact .inr ⟨by simp [undef], hput hg⟩
        | _ => exact hg.elim

theorem tellX_sound {b : BX} {r : Bool} : ∀ {l : List (BX × Bool)}, (∀ b r, (b, r) ∈ l → b.den = r) → tellX b l = some r → b.den = r
  | [], _, h => by simp [tellX] at h
  | (b', r') :: l, hl, h => by
    have ih : tellX b l = some r → b.den = r := tellX_sound fun b r hm => hl b r (List.mem_cons_of_mem _ hm)
    have h0 := hl b' r' (List.mem_cons_self ..)
    simp only [tellX] at h
    split at h
    · rename_i x y x' y'
      cases hs : ((SX.same x x' && SX.same y y') || (SX.same x y' && SX.same y x')) with
      | false => rw [hs] at h; exact ih h
      | true =>
        rw [hs] at h
        simp only [cond_true, Option.some.injEq] at h
        subst h
        simp only [Bool.or_eq_true, Bool.and_eq_true] at hs
        rcases hs with ⟨h1, h2⟩ | ⟨h1, h2⟩
        · rw [SX.same_eq h1, SX.same_eq h2]; exact h0
        · rw [SX.same_eq h1, SX.same_eq h2, ← h0]
          simp only [BX.den]
          by_cases e : x'.den = y'.den
          · simp [e]
          · simp [e, Ne.symm e]
    · rename_i x y x' y'
      cases hs : (SX.same x x' && SX.same y y') with
      | false => rw [hs] at h; exact ih h
      | true =>
        rw [hs] at h
        simp only [cond_true, Option.some.injEq] at h
        subst h
        simp only [Bool.and_eq_true] at hs
        rw [SX.same_eq hs.1, SX.same_eq hs.2]; exact h0
    · exact ih h
theorem rangeX_sound {e : SX} {lo hi : Int} : ∀ {l : List (SX × Int × Int)}, (∀ e lo hi, (e, lo, hi) ∈ l → lo ≤ e.den ∧ e.den ≤ hi) → rangeX e l = some (lo, hi) → lo ≤ e.den ∧ e.den ≤ hi
  | [], _, h => by simp [rangeX] at h
  | (e', lo', hi') :: l, hl, h => by
    simp only [rangeX] at h
    cases hs : SX.same e e' with
    | false => rw [hs] at h; exact rangeX_sound (fun e lo hi hm => hl e lo hi (List.mem_cons_of_mem _ hm)) h
    | true =>
      rw [hs] at h
      simp only [cond_true, Option.some.injEq, Prod.mk.injEq] at h
      obtain ⟨rfl, rfl⟩ := h
      rw [SX.same_eq hs]
      exact hl _ _ _ (List.mem_cons_self ..)
theorem Keep.tell (m : M) (σ : Store) (w : World) (b : BX) (r : Bool) : Keep m σ w m (σ.tell b r) w :=
  { Keep.refl m σ w with }
theorem Sim.tell {m : M} {σ : Store} {w : World} (h : Sim m σ w) {b : BX} {r : Bool} (hb : b.den = r) : Sim m (σ.tell b r) w :=
  ⟨h.dom, h.obj, h.inj, h.one, h.oinj, ⟨fun b' r' hm => by
    simp only [Store.tell, List.mem_cons, Prod.mk.injEq] at hm
    rcases hm with ⟨rfl, rfl⟩ | hm
    · exact hb
    · exact h.fact.l b' r' hm, h.fact.r⟩⟩
theorem forkB_sound {b : BX} {m : M} {σ : Store} {w : World} {K : Bool → Store → Prop} (hS : Sim m σ w) (h : forkB b σ K) :
    ∃ σ', K b.den σ' ∧ Sim m σ' w ∧ Keep m σ w m σ' w := by
  unfold forkB at h
  split at h
  · rename_i r hr
    rw [← tellX_sound hS.fact.l hr] at h
    exact ⟨σ, h, hS, Keep.refl ..⟩
  · cases hb : b.den with
    | true => exact ⟨_, h.1, hS.tell hb, Keep.tell ..⟩
    | false => exact ⟨_, h.2, hS.tell hb, Keep.tell ..⟩
theorem allZ_sound {f : Int → Prop} : ∀ {n : Nat} {lo x : Int}, allZ f n lo → lo ≤ x → x < lo + n → f x
  | 0, lo, x, _, h1, h2 => by omega
  | 1, lo, x, h, h1, h2 => by
    have : x = lo := by omega
    rw [this]; exact h
  | n + 2, lo, x, h, h1, h2 => by
    by_cases e : x = lo
    · rw [e]; exact h.1
    · exact allZ_sound (n := n + 1) h.2 (by omega) (by omega)
theorem conc_sound {v : Option V} {m : M} {σ : Store} {w : World} {K : Option V → Store → Prop} (hS : Sim m σ w) {r : Value} (hv : VR m (v.getD .junk) r) (h : concK v σ K) :
    ∃ v' σ', K v' σ' ∧ VR m (v'.getD .junk) r ∧ Sim m σ' w ∧ Keep m σ w m σ' w := by
  unfold concK at h
  split at h
  · obtain ⟨σ', h1, h2, h3⟩ := forkB_sound hS h
    exact ⟨_, σ', h1, hv, h2, h3⟩
  · rename_i k e
    split at h
    · rename_i lo hi hr
      have hb := rangeX_sound hS.fact.r hr
      have := allZ_sound (x := e.den) h hb.1 (by have := hb.2; have := hb.1; omega)
      exact ⟨_, _, this, hv, hS.tell (by simp [BX.den, SX.den]), Keep.tell ..⟩
    · exact ⟨_, σ, h, hv, hS, Keep.refl ..⟩
  · exact ⟨_, σ, h, hv, hS, Keep.refl ..⟩

theorem ops_sound {X : Xt} (hX : XOk P X) {call : Cl} (hcall : ClOk P call) {ops : List Oper} {Q : Exit → Act → World → Prop} : ∀ (l : List Oper) (m : M) (σ : Store) (w : World) (fr : Fr) (a : Act) (K : Fr → Store → Prop),
    Sim m σ w → FrR m fr a.tmps → evOps P X call ops l fr σ K → (∀ a' w', Nx m σ w a K a' w' → Q .normal a' w') → wpList P ops.toArray Q l a w := by
  intro l
  induction l with
  | nil => intro m σ w fr a K h hf hK hn; exact hn a w ⟨fr, σ, m, hK, hf, h, Keep.refl .., rfl⟩
  | cons o l ih =>
    intro m σ w fr a K h hf hK hn
    simp only [evOps] at hK
    unfold wpList
    rcases guard_sound hf hK with ⟨hw, hy⟩ | ⟨hw, fr', hp, hno⟩
    · rw [if_pos hw]
      refine .inl (oper_sound hX hcall h hf.rr hy fun v σ0 m' r w' hk0 g1 g2 g3 => ?_)
      obtain ⟨v', σ', hk1, g4, s1, k2⟩ := conc_sound g2 g1 hk0
      obtain ⟨fr', hp, hk⟩ := putK_sound hk1
      have k1 := g3.trans k2
      have f1 := (hf.mono g3.le).putAct hp g4
      have d1 : (a.put o.dst r).defers = a.defers := Act.put_defers' ..
      refine ih m' σ' w' fr' (a.put o.dst r) K s1 f1 hk fun a'' w'' hnx' => ?_
      obtain ⟨fr2, σ2, m2, hk2, f2, s2, k2, d2⟩ := hnx'
      exact hn a'' w'' ⟨fr2, σ2, m2, hk2, f2, s2, k1.trans k2, d2.trans d1⟩
    · rw [if_neg (by rw [hw]; simp)]
      refine ih m σ w fr' (a.put o.dst undef) K h (hf.putAct hp rfl) hno fun a'' w'' hnx' => ?_
      obtain ⟨fr2, σ2, m2, hk2, f2, s2, k2, d2⟩ := hnx'
      exact hn a'' w'' ⟨fr2, σ2, m2, hk2, f2, s2, k2, d2.trans (Act.put_defers' ..)⟩

def exOf : Ex → Exit
  | .normal => .normal
  | .exit id => .exit id
  | .ret => .ret

/-- what holds where code ends -/
def NxE (m : M) (σ : Store) (w : World) (a : Act) (K : Ex → Fr → Store → Prop) (e : Ex) (a' : Act) (w' : World) : Prop :=
  ∃ fr' σ' m', K e fr' σ' ∧ FrR m' fr' a'.tmps ∧ Sim m' σ' w' ∧ Keep m σ w m' σ' w' ∧ a'.defers = a.defers

/-- a region whose order is open is sound -/
def DrawOk (P : Program) (X : Xt) (call : Cl) : Prop := ∀ (id : Nat) (ops : Array Oper) (m : M) (σ : Store) (w : World) (fr : Fr) (a : Act) (K : Fr → Store → Prop) (Q : Exit → Act → World → Prop),
  Sim m σ w → FrR m fr a.tmps → evRegionD P X call ops.toList fr σ K → (∀ a' w', Nx m σ w a K a' w' → Q .normal a' w') → (Code.region id ops true).wp P Q a w

theorem code_sound {X : Xt} (hX : XOk P X) {call : Cl} (hcall : ClOk P call) (hD : DrawOk P X call) {L : Nat} : ∀ (c : Code) (m : M) (σ : Store) (w : World) (fr : Fr) (a : Act) (K : Ex → Fr → Store → Prop) (Q : Exit → Act → World → Prop),
    Sim m σ w → FrR m fr a.tmps → evCode P X L call c fr σ K → (∀ e a' w', NxE m σ w a K e a' w' → Q (exOf e) a' w') → c.wp P Q a w := by
  intro c
  induction c with
  | skip => intro m σ w fr a K Q h hf hK hn; exact wp_skip (hn .normal a w ⟨fr, σ, m, hK, hf, h, Keep.refl .., rfl⟩)
  | label l => intro m σ w fr a K Q h hf hK hn; exact wp_label (hn .normal a w ⟨fr, σ, m, hK, hf, h, Keep.refl .., rfl⟩)
  | exit id => intro m σ w fr a K Q h hf hK hn; exact wp_exit (hn (.exit id) a w ⟨fr, σ, m, hK, hf, h, Keep.refl .., rfl⟩)
  | ret => intro m σ w fr a K Q h hf hK hn; exact wp_ret (hn .ret a w ⟨fr, σ, m, hK, hf, h, Keep.refl .., rfl⟩)
  | seq x y ihx ihy =>
    intro m σ w fr a K Q h hf hK hn
    refine wp_seq (ihx m σ w fr a _ _ h hf hK fun e a' w' hnx => ?_)
    obtain ⟨fr', σ', m', hk, f1, s1, k1, d1⟩ := hnx
    cases e with
    | normal =>
      refine ihy m' σ' w' fr' a' K Q s1 f1 hk fun e a'' w'' hnx' => ?_
      obtain ⟨fr2, σ2, m2, hk2, f2, s2, k2, d2⟩ := hnx'
      exact hn e a'' w'' ⟨fr2, σ2, m2, hk2, f2, s2, k1.trans k2, d2.trans d1⟩
    | exit id => exact hn (.exit id) a' w' ⟨fr', σ', m', hk, f1, s1, k1, d1⟩
    | ret => exact hn .ret a' w' ⟨fr', σ', m', hk, f1, s1, k1, d1⟩
  | cond c x y ihx ihy =>
    intro m σ w fr a K Q h hf hK hn
    simp only [evCode] at hK
    cases hc : fr.opd c with
    | none => simp [hc] at hK
    | some vc =>
      simp only [hc] at hK
      cases vc with
      | bo b =>
        have hb := opd_sound hf hc
        simp only [VR] at hb
        refine wp_cond hb ?_
        cases b with
        | true => exact ihx m σ w fr a K Q h hf hK hn
        | false => exact ihy m σ w fr a K Q h hf hK hn
      | symb b neg =>
        have hb := opd_sound hf hc
        simp only [VR] at hb
        refine wp_cond hb ?_
        obtain ⟨σ', h1, h2, h3⟩ := forkB_sound h hK
        cases hr : (b.den != neg) with
        | true => simp only [hr, cond_true] at h1; exact ihx m σ' w fr a K Q h2 hf h1 fun e a' w' ⟨fr', σ'', m', g1, g2, g3, g4, g5⟩ => hn e a' w' ⟨fr', σ'', m', g1, g2, g3, h3.trans g4, g5⟩
        | false => simp only [hr, cond_false] at h1; exact ihy m σ' w fr a K Q h2 hf h1 fun e a' w' ⟨fr', σ'', m', g1, g2, g3, g4, g5⟩ => hn e a' w' ⟨fr', σ'', m', g1, g2, g3, h3.trans g4, g5⟩
      | _ => exact hK.elim
  | block id c ih =>
    intro m σ w fr a K Q h hf hK hn
    refine wp_block (ih m σ w fr a _ _ h hf hK fun e a' w' hnx => ?_)
    obtain ⟨fr', σ', m', hk, f1, s1, k1, d1⟩ := hnx
    cases e with
    | normal => exact hn .normal a' w' ⟨fr', σ', m', hk, f1, s1, k1, d1⟩
    | exit id' =>
      simp only [nbeq] at hk
      simp only [exOf, Exit.inBlock]
      by_cases e : id' = id
      · rw [if_pos e]; simp only [e, decide_true, cond_true] at hk
        exact hn .normal a' w' ⟨fr', σ', m', hk, f1, s1, k1, d1⟩
      · rw [if_neg e]; simp only [e, decide_false, cond_false] at hk
        exact hn (.exit id') a' w' ⟨fr', σ', m', hk, f1, s1, k1, d1⟩
    | ret => exact hn .ret a' w' ⟨fr', σ', m', hk, f1, s1, k1, d1⟩
  | loop c ih =>
    intro m σ w fr a K Q h hf hK hn
    simp only [evCode] at hK
    have key : ∀ (n : Nat) (m : M) (σ : Store) (w : World) (fr : Fr) (a : Act), Sim m σ w → FrR m fr a.tmps → loopN n (fun K fr σ => evCode P X L call c fr σ K) fr σ K →
        (∀ e a' w', NxE m σ w a K e a' w' → Q (exOf e) a' w') → Code.rounds P c Q n a w := by
      intro n
      induction n with
      | zero => intro m σ w fr a h hf hK hn; exact hK.elim
      | succ n ihn =>
        intro m σ w fr a h hf hK hn
        simp only [loopN] at hK
        rw [rounds_succ]
        refine ih m σ w fr a _ _ h hf hK fun e a' w' hnx => ?_
        obtain ⟨fr', σ', m', hk, f1, s1, k1, d1⟩ := hnx
        cases e with
        | normal =>
          refine ihn m' σ' w' fr' a' s1 f1 hk fun e a'' w'' hnx' => ?_
          obtain ⟨fr2, σ2, m2, hk2, f2, s2, k2, d2⟩ := hnx'
          exact hn e a'' w'' ⟨fr2, σ2, m2, hk2, f2, s2, k1.trans k2, d2.trans d1⟩
        | exit id => exact hn (.exit id) a' w' ⟨fr', σ', m', hk, f1, s1, k1, d1⟩
        | ret => exact hn .ret a' w' ⟨fr', σ', m', hk, f1, s1, k1, d1⟩
    exact wp_loop_rounds L (key L m σ w fr a h hf hK hn)
  | scope c ih =>
    intro m σ w fr a K Q h hf hK hn
    refine wp_scope_straight (ih m σ w fr a K _ h hf hK fun e a' w' hnx => ?_)
    cases e <;> exact hn _ a' w' hnx
  | region id ops draw =>
    intro m σ w fr a K Q h hf hK hn
    simp only [evCode] at hK
    cases draw with
    | true => exact hD id ops m σ w fr a _ Q h hf hK fun a' w' hnx => hn .normal a' w' hnx
    | false => exact wp_region_list (ops_sound hX hcall ops.toList m σ w fr a _ h hf hK fun a' w' hnx => hn .normal a' w' hnx)
  | _ => intro m σ w fr a K Q h hf hK hn; exact hK.elim

end Go.Ev
