/- A region whose order is open: its steps. -/
import Derived.Test.YtifpmcejajfagaaGreatEv13
set_option linter.all false
namespace Go.Ev
variable [Env]

structure PendOk (ops : List Oper) (base lo : Nat) (listed : Array Bool) (seen : Nat) (σ : Store) (m : M) (w : World) (p : Pend) : Prop where
  mem : MemAt ops p.at_
  name : p.name = base + memNo ops p.at_
  seen : seen.testBit p.at_ = true
  gone : σ.blk p.name = none
  real : Sx listed p.at_ → Laid m σ w lo p

inductive RecV (P : Program) (X : Xt) (call : Cl) (ops : List Oper) (base : Nat) (d : DSt) (j : Nat) (o : Oper) (frj : Fr) (v : Option V) : Prop
  | mem (k : Blk) (v' : V) (h1 : isMemOp o = true) (h2 : v = some v') (h3 : memV P frj.opd (base + memNo ops j) o.op = some (true, k, v')) (h4 : ∀ p ∈ d.pend, p.at_ = j → p = ⟨j, base + memNo ops j, k⟩)
  | load (t : TypeId) (x : Operand) (a v' : V) (h1 : o.op = .load t x) (h2 : frj.opd x = some a) (h3 : v = some v') (h4 : LdOk P t a v' d.σ) (h5 : ⟨j, t, a, v'⟩ ∈ d.opens) (h6 : ∀ p ∈ d.pend, p.at_ ≠ j)
  | pure (h1 : ∀ σ, evOper P X call o frj.opd σ (fun v' σ' => v' = v ∧ σ' = σ)) (h2 : ∀ p ∈ d.pend, p.at_ ≠ j)

/-- of an operation that is reckoned, but not yet run -/
def Rec (P : Program) (X : Xt) (call : Cl) (ops : List Oper) (masks : List Nat) (base : Nat) (fr0 : Fr) (d : DSt) (j : Nat) : Prop :=
  ∃ o frj v, ops[j]? = some o ∧ View ops masks fr0 d.fr j frj ∧ (∀ t, o.dst = some t → d.fr.t.get t = some (Option.getD v .junk)) ∧
    evGuard ops o frj (RecV P X call ops base d j o frj v) (fun _ => v = none ∧ ∀ p ∈ d.pend, p.at_ ≠ j)

variable {P : Program} {X : Xt} {call : Cl} {ops : List Oper} {masks : List Nat}

theorem evGuard_mono {o : Oper} {fr : Fr} {yes yes' : Prop} {no no' : Fr → Prop} (h : evGuard ops o fr yes no) (hy : yes → yes') (hn : ∀ fr', no fr' → no' fr') : evGuard ops o fr yes' no' :=
  evGuard_congr rfl (fun _ _ => rfl) h hy fun fr1 h1 h2 fr2 h3 => by rw [h1] at h3; cases h3; exact hn _ h2

theorem evGuard_cases {o : Oper} {fr : Fr} {yes : Prop} {no : Fr → Prop} (h : evGuard ops o fr yes no) :
    (yes ∧ ∀ (yes' : Prop) (no' : Fr → Prop), yes' → evGuard ops o fr yes' no') ∨ (∃ fr', fr.put o.dst none = some fr' ∧ no fr' ∧ ∀ (yes' : Prop) (no' : Fr → Prop), no' fr' → evGuard ops o fr yes' no') := by
  have hput : ∀ {no : Fr → Prop}, putK fr o.dst none no → ∃ fr', fr.put o.dst none = some fr' ∧ no fr' ∧ ∀ (no' : Fr → Prop), no' fr' → putK fr o.dst none no' := by
    intro no h
    obtain ⟨fr', h1, h2⟩ := putK_sound h
    exact ⟨fr', h1, h2, fun no' h3 => by unfold putK; rw [h1]; exact h3⟩
  unfold evGuard at h
  cases hg : o.guard with
  | none => rw [hg] at h; exact .inl ⟨h, fun yes' no' hy => by unfold evGuard; rw [hg]; exact hy⟩
  | some jw =>
    obtain ⟨j, want⟩ := jw
    rw [hg] at h
    simp only at h
    cases hy : yieldedV ops fr j with
    | none => rw [hy] at h; exact h.elim
    | some v =>
      rw [hy] at h
      cases v <;> first | exact h.elim | skip
      case junk =>
        obtain ⟨fr', h1, h2, h3⟩ := hput h
        exact .inr ⟨fr', h1, h2, fun yes' no' hn => by unfold evGuard; rw [hg]; simp only [hy]; exact h3 _ hn⟩
      case bo x =>
        cases hx : (x == want) with
        | true =>
          simp only [hx] at h
          exact .inl ⟨h, fun yes' no' hn => by unfold evGuard; rw [hg]; simp only [hy, hx]; exact hn⟩
        | false =>
          simp only [hx] at h
          obtain ⟨fr', h1, h2, h3⟩ := hput h
          exact .inr ⟨fr', h1, h2, fun yes' no' hn => by unfold evGuard; rw [hg]; simp only [hy, hx]; exact h3 _ hn⟩

theorem Rec.mono {base : Nat} {fr0 : Fr} {d d' : DSt} {j : Nat} (h : Rec P X call ops masks base fr0 d j) (hnt : d'.fr.nt = d.fr.nt)
    (hfr : ∀ t i, (i = j ∨ (masks.getD j 0).testBit i = true) → dstOf ops i = some t → d'.fr.t.get t = d.fr.t.get t)
    (hpend : ∀ p ∈ d'.pend, p.at_ = j → p ∈ d.pend)
    (hopen : ∀ t a v, ⟨j, t, a, v⟩ ∈ d.opens → LdOk P t a v d.σ → ⟨j, t, a, v⟩ ∈ d'.opens ∧ LdOk P t a v d'.σ) : Rec P X call ops masks base fr0 d' j := by
  obtain ⟨o, frj, v, ho, hv, hd, hg⟩ := h
  refine ⟨o, frj, v, ho, ⟨hv.nt.trans hnt.symm, fun t u ht => ?_⟩, fun t ht => ?_, evGuard_mono hg (fun hr => ?_) ?_⟩
  · rcases hv.get t u ht with ⟨i, h1, h2, h3⟩ | h1
    · exact .inl ⟨i, h1, h2, by rw [hfr t i (.inr h2) h1]; exact h3⟩
    · exact .inr h1
  · rw [hfr t j (.inl rfl) (by unfold dstOf; rw [ho]; exact ht)]; exact hd t ht
  · cases hr with
    | mem k v' h1 h2 h3 h4 => exact .mem k v' h1 h2 h3 fun p hp e => h4 p (hpend p hp e) e
    | load t x a v' h1 h2 h3 h4 h5 h6 =>
      obtain ⟨g1, g2⟩ := hopen t a v' h5 h4
      exact .load t x a v' h1 h2 h3 g2 g1 fun p hp e => h6 p (hpend p hp e) e
    | pure h1 h2 => exact .pure h1 fun p hp e => h2 p (hpend p hp e) e
  · rintro fr' ⟨h1, h2⟩
    exact ⟨h1, fun p hp e => h2 p (hpend p hp e) e⟩

/-- what holds while a region runs -/
structure Inv (P : Program) (X : Xt) (call : Cl) (ops : List Oper) (masks : List Nat) (fr0 : Fr) (m0 : M) (σ0 : Store) (w0 : World) (dfs : List Deferred) (K : Fr → Store → Prop)
    (listed : Array Bool) (rem : List Nat) (seen : Nat) (d : DSt) (m : M) (a : Act) (w : World) : Prop where
  size : listed.size = ops.length
  closed : ∀ i j, Sx listed i → Pre ops i j → Sx listed j
  sub : ∀ i, Sx listed i → seen.testBit i = true
  recs : ∀ i, seen.testBit i = true → ¬ Sx listed i → Rec P X call ops masks σ0.nx fr0 d i
  smask : ∀ i j, seen.testBit i = true → (masks.getD i 0).testBit j = true → seen.testBit j = true
  ord : ordOk P ops masks rem seen = true
  pend : ∀ p ∈ d.pend, PendOk ops σ0.nx w0.heap.size listed seen d.σ m w p
  pdist : ∀ p ∈ d.pend, ∀ q ∈ d.pend, ∀ r r', m p.name = some r → m q.name = some r' → r.1 = r'.1 → p.name = q.name
  nameM : ∀ b, σ0.nx ≤ b → b < σ0.nx + memNo ops ops.length → m b ≠ none → ∃ i, Sx listed i ∧ MemAt ops i ∧ b = σ0.nx + memNo ops i
  nx : σ0.nx + memNo ops ops.length ≤ d.σ.nx
  fi : FInv ops fr0 listed seen d.fr m a
  defers : a.defers = dfs
  ev : evD P X call ops masks σ0.nx rem d K
  sim : Sim m d.σ w
  keep : Keep m0 σ0 w0 m d.σ w

section steps
variable {fr0 : Fr} {m0 : M} {σ0 : Store} {w0 : World} {dfs : List Deferred} {K : Fr → Store → Prop} {listed : Array Bool} {rem : List Nat} {seen : Nat} {d : DSt} {m : M} {a : Act} {w : World}

theorem Inv.noName (h : Inv P X call ops masks fr0 m0 σ0 w0 dfs K listed rem seen d m a w) {i : Nat} (hi : MemAt ops i) (hn : ¬ Sx listed i) : m (σ0.nx + memNo ops i) = none := by
  cases hm : m (σ0.nx + memNo ops i) with
  | none => rfl
  | some r =>
    obtain ⟨i', h1, h2, h3⟩ := h.nameM (σ0.nx + memNo ops i) (by omega) (by have := memNo_len hi; omega) (by rw [hm]; simp)
    have := memNo_inj hi h2 (by omega)
    subst this
    exact absurd h1 hn
theorem Inv.noBlk (h : Inv P X call ops masks fr0 m0 σ0 w0 dfs K listed rem seen d m a w) {i : Nat} (hi : MemAt ops i) (hn : ¬ Sx listed i) : d.σ.blk (σ0.nx + memNo ops i) = none := by
  cases hb : d.σ.blk (σ0.nx + memNo ops i) with
  | none => rfl
  | some k =>
    obtain ⟨r, hr, _⟩ := h.sim.obj _ _ hb
    rw [h.noName hi hn] at hr; cases hr

/-- one more operation is reckoned -/
theorem Inv.dstep {i : Nat} {rest : List Nat} (h : Inv P X call ops masks fr0 m0 σ0 w0 dfs K listed (i :: rest) seen d m a w) (hT : Tmps ops masks) {o : Oper} (ho : ops[i]? = some o) {v : Option V} {d' : DSt}
    (hfr : d.fr.put o.dst v = some d'.fr) (hσ : d'.σ = d.σ) (hpend : d'.pend = d.pend ∨ ∃ k, isMemOp o = true ∧ d'.pend = ⟨i, σ0.nx + memNo ops i, k⟩ :: d.pend) (hopen : ∀ x ∈ d.opens, x ∈ d'.opens)
    (hrec : Rec P X call ops masks σ0.nx fr0 d' i) (hev : evD P X call ops masks σ0.nx rest d' K) :
    Inv P X call ops masks fr0 m0 σ0 w0 dfs K listed rest (seen ||| (1 <<< i)) d' m a w := by
  obtain ⟨o', ho', hs, hmask, heff, hord⟩ := ordOk_cons h.ord
  rw [ho] at ho'; cases ho'
  have hni : ¬ Sx listed i := fun hx => by rw [h.sub i hx] at hs; cases hs
  have hdst : dstOf ops i = o.dst := by unfold dstOf; rw [ho]; rfl
  obtain ⟨p1, p2, p3⟩ := put_get hfr
  have hmemp : ∀ p ∈ d'.pend, p ∈ d.pend ∨ (isMemOp o = true ∧ p.at_ = i ∧ p.name = σ0.nx + memNo ops i) := by
    intro p hp
    rcases hpend with e | ⟨k, hm, e⟩
    · rw [e] at hp; exact .inl hp
    · rw [e] at hp
      rcases List.mem_cons.1 hp with rfl | hp
      · exact .inr ⟨hm, rfl, rfl⟩
      · exact .inl hp
  constructor
  · exact h.size
  · exact h.closed
  · exact fun j hj => seen_or.2 (.inl (h.sub j hj))
  · intro j hj hnj
    rcases seen_or.1 hj with hj1 | rfl
    · have hij : j ≠ i := fun e => by rw [e, hs] at hj1; cases hj1
      refine (h.recs j hj1 hnj).mono p1 (fun t i' hi' hd' => ?_) (fun p hp e => ?_) fun t a v h1 h2 => ⟨hopen _ h1, by rw [hσ]; exact h2⟩
      · rw [p2]
        split
        · rename_i e
          have := hT.one i' i t hd' (hdst.trans e)
          subst this
          rcases hi' with rfl | hi'
          · exact absurd rfl hij
          · rw [h.smask j _ hj1 hi'] at hs; cases hs
        · rfl
      · rcases hmemp p hp with h1 | ⟨_, h1, _⟩
        · exact h1
        · exact absurd (e.symm.trans h1) hij
    · exact hrec
  · intro i' j hi' hj
    rcases seen_or.1 hi' with hi1 | rfl
    · exact seen_or.2 (.inl (h.smask i' j hi1 hj))
    · exact seen_or.2 (.inl (hmask j hj))
  · exact hord
  · intro p hp
    rcases hmemp p hp with h1 | ⟨h1, h2, h3⟩
    · obtain ⟨g1, g2, g3, g4, g5⟩ := h.pend p h1
      exact ⟨g1, g2, seen_or.2 (.inl g3), by rw [hσ]; exact g4, by rw [hσ]; exact g5⟩
    · have hm : MemAt ops i := ⟨o, ho, h1⟩
      refine ⟨by rw [h2]; exact hm, by rw [h2]; exact h3, by rw [h2]; exact seen_or.2 (.inr rfl), by rw [hσ, h3]; exact h.noBlk hm hni, fun hx => ?_⟩
      rw [h2] at hx; exact absurd hx hni
  · intro p hp q hq r r' hr hr' e
    have hno : isMemOp o = true → m (σ0.nx + memNo ops i) = none := fun hm => h.noName ⟨o, ho, hm⟩ hni
    rcases hmemp p hp with h1 | ⟨h1, h2, h3⟩
    · rcases hmemp q hq with h4 | ⟨h4, h5, h6⟩
      · exact h.pdist p h1 q h4 r r' hr hr' e
      · rw [h6, hno h4] at hr'; cases hr'
    · rw [h3, hno h1] at hr; cases hr
  · exact h.nameM
  · rw [hσ]; exact h.nx
  · exact h.fi.dstep hT hdst hni hfr
  · exact h.defers
  · exact hev
  · rw [hσ]; exact h.sim
  · rw [hσ]; exact h.keep

theorem Inv.viewAt {i : Nat} {rest : List Nat} (h : Inv P X call ops masks fr0 m0 σ0 w0 dfs K listed (i :: rest) seen d m a w) (hT : Tmps ops masks) {o : Oper} (ho : ops[i]? = some o) :
    View ops masks fr0 d.fr i (restr d.fr (looks ops o)) := by
  obtain ⟨o', ho', hs, _⟩ := ordOk_cons h.ord
  exact view_of h.fi hT ho hs h.smask
theorem View.put {fr fr' frj : Fr} {i : Nat} (h : View ops masks fr0 fr i frj) (hnt : fr'.nt = fr.nt) (hfr : ∀ t j, (masks.getD i 0).testBit j = true → dstOf ops j = some t → fr'.t.get t = fr.t.get t) :
    View ops masks fr0 fr' i frj := by
  refine ⟨h.nt.trans hnt.symm, fun t v ht => ?_⟩
  rcases h.get t v ht with ⟨j, h1, h2, h3⟩ | h1
  · exact .inl ⟨j, h1, h2, by rw [hfr t j h2 h1]; exact h3⟩
  · exact .inr h1

/-- all that is no effect is reckoned -/
theorem Inv.advance (hT : Tmps ops masks) : ∀ (rem : List Nat) (seen : Nat) (d : DSt), Inv P X call ops masks fr0 m0 σ0 w0 dfs K listed rem seen d m a w →
    ∃ rem' seen' d', Inv P X call ops masks fr0 m0 σ0 w0 dfs K listed rem' seen' d' m a w ∧ (rem' = [] ∨ ∃ e rest o, rem' = e :: rest ∧ ops[e]? = some o ∧ isEff P o = true) := by
  intro rem
  induction rem with
  | nil => intro seen d h; exact ⟨[], seen, d, h, .inl rfl⟩
  | cons i rest ih =>
    intro seen d h
    obtain ⟨o, ho, hs, hmask, heff, hord⟩ := ordOk_cons h.ord
    by_cases he : isEff P o = true
    · exact ⟨_, seen, d, h, .inr ⟨i, rest, o, rfl, ho, he⟩⟩
    · have hdst : dstOf ops i = o.dst := by unfold dstOf; rw [ho]; rfl
      have hnp : ∀ p ∈ d.pend, p.at_ ≠ i := fun p hp e => by
        have := (h.pend p hp).seen
        rw [e, hs] at this; cases this
      have hview := h.viewAt hT ho
      have hv' : ∀ {v : Option V} {fr' : Fr}, d.fr.put o.dst v = some fr' → View ops masks fr0 fr' i (restr d.fr (looks ops o)) := by
        intro v fr' hp
        obtain ⟨p1, p2, p3⟩ := put_get hp
        refine hview.put p1 fun t j hj hd => ?_
        rw [p2]
        split
        · rename_i e
          have := hT.one j i t hd (hdst.trans e)
          subst this
          rw [hmask _ hj] at hs; cases hs
        · rfl
      have hdv : ∀ {v : Option V} {fr' : Fr}, d.fr.put o.dst v = some fr' → ∀ t, o.dst = some t → fr'.t.get t = some (v.getD .junk) := by
        intro v fr' hp t ht
        obtain ⟨p1, p2, p3⟩ := put_get hp
        rw [p2, if_pos ht]
      have hgr : ∀ {yes : Prop} {no : Fr → Prop}, evGuard ops o d.fr yes (fun _ => no d.fr) → evGuard ops o (restr d.fr (looks ops o)) yes (fun _ => no d.fr) := fun hg =>
        evGuard_congr (fr := d.fr) rfl (fun t ht => by rw [restr_get, if_pos ht]) hg id fun _ _ h _ _ => h
      have hev := h.ev
      simp only [evD, ho] at hev
      rcases evGuard_cases hev with ⟨hy, hG⟩ | ⟨fr', hp, hno, hG⟩
      · cases hcl : clsP P o.op with
        | eff => exact absurd (by unfold isEff; rw [hcl]) he
        | mem =>
          rw [hcl] at hy
          simp only at hy
          cases hm : memV P d.fr.opd (σ0.nx + memNo ops i) o.op with
          | none => rw [hm] at hy; exact hy.elim
          | some ckv =>
            obtain ⟨c, k, v⟩ := ckv
            rw [hm] at hy
            simp only at hy
            obtain ⟨fr', hp, hy⟩ := putK_sound hy
            cases c with
            | false => exact hy.elim
            | true =>
              refine ih _ _ (h.dstep hT ho (v := some v) (d' := ⟨fr', d.σ, ⟨i, σ0.nx + memNo ops i, k⟩ :: d.pend, d.opens⟩) hp rfl (.inr ⟨k, by unfold isMemOp; rw [mem_of_clsP hcl], rfl⟩) (fun _ h => h) ?_ hy)
              refine ⟨o, _, some v, ho, hv' hp, hdv hp, hgr (no := fun _ => _) (hG _ _ (.mem k v (by unfold isMemOp; rw [mem_of_clsP hcl]) rfl ?_ ?_))⟩
              · rw [← memV_congr restr_opd]; exact hm
              · intro p hp e
                rcases List.mem_cons.1 hp with rfl | hp
                · rfl
                · exact absurd e (hnp p hp)
        | load =>
          rw [hcl] at hy
          simp only at hy
          split at hy
          · rename_i t x hop
            cases hx : d.fr.opd x with
            | none => simp only [hx] at hy
            | some av =>
              simp only [hx] at hy
              cases hl : evLoad P t av d.σ with
              | none => simp only [hl] at hy
              | some rs =>
                simp only [hl] at hy
                obtain ⟨fr', hp, hy⟩ := putK_sound hy
                cases hc : rs.c with
                | false => rw [hc] at hy; exact hy.elim
                | true =>
                  rw [hc] at hy
                  simp only [cond_true] at hy
                  have hrv : ∃ v', rs.v = some v' := by
                    unfold evLoad at hl
                    split at hl
                    · split at hl
                      · rename_i k i' _ _
                        obtain ⟨cv, _, g2⟩ := Option.map_eq_some_iff.1 hl
                        subst g2; exact ⟨_, rfl⟩
                      · cases hl
                    · cases hl
                  obtain ⟨v', hv0⟩ := hrv
                  refine ih _ _ (h.dstep hT ho (v := rs.v) (d' := ⟨fr', d.σ, d.pend, ⟨i, t, av, rs.v.getD .junk⟩ :: d.opens⟩) hp rfl (.inl rfl) (fun x hx => List.mem_cons_of_mem _ hx) ?_ hy)
                  refine ⟨o, _, rs.v, ho, hv' hp, hdv hp, hgr (no := fun _ => _) (hG _ _ (.load t x av v' hop ?_ hv0 ⟨rs, v', hl, hc, hv0, fun _ _ h => h⟩ ?_ hnp))⟩
                  · rw [← restr_opd x (by rw [hop]; simp [Op.operands])]; exact hx
                  · simp [hv0]
          · exact hy.elim
        | pure =>
          rw [hcl] at hy
          simp only [evStep] at hy
          obtain ⟨v, hk, hall⟩ := pure_extract (by rw [hcl]) hy
          obtain ⟨fr', hp, hy⟩ := putK_sound hk
          refine ih _ _ (h.dstep hT ho (v := some v) (d' := ⟨fr', d.σ, d.pend, d.opens⟩) hp rfl (.inl rfl) (fun _ h => h) ?_ hy)
          exact ⟨o, _, some v, ho, hv' hp, hdv hp, hgr (no := fun _ => _) (hG _ _ (.pure (fun σ => evOper_congr restr_opd (hall σ _ ⟨rfl, rfl⟩)) hnp))⟩
      · refine ih _ _ (h.dstep hT ho (v := none) (d' := ⟨fr', d.σ, d.pend, d.opens⟩) hp rfl (.inl rfl) (fun _ h => h) ?_ hno)
        exact ⟨o, _, none, ho, hv' hp, hdv hp, hgr (no := fun _ => _) (hG _ _ ⟨rfl, hnp⟩)⟩
end steps
end Go.Ev
