/- A region whose order is open: each order is sound. -/
import Derived.Test.YtifpmcejajfagaaGreatEv14
set_option linter.all false
namespace Go.Ev
variable [Env]
variable {P : Program} {X : Xt} {call : Cl} {ops : List Oper} {masks : List Nat}
section steps
variable {fr0 : Fr} {m0 : M} {σ0 : Store} {w0 : World} {dfs : List Deferred} {K : Fr → Store → Prop} {listed : Array Bool} {rem : List Nat} {seen : Nat} {d : DSt} {m : M} {a : Act} {w : World}

theorem BlkR.mono {m m' : M} (hm : M.le m m') {k : Blk} {c : Nat} {o : Option Obj} (h : BlkR m k c o) : BlkR m' k c o := by
  obtain ⟨c, fz, h1, h2, h3, h4, h5⟩ := h
  exact ⟨c, fz, h1, h2, h3, h4.mono hm, h5⟩
theorem mine_seen {m : M} {σ : Store} {r : Nat} (h : Mine m σ r) : Seen m σ r := by
  obtain ⟨b, q, h1, h3, h4⟩ := h
  exact ⟨b, q, h1.imp (fun ⟨k, h, _⟩ => ⟨k, h⟩) id, h3, h4⟩

/-- an operation that is reckoned has run -/
theorem Inv.real (h : Inv P X call ops masks fr0 m0 σ0 w0 dfs K listed rem seen d m a w) (hT : Tmps ops masks) {j : Nat} {o : Oper} (ho : ops[j]? = some o) (hsj : seen.testBit j = true) (hnj : ¬ Sx listed j)
    (hpre : ∀ i, Pre ops j i → Sx listed i) {m' : M} {w' : World} {r : Value} (hval : ∀ t, o.dst = some t → ∃ v, d.fr.t.get t = some v ∧ VR m' v r)
    (hle : M.le m m') (hsim : Sim m' d.σ w') (hkeep : Keep m0 σ0 w0 m' d.σ w') (hsize : w.heap.size ≤ w'.heap.size) (hheap : ∀ r, r < w.heap.size → ¬ Mine m d.σ r → w'.heap[r]? = w.heap[r]?)
    (hseen : ∀ r, r < w.heap.size → Seen m' d.σ r → Seen m d.σ r)
    (hname : ∀ b, σ0.nx ≤ b → b < σ0.nx + memNo ops ops.length → m' b ≠ none → m b ≠ none ∨ (MemAt ops j ∧ b = σ0.nx + memNo ops j))
    (hnew : ∀ p ∈ d.pend, p.at_ = j → Laid m' d.σ w' w.heap.size p) :
    Inv P X call ops masks fr0 m0 σ0 w0 dfs K (listed.setIfInBounds j true) rem seen d m' (a.put o.dst r) w' := by
  have hl : j < listed.size := by rw [h.size]; exact (List.getElem?_eq_some_iff.1 ho).1
  have hdst : dstOf ops j = o.dst := by unfold dstOf; rw [ho]; rfl
  have tri : ∀ p ∈ d.pend, ∀ r, m' p.name = some r → (m p.name = some r ∧ r.1 < w.heap.size) ∨ (p.at_ = j ∧ w.heap.size ≤ r.1) := by
    intro p hp r hr
    have hP := h.pend p hp
    by_cases e : p.at_ = j
    · obtain ⟨r', g1, _, g3, _⟩ := (hnew p hp e).real
      rw [hr] at g1; cases g1
      exact .inr ⟨e, g3⟩
    · by_cases hx : Sx listed p.at_
      · obtain ⟨r', g1, _, _, g4, _⟩ := (hP.real hx).real
        rw [hle _ _ g1] at hr; cases hr
        exact .inl ⟨g1, g4⟩
      · have h0 : m p.name = none := by rw [hP.name]; exact h.noName hP.mem hx
        rcases hname p.name (by rw [hP.name]; omega) (by rw [hP.name]; have := memNo_len hP.mem; omega) (by rw [hr]; simp) with h1 | ⟨h1, h2⟩
        · exact absurd h0 h1
        · rw [hP.name] at h2
          exact absurd (memNo_inj hP.mem h1 (by omega)) e
  constructor
  · simp [h.size]
  · intro i i' hi hp
    rcases (sx_set hl).1 hi with h1 | rfl
    · exact (sx_set hl).2 (.inl (h.closed i i' h1 hp))
    · exact (sx_set hl).2 (.inl (hpre i' hp))
  · intro i hi
    rcases (sx_set hl).1 hi with h1 | rfl
    · exact h.sub i h1
    · exact hsj
  · exact fun i hi hni => h.recs i hi fun hx => hni ((sx_set hl).2 (.inl hx))
  · exact h.smask
  · exact h.ord
  · intro p hp
    obtain ⟨g1, g2, g3, g4, g5⟩ := h.pend p hp
    refine ⟨g1, g2, g3, g4, fun hx => ?_⟩
    by_cases e : p.at_ = j
    · obtain ⟨f1, r, f2, f3, f4, f5⟩ := hnew p hp e
      exact ⟨f1, r, f2, f3, Nat.le_trans h.keep.size f4, f5⟩
    · rcases (sx_set hl).1 hx with hx | hx
      · obtain ⟨f1, r, f2, f3, f4, f5, f6⟩ := g5 hx
        exact ⟨f1, r, hle _ _ f2, by rw [hheap _ f5 fun hm => f6 (mine_seen hm)]; exact f3.mono hle, f4, by omega, fun hs => f6 (hseen _ f5 hs)⟩
      · exact absurd hx e
  · intro p hp q hq r r' hr hr' e
    rcases tri p hp r hr with ⟨h1, h2⟩ | ⟨h1, h2⟩
    · rcases tri q hq r' hr' with ⟨h3, h4⟩ | ⟨h3, h4⟩
      · exact h.pdist p hp q hq r r' h1 h3 e
      · omega
    · rcases tri q hq r' hr' with ⟨h3, h4⟩ | ⟨h3, h4⟩
      · omega
      · rw [(h.pend p hp).name, (h.pend q hq).name, h1, h3]
  · intro b h1 h2 h3
    rcases hname b h1 h2 h3 with h4 | ⟨h4, h5⟩
    · obtain ⟨i, g1, g2, g3⟩ := h.nameM b h1 h2 h4
      exact ⟨i, (sx_set hl).2 (.inl g1), g2, g3⟩
    · exact ⟨j, (sx_set hl).2 (.inr rfl), h4, h5⟩
  · exact h.nx
  · exact (h.fi.mono hle).real hT hl hdst hsj hval
  · exact (Act.put_defers' ..).trans h.defers
  · exact h.ev
  · exact hsim
  · exact hkeep

theorem grow_le {m : M} {N : Nat} {q : Nat × Nat} (hN : m N = none) : M.le m (m.put N q) := by
  intro b r hb
  unfold M.put
  rw [if_neg (fun e => by subst e; rw [hN] at hb; cases hb)]; exact hb
theorem grow_sim {m : M} {σ : Store} {w : World} (h : Sim m σ w) {N : Nat} (hN : m N = none) (hn : N < σ.nx) (ob : Obj) (s : Nat) :
    Sim (m.put N (w.heap.size, s)) σ { w with heap := w.heap.push ob } ∧ (∀ b q, σ.has b → m.put N (w.heap.size, s) b = some q → m b = some q) := by
  have hb : ∀ b q, σ.has b → m.put N (w.heap.size, s) b = some q → m b = some q := by
    intro b q hb hq
    have hr : ∃ r, m b = some r := by
      rcases hb with ⟨k, hb⟩ | ⟨x, hb⟩
      · obtain ⟨r, hr, _⟩ := h.obj b k hb; exact ⟨r, hr⟩
      · obtain ⟨r, hr, _⟩ := h.one b x hb; exact ⟨r, hr⟩
    obtain ⟨r, hr⟩ := hr
    unfold M.put at hq
    rw [if_neg (fun e => by subst e; rw [hN] at hr; cases hr)] at hq; exact hq
  refine ⟨⟨?_, ?_, ?_, ?_, ?_, h.fact⟩, hb⟩
  · intro b r hr
    unfold M.put at hr
    split at hr
    · rename_i e; cases hr; subst e; exact ⟨hn, by simp⟩
    · obtain ⟨h1, h2⟩ := h.dom b r hr
      exact ⟨h1, by simp only [Array.size_push]; omega⟩
  · intro b k hk
    obtain ⟨r, hr, hB⟩ := h.obj b k hk
    refine ⟨r, grow_le hN _ _ hr, ?_⟩
    have := (h.dom b r hr).2
    have e : (w.heap.push ob)[r.1]? = w.heap[r.1]? := by rw [Array.getElem?_push, if_neg (by omega)]
    show BlkR _ _ _ (w.heap.push ob)[r.1]?
    rw [e]; exact hB.mono (grow_le hN)
  · intro b b' k k' r r' h1 hro h2 hne hr hr' e
    exact h.inj b b' k k' r r' h1 hro h2 hne (hb _ _ (.inl ⟨_, h1⟩) hr) (hb _ _ (.inl ⟨_, h2⟩) hr') e
  · intro b x hx
    obtain ⟨r, hr, hO⟩ := h.one b x hx
    refine ⟨r, grow_le hN _ _ hr, ?_⟩
    have := (h.dom b r hr).2
    have e : (w.heap.push ob)[r.1]? = w.heap[r.1]? := by rw [Array.getElem?_push, if_neg (by omega)]
    show OneR _ _ (w.heap.push ob)[r.1]?
    rw [e]; exact hO.mono (grow_le hN)
  · intro b b' x x' r r' h1 h2 hne hr hr'
    exact h.oinj b b' x x' r r' h1 h2 hne (hb _ _ (.inr ⟨_, h1⟩) hr) (hb _ _ (.inr ⟨_, h2⟩) hr')

theorem Inv.masked (h : Inv P X call ops masks fr0 m0 σ0 w0 dfs K listed rem seen d m a w) (hR : ∀ i j, (masks.getD i 0).testBit j = true → Reach ops i j) {j : Nat} (hpre : ∀ i, Pre ops j i → Sx listed i) :
    ∀ i, (masks.getD j 0).testBit i = true → Sx listed i := fun i hi => (hR j i hi).mem h.closed hpre
theorem Inv.unmasked (h : Inv P X call ops masks fr0 m0 σ0 w0 dfs K listed rem seen d m a w) (hR : ∀ i j, (masks.getD i 0).testBit j = true → Reach ops i j) {j : Nat} (hnj : ¬ Sx listed j) :
    ∀ i, (masks.getD i 0).testBit j = true → ¬ Sx listed i := fun i hi hs => hnj ((hR i j hi).mem h.closed fun i' hi' => h.closed i i' hs hi')

/-- an operation that is reckoned runs -/
theorem Inv.step_real (hX : XOk P X) (hcall : ClOk P call) (hT : Tmps ops masks) (hR : ∀ i j, (masks.getD i 0).testBit j = true → Reach ops i j)
    (h : Inv P X call ops masks fr0 m0 σ0 w0 dfs K listed rem seen d m a w) {j : Nat} {o : Oper} (ho : ops[j]? = some o) (hsj : seen.testBit j = true) (hnj : ¬ Sx listed j)
    (hpre : ∀ i, Pre ops j i → Sx listed i) {next : Act → World → Prop} {Q : Exit → Act → World → Prop}
    (hn : ∀ m' a' w', Inv P X call ops masks fr0 m0 σ0 w0 dfs K (listed.setIfInBounds j true) rem seen d m' a' w' → next a' w') : wpOp P ops.toArray Q j next a w := by
  obtain ⟨o', frj, v, ho', hv, hd, hg⟩ := h.recs j hsj hnj
  rw [ho] at ho'; cases ho'
  have hf : FrR m frj a.tmps := h.fi.view hv (h.masked hR hpre) (h.unmasked hR hnj)
  unfold wpOp
  rw [show ops.toArray[j]? = some o by simpa using ho]
  simp only
  rcases guard_sound hf hg with ⟨hw, hy⟩ | ⟨hw, fr', hp, hv0, hno⟩
  · rw [if_pos hw]
    left
    cases hy with
    | mem k v' h1 h2 h3 h4 =>
      subst h2
      have hM : MemAt ops j := ⟨o, ho, h1⟩
      have hN := h.noName hM hnj
      have hlt : σ0.nx + memNo ops j < d.σ.nx := by have := h.nx; have := memNo_len hM; omega
      obtain ⟨c, r, g1, g2, g3, g4, g6, g5⟩ := mem_raw (P := P) (w := w) hf.rr h3
      obtain ⟨s1, s2⟩ := grow_sim h.sim hN hlt (.cells c k.elem) c.size
      have hput : m.put (σ0.nx + memNo ops j) (w.heap.size, c.size) (σ0.nx + memNo ops j) = some (w.heap.size, c.size) := by simp [M.put]
      have hold : ∀ x, x < w.heap.size → (w.heap.push (Obj.cells c k.elem))[x]? = w.heap[x]? := fun x hx => by
        rw [Array.getElem?_push, if_neg (by omega)]
      have hsee : ∀ r, Seen (m.put (σ0.nx + memNo ops j) (w.heap.size, c.size)) d.σ r → Seen m d.σ r := by
        rintro r ⟨b, q, f1, f2, f3⟩
        exact ⟨b, q, f1, s2 _ _ f1 f2, f3⟩
      unfold Oper.wp
      rw [g1]
      simp only [Oper.upon]
      refine hn _ _ _ (h.real hT ho hsj hnj hpre (m' := m.put (σ0.nx + memNo ops j) (w.heap.size, c.size)) (fun t ht => ⟨v', hd t ht, g5 _ hput⟩) (grow_le hN) s1 ?_ (by simp) (fun r hr _ => hold r hr) (fun r _ hs => hsee r hs) ?_ ?_)
      · have hk := h.keep
        refine ⟨M.le_trans hk.le (grow_le hN), hk.os, hk.tape, hk.output, by simp only [Array.size_push]; have := hk.size; omega, fun r hr hm => ?_, ?_, hk.nx, fun b hb => ?_, hk.log, hk.gone, fun r hr hs => hk.seen r hr (hsee r hs)⟩
        · have := hk.size
          show (w.heap.push (Obj.cells c k.elem))[r]? = _
          rw [hold r (by omega)]; exact hk.heap r hr hm
        · rintro r hr ⟨b, q, f1, f3, f4⟩
          exact hk.mine r hr ⟨b, q, f1, s2 _ _ (f1.imp (fun ⟨k, h, _⟩ => ⟨k, h⟩) id) f3, f4⟩
        · unfold M.put
          rw [if_neg (by omega)]; exact hk.old b hb
      · intro b hb1 hb2 hb3
        by_cases e : b = σ0.nx + memNo ops j
        · exact .inr ⟨hM, e⟩
        · unfold M.put at hb3; rw [if_neg e] at hb3; exact .inl hb3
      · intro p hp e
        have := h4 p hp e
        subst this
        refine ⟨g4, _, hput, ⟨c, (0, 0), ?_, rfl, g3, g2.mono (grow_le hN), fun _ j hj => (by simp), g6⟩, Nat.le_refl _, by simp, ?_⟩
        · simp
        · rintro ⟨b, q, f1, f2, f3⟩
          have := (h.sim.dom b q (s2 _ _ f1 f2)).2
          simp only at f3
          omega
    | load t x av v' h1 h2 h3 h4 h5 h6 =>
      subst h3
      obtain ⟨r, g1, g2⟩ := h4.run h.sim (hf.rr _ _ h2)
      have hrun : (execOp a.eval o).run P w = .ok (.value r) w := by
        obtain ⟨dst, op, type, pos, after, guard⟩ := o
        simp only at h1
        subst h1
        simp only [execOp, Sem.run_bind, g1, Result.andThen_ok, Sem.run_pure]
      unfold Oper.wp
      rw [hrun]
      simp only [Oper.upon]
      exact hn _ _ _ (h.real hT ho hsj hnj hpre (fun t ht => ⟨v', hd t ht, g2⟩) (M.le_refl m) h.sim h.keep (Nat.le_refl _) (fun _ _ _ => rfl) (fun _ _ hs => hs) (fun b _ _ hb => .inl hb) fun p hp e => absurd e (h6 p hp))
    | pure h1 h2 =>
      refine oper_sound hX hcall h.sim hf.rr (h1 d.σ) fun v' σ' m' r w' hk g1 g2 g3 => ?_
      obtain ⟨rfl, rfl⟩ := hk
      refine hn _ _ _ (h.real hT ho hsj hnj hpre (fun t ht => ⟨_, hd t ht, g1⟩) g3.le g2 (h.keep.trans g3) g3.size g3.heap g3.seen (fun b hb1 hb2 hb3 => .inl ?_) fun p hp e => absurd e (h2 p hp))
      have := h.nx
      rw [← g3.old b (by omega)]; exact hb3
  · rw [if_neg (by rw [hw]; simp)]
    subst hv0
    exact hn _ _ _ (h.real hT ho hsj hnj hpre (fun t ht => ⟨_, hd t ht, rfl⟩) (M.le_refl m) h.sim h.keep (Nat.le_refl _) (fun _ _ _ => rfl) (fun _ _ hs => hs) (fun b _ _ hb => .inl hb) fun p hp e => absurd e (hno p hp))

theorem opensOk_spec {mk : Nat} {σ σ' : Store} : ∀ {l : List Opn}, opensOk P mk σ σ' l = true → ∀ x ∈ l, mk.testBit x.at_ = true ∨ untouchedV P σ σ' x.t x.a = true
  | [], _, x, hx => by simp at hx
  | y :: l, h, x, hx => by
    simp only [opensOk, Bool.and_eq_true, Bool.or_eq_true] at h
    rcases List.mem_cons.1 hx with rfl | hx
    · exact h.1
    · exact opensOk_spec h.2 x hx

/-- an effect runs -/
theorem Inv.step_eff (hX : XOk P X) (hcall : ClOk P call) (hT : Tmps ops masks) (hR : ∀ i j, (masks.getD i 0).testBit j = true → Reach ops i j) {e : Nat} {rest : List Nat}
    (h : Inv P X call ops masks fr0 m0 σ0 w0 dfs K listed (e :: rest) seen d m a w) {o : Oper} (ho : ops[e]? = some o) (he : isEff P o = true)
    (hpre : ∀ i, Pre ops e i → Sx listed i) {next : Act → World → Prop} {Q : Exit → Act → World → Prop}
    (hn : ∀ m' d' a' w', Inv P X call ops masks fr0 m0 σ0 w0 dfs K (listed.setIfInBounds e true) rest (seen ||| (1 <<< e)) d' m' a' w' → next a' w') : wpOp P ops.toArray Q e next a w := by
  obtain ⟨o', ho', hs, hmask, heff, hord⟩ := ordOk_cons h.ord
  rw [ho] at ho'; cases ho'
  have hne : ¬ Sx listed e := fun hx => by rw [h.sub e hx] at hs; cases hs
  have hl : e < listed.size := by rw [h.size]; exact (List.getElem?_eq_some_iff.1 ho).1
  have hdst : dstOf ops e = o.dst := by unfold dstOf; rw [ho]; rfl
  have hnp : ∀ p ∈ d.pend, p.at_ ≠ e := fun p hp e' => by
    have := (h.pend p hp).seen
    rw [e', hs] at this; cases this
  have hview := h.viewAt hT ho
  have hev := h.ev
  simp only [evD, ho] at hev
  rcases evGuard_cases hev with ⟨hy, hG⟩ | ⟨fr', hp, hno, hG⟩
  · have hcl : clsP P o.op = .eff := by
      unfold isEff at he
      cases hc : clsP P o.op <;> rw [hc] at he <;> first | rfl | cases he
    rw [hcl] at hy
    simp only [evStep] at hy
    have hf : FrR m (restr d.fr (looks ops o)) a.tmps := h.fi.view hview (h.masked hR hpre) (h.unmasked hR hne)
    have hin := h.masked hR hpre
    have hg : evGuard ops o (restr d.fr (looks ops o)) True (fun _ => False) :=
      evGuard_congr (fr := d.fr) rfl (fun t ht => by rw [restr_get, if_pos ht]) (hG True (fun _ => False) trivial) id fun _ _ h _ _ => h
    unfold wpOp
    rw [show ops.toArray[e]? = some o by simpa using ho]
    simp only
    rcases guard_sound hf hg with ⟨hw, _⟩ | ⟨_, _, _, hno⟩
    · rw [if_pos hw]
      left
      have hps : ∀ p ∈ d.pend.filter (fun p => (masks.getD e 0).testBit p.at_), p ∈ d.pend ∧ Laid m d.σ w w0.heap.size p := fun p hp => by
        obtain ⟨h1, h2⟩ := List.mem_filter.1 hp
        exact ⟨h1, (h.pend p h1).real (hin _ h2)⟩
      have sim1 := bring_sim h.sim (fun p hp => (hps p hp).2) fun p hp q hq => h.pdist p (hps p hp).1 q (hps q hq).1
      have keep1 := bring_keep h.keep (fun p hp => (hps p hp).2) fun p hp => by rw [(h.pend p (hps p hp).1).name]; omega
      have hblk : ∀ b k, d.σ.blk b = some k → (bring d.σ (d.pend.filter fun p => (masks.getD e 0).testBit p.at_)).blk b = some k := fun b k hb => by
        rcases bring_blk d.σ (d.pend.filter fun p => (masks.getD e 0).testBit p.at_) b with ⟨p, h1, h2, h3⟩ | ⟨h1, h2⟩
        · have := (h.pend p (hps p h1).1).gone
          rw [h2, hb] at this; cases this
        · rw [h2]; exact hb
      refine oper_sound hX hcall sim1 hf.rr (evOper_congr restr_opd hy) fun v σ2 m' r w' hk g1 g2 g3 => ?_
      obtain ⟨fr', hp, hk⟩ := putK_sound hk
      cases hop : opensOk P (masks.getD e 0) (bring d.σ (d.pend.filter fun p => (masks.getD e 0).testBit p.at_)) σ2 d.opens with
      | false => rw [hop] at hk; exact hk.elim
      | true =>
        rw [hop] at hk
        simp only [cond_true] at hk
        have hopen := opensOk_spec hop
        obtain ⟨p1, p2, p3⟩ := put_get hp
        have hnx1 : (bring d.σ (d.pend.filter fun p => (masks.getD e 0).testBit p.at_)).nx = d.σ.nx := bring_nx _ _
        have hnx := h.nx
        have hlater : ∀ p ∈ d.pend.filter (fun p => !(masks.getD e 0).testBit p.at_), p ∈ d.pend ∧ (masks.getD e 0).testBit p.at_ = false ∧
            (bring d.σ (d.pend.filter fun p => (masks.getD e 0).testBit p.at_)).blk p.name = none ∧ p.name < d.σ.nx ∧ (∀ q ∈ d.pend.filter (fun p => (masks.getD e 0).testBit p.at_), q.name ≠ p.name) := fun p hp => by
          obtain ⟨h1, h2⟩ := List.mem_filter.1 hp
          have h2' : (masks.getD e 0).testBit p.at_ = false := by simpa using h2
          have hP := h.pend p h1
          have hdiff : ∀ q ∈ d.pend.filter (fun p => (masks.getD e 0).testBit p.at_), q.name ≠ p.name := fun q hq eq => by
            obtain ⟨f1, f2⟩ := List.mem_filter.1 hq
            have hQ := h.pend q f1
            rw [hP.name, hQ.name] at eq
            have := memNo_inj hQ.mem hP.mem (by omega)
            rw [this, h2'] at f2; cases f2
          refine ⟨h1, h2', ?_, by rw [hP.name]; have := memNo_len hP.mem; omega, hdiff⟩
          rcases bring_blk d.σ (d.pend.filter fun p => (masks.getD e 0).testBit p.at_) p.name with ⟨q, f1, f2, f3⟩ | ⟨f1, f2⟩
          · exact absurd f2 (hdiff q f1)
          · rw [f2]; exact hP.gone
        refine hn m' ⟨fr', σ2, _, _⟩ _ w' ⟨?_, ?_, ?_, ?_, ?_, hord, ?_, ?_, ?_, ?_, ?_, (Act.put_defers' ..).trans h.defers, hk, g2, keep1.trans g3⟩
        · simp [h.size]
        · intro i i' hi hp
          rcases (sx_set hl).1 hi with h1 | rfl
          · exact (sx_set hl).2 (.inl (h.closed i i' h1 hp))
          · exact (sx_set hl).2 (.inl (hpre i' hp))
        · intro i hi
          rcases (sx_set hl).1 hi with h1 | rfl
          · exact seen_or.2 (.inl (h.sub i h1))
          · exact seen_or.2 (.inr rfl)
        · intro i hi hni
          have hni' : ¬ Sx listed i := fun hx => hni ((sx_set hl).2 (.inl hx))
          have hie : i ≠ e := fun e' => hni ((sx_set hl).2 (.inr e'))
          rcases seen_or.1 hi with hi1 | hi1
          · have hmi : (masks.getD e 0).testBit i = false := by
              cases hb : (masks.getD e 0).testBit i with
              | false => rfl
              | true => exact absurd (hin i hb) hni'
            refine (h.recs i hi1 hni').mono p1 (fun t i' hi' hd' => ?_) (fun p hp _ => (List.mem_filter.1 hp).1) fun t av v h1 h2 => ?_
            · simp only [p2]
              split
              · rename_i e1
                have := hT.one i' e t hd' (hdst.trans e1)
                subst this
                rcases hi' with rfl | hi'
                · exact absurd rfl hie
                · rw [h.smask i _ hi1 hi'] at hs; cases hs
              · rfl
            · refine ⟨List.mem_filter.2 ⟨h1, by show (!(masks.getD e 0).testBit i) = true; rw [hmi]; rfl⟩, ?_⟩
              rcases hopen _ h1 with h3 | h3
              · rw [hmi] at h3; cases h3
              · exact (h2.of_blk hblk).untouched sim1 g3 h3
          · exact absurd hi1 hie
        · intro i' j hi' hj
          rcases seen_or.1 hi' with hi1 | rfl
          · exact seen_or.2 (.inl (h.smask i' j hi1 hj))
          · exact seen_or.2 (.inl (hmask j hj))
        · intro p hp
          obtain ⟨h1, h2, h3, h4, h5⟩ := hlater p hp
          obtain ⟨f1, f2, f3, f4, f5⟩ := h.pend p h1
          refine ⟨f1, f2, seen_or.2 (.inl f3), g3.gone _ (by rw [hnx1]; exact h4) h3, fun hx => ?_⟩
          rcases (sx_set hl).1 hx with hx | hx
          · obtain ⟨e1, r0, e2, e3, e4, e5, e6⟩ := f5 hx
            have hns : ¬ Seen m (bring d.σ (d.pend.filter fun p => (masks.getD e 0).testBit p.at_)) r0.1 := fun hsn => by
              rcases seen_bring hsn with hsn | ⟨q, q1, q2, q3, q4⟩
              · exact e6 hsn
              · exact h5 q q1 (h.pdist q (hps q q1).1 p h1 q2 r0 q3 e2 q4)
            refine ⟨e1, r0, g3.le _ _ e2, ?_, e4, Nat.lt_of_lt_of_le e5 g3.size, fun hsn => hns (g3.seen _ e5 hsn)⟩
            rw [g3.heap _ e5 fun hm => hns (mine_seen hm)]
            exact e3.mono g3.le
          · exact absurd hx (hnp p h1)
        · intro p hp q hq r1 r2 hr1 hr2 e1
          obtain ⟨h1, _, _, h4, _⟩ := hlater p hp
          obtain ⟨f1, _, _, f4, _⟩ := hlater q hq
          rw [g3.old _ (by rw [hnx1]; exact h4)] at hr1
          rw [g3.old _ (by rw [hnx1]; exact f4)] at hr2
          exact h.pdist p h1 q f1 r1 r2 hr1 hr2 e1
        · intro b h1 h2 h3
          rw [g3.old b (by rw [hnx1]; omega)] at h3
          obtain ⟨i, f1, f2, f3⟩ := h.nameM b h1 h2 h3
          exact ⟨i, (sx_set hl).2 (.inl f1), f2, f3⟩
        · have := g3.nx
          rw [hnx1] at this
          exact Nat.le_trans hnx this
        · exact ((h.fi.mono g3.le).dstep hT hdst hne hp).real hT hl hdst (seen_or.2 (.inr rfl)) fun t ht => ⟨_, by rw [p2, if_pos ht], g1⟩
    · exact hno.elim
  · have hv' : View ops masks fr0 fr' e (restr d.fr (looks ops o)) := by
      obtain ⟨p1, p2, p3⟩ := put_get hp
      refine hview.put p1 fun t j hj hd => ?_
      rw [p2]
      split
      · rename_i e1
        have := hT.one j e t hd (hdst.trans e1)
        subst this
        rw [hmask _ hj] at hs; cases hs
      · rfl
    have h' := h.dstep hT ho (v := none) (d' := ⟨fr', d.σ, d.pend, d.opens⟩) hp rfl (.inl rfl) (fun _ h => h)
      ⟨o, _, none, ho, hv', fun t ht => by rw [(put_get hp).2.1, if_pos ht], evGuard_congr (fr := d.fr) rfl (fun t ht => by rw [restr_get, if_pos ht]) (hG _ (fun _ => none = none ∧ ∀ p ∈ d.pend, p.at_ ≠ e) ⟨rfl, hnp⟩) id fun _ _ h _ _ => h⟩ hno
    exact h'.step_real hX hcall hT hR ho (seen_or.2 (.inr rfl)) hne hpre fun m' a' w' hi => hn m' _ a' w' hi

def unl (listed : Array Bool) : Nat := listed.toList.count false
theorem count_set : ∀ (l : List Bool) (j : Nat), l[j]? = some false → (l.set j true).count false + 1 = l.count false
  | [], j, h => by simp at h
  | b :: l, 0, h => by simp only [List.getElem?_cons_zero, Option.some.injEq] at h; subst h; simp
  | b :: l, j + 1, h => by
    simp only [List.getElem?_cons_succ] at h
    have := count_set l j h
    simp only [List.set_cons_succ, List.count_cons]
    omega
theorem unl_set {listed : Array Bool} {j : Nat} (h : listed[j]? = some false) : unl (listed.setIfInBounds j true) + 1 = unl listed := by
  unfold unl
  rw [Array.toList_setIfInBounds]
  exact count_set _ _ (by simpa using h)
theorem getD_false {listed : Array Bool} {j : Nat} (h : listed.getD j true = false) : listed[j]? = some false := by
  rw [Array.getD_eq_getD_getElem?] at h
  cases hl : listed[j]? with
  | none => rw [hl] at h; cases h
  | some b => rw [hl] at h; simp only [Option.getD_some] at h; rw [h]

theorem run_any (hX : XOk P X) (hcall : ClOk P call) (hT : Tmps ops masks) (hR : ∀ i j, (masks.getD i 0).testBit j = true → Reach ops i j) (hb : backOk ops 0 = true) {Q : Exit → Act → World → Prop}
    (hn : ∀ fr' σ' m' a' w', K fr' σ' → FrR m' fr' a'.tmps → Sim m' σ' w' → Keep m0 σ0 w0 m' σ' w' → a'.defers = dfs → Q .normal a' w') :
    ∀ (fuel : Nat) (listed : Array Bool) (rem : List Nat) (seen : Nat) (d : DSt) (m : M) (a : Act) (w : World), unl listed ≤ fuel → Inv P X call ops masks fr0 m0 σ0 w0 dfs K listed rem seen d m a w →
      (rem = [] ∨ ∃ e rest o, rem = e :: rest ∧ ops[e]? = some o ∧ isEff P o = true) → wpAny P .any ops.toArray Q fuel listed a w := by
  have final : ∀ (listed : Array Bool) (rem : List Nat) (seen : Nat) (d : DSt) (m : M) (a : Act) (w : World), Inv P X call ops masks fr0 m0 σ0 w0 dfs K listed rem seen d m a w →
      Region.ready .any ops.toArray listed = [] → Q .normal a w := by
    intro listed rem seen d m a w h hr
    have hall := all_listed hb h.size hr
    have hx : ∀ i d, dstOf ops i = some d → Sx listed i := fun i d hd => by
      unfold dstOf at hd
      cases ho : ops[i]? with
      | none => rw [ho] at hd; cases hd
      | some o => exact hall i (List.getElem?_eq_some_iff.1 ho).1
    cases rem with
    | cons e rest =>
      obtain ⟨o, ho, hs, _⟩ := ordOk_cons h.ord
      have := h.sub e (hall e (List.getElem?_eq_some_iff.1 ho).1)
      rw [hs] at this; cases this
    | nil =>
      have hps : ∀ p ∈ d.pend, Laid m d.σ w w0.heap.size p := fun p hp => by
        obtain ⟨⟨o, ho, _⟩, _, _, _, g5⟩ := h.pend p hp
        exact g5 (hall _ (List.getElem?_eq_some_iff.1 ho).1)
      refine hn d.fr (bring d.σ d.pend) m a w h.ev ⟨by rw [h.fi.asize, h.fi.nt], fun t v ht => ?_⟩ (bring_sim h.sim hps h.pdist) (bring_keep h.keep hps fun p hp => by rw [(h.pend p hp).name]; omega) h.defers
      by_cases e : ∃ i, dstOf ops i = some t
      · obtain ⟨i, hi⟩ := e
        exact h.fi.f2 t i (hx i t hi) hi v ht
      · refine h.fi.f3 t (fun i _ hi => e ⟨i, hi⟩) v ?_
        rw [← h.fi.f1 t fun i _ hi => e ⟨i, hi⟩]; exact ht
  intro fuel
  induction fuel with
  | zero =>
    intro listed rem seen d m a w hf h hrem
    have hr : Region.ready .any ops.toArray listed = [] := by
      rw [List.eq_nil_iff_forall_not_mem]
      intro i hi
      have := getD_false (pre_ready hi).1
      have := unl_set this
      omega
    exact ⟨hr, final listed rem seen d m a w h hr⟩
  | succ fuel ih =>
    intro listed rem seen d m a w hf h hrem
    refine ⟨final listed rem seen d m a w h, fun i hi => ?_⟩
    obtain ⟨h1, ⟨o, ho⟩, hpre⟩ := pre_ready hi
    have hlf := getD_false h1
    have hu := unl_set hlf
    have hnx : ¬ Sx listed i := fun hx => by
      unfold Sx at hx
      rw [Array.getD_eq_getD_getElem?, hlf] at hx; cases hx
    by_cases hsi : seen.testBit i = true
    · exact h.step_real hX hcall hT hR ho hsi hnx hpre fun m' a' w' h' => ih _ rem seen d m' a' w' (by omega) h' hrem
    · rcases ordOk_all h.ord i (List.getElem?_eq_some_iff.1 ho).1 with h2 | h2
      · exact absurd h2 hsi
      · rcases hrem with rfl | ⟨e, rest, o', rfl, ho', he⟩
        · simp at h2
        · obtain ⟨o2, ho2, hs, hmask, heff, hord⟩ := ordOk_cons h.ord
          rw [ho'] at ho2; cases ho2
          rcases List.mem_cons.1 h2 with rfl | h2
          · rw [ho] at ho'; cases ho'
            refine h.step_eff hX hcall hT hR ho he hpre fun m' d' a' w' h' => ?_
            obtain ⟨rem', seen', d2, h3, h4⟩ := h'.advance hT
            exact ih _ rem' seen' d2 m' a' w' (by omega) h3 h4
          · have := h.sub e ((h.masked hR hpre) e (heff he i h2))
            rw [hs] at this; cases this
end steps

theorem draw_ok (hm : P.follows .mixedOrders = true) (hX : XOk P X) (hcall : ClOk P call) : DrawOk P X call := by
  intro id ops m σ w fr a K Q hS hf hK hn
  unfold evRegionD at hK
  simp only at hK
  cases hc : (backOk ops.toList 0 && (ordOk P ops.toList (masksOf ops.toList []) (orderFrom P ops.toList (masksOf ops.toList []) (effs P ops.toList 0) (effs P ops.toList 0) 0) 0 && tmpsOk ops.toList (masksOf ops.toList []) ops.toList 0)) with
  | false => rw [hc] at hK; exact hK.elim
  | true =>
    rw [hc] at hK
    simp only [cond_true] at hK
    simp only [Bool.and_eq_true] at hc
    obtain ⟨hb, ho, ht⟩ := hc
    have hT := tmps_of ht
    have hR : ∀ i j, ((masksOf ops.toList []).getD i 0).testBit j = true → Reach ops.toList i j := fun i j h => masks_reach h
    have hS' : Sim m ⟨σ.nx + memNo ops.toList ops.toList.length, σ.t, σ.Γ⟩ w.drew := ⟨fun b r hb => by
      obtain ⟨h1, h2⟩ := hS.dom b r hb
      exact ⟨by simp only; omega, h2⟩, hS.obj, hS.inj, hS.one, hS.oinj, hS.fact⟩
    have hk0 : Keep m σ w.drew m ⟨σ.nx + memNo ops.toList ops.toList.length, σ.t, σ.Γ⟩ w.drew := ⟨M.le_refl m, rfl, rfl, rfl, Nat.le_refl _, fun _ _ _ => rfl, fun _ _ h => h, by simp, fun _ _ => rfl,
      fun b k k' _ h h' => by
        have : σ.blk b = some k' := h'
        rw [h] at this; cases this; exact ⟨rfl, [], rfl, fun _ _ _ => rfl⟩, fun _ _ h => h, fun _ _ h => h⟩
    have hnot : ∀ i, ¬ Sx (Array.replicate ops.size false) i := fun i hx => by
      unfold Sx at hx
      rw [Array.getD_eq_getD_getElem?, Array.getElem?_replicate] at hx
      split at hx <;> cases hx
    have hI : Inv P X call ops.toList (masksOf ops.toList []) fr m σ w.drew a.defers K (Array.replicate ops.size false) (orderFrom P ops.toList (masksOf ops.toList []) (effs P ops.toList 0) (effs P ops.toList 0) 0) 0
        ⟨fr, ⟨σ.nx + memNo ops.toList ops.toList.length, σ.t, σ.Γ⟩, [], []⟩ m a w.drew := by
      refine ⟨by simp, fun i j hi => absurd hi (hnot i), fun i hi => absurd hi (hnot i), fun i hi => by simp at hi, fun i j hi => by simp at hi, ho, fun p hp => by simp at hp, fun p hp => by simp at hp, fun b h1 h2 h3 => ?_,
        Nat.le_refl _, ⟨fun _ _ => rfl, rfl, hf.size, fun t i hi => absurd hi (hnot i), fun t _ v hv => hf.get t v hv, fun t i hi => by simp at hi⟩, rfl, hK, hS', hk0⟩
      cases hmb : m b with
      | none => exact absurd hmb h3
      | some r => have := (hS.dom b r hmb).1; omega
    obtain ⟨rem', seen', d', hI', hrem⟩ := hI.advance hT
    refine wp_region_any hm ?_
    have := run_any hX hcall hT hR hb (Q := Q) (fun fr' σ' m' a' w' h1 h2 h3 h4 h5 => hn a' w' ⟨fr', σ', m', h1, h2, h3, h4.drew, h5⟩) ops.size (Array.replicate ops.size false) rem' seen' d' m a w.drew
      (by unfold unl; simp) hI' hrem
    simpa using this
end Go.Ev
