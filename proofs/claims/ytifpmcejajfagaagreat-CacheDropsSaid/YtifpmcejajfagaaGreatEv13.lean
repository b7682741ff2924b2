/- A region whose order is open: what holds while it runs. -/
import Derived.Test.YtifpmcejajfagaaGreatEv12
set_option linter.all false
namespace Go.Ev
variable [Env]
variable {P : Program} {X : Xt} {call : Cl} {ops : List Oper} {masks : List Nat} {base : Nat}

def restr (fr : Fr) (ts : List Tmp) : Fr := ⟨fr.nt, ts.foldr (fun t T => W.put T t (fr.t.get t)) .e⟩
theorem restr_get (fr : Fr) : ∀ (ts : List Tmp) (t : Tmp), (restr fr ts).t.get t = if t ∈ ts then fr.t.get t else none
  | [], t => by simp [restr, W.get_e]
  | s :: ts, t => by
    have ih := restr_get fr ts t
    simp only [restr, List.foldr_cons] at ih ⊢
    rw [W.get_put, ih]
    by_cases e : t = s
    · subst e; simp
    · simp [e]
theorem restr_opd {fr : Fr} {o : Oper} : ∀ x ∈ o.op.operands, fr.opd x = (restr fr (looks ops o)).opd x := by
  intro x hx
  cases x with
  | tmp t =>
    have : t ∈ looks ops o := by
      unfold looks
      refine List.mem_append_left _ (List.mem_filterMap.2 ⟨.tmp t, by simpa using hx, rfl⟩)
    show fr.t.get t = (restr fr (looks ops o)).t.get t
    rw [restr_get, if_pos this]
  | _ => rfl

structure View (ops : List Oper) (masks : List Nat) (fr0 fr : Fr) (j : Nat) (frj : Fr) : Prop where
  nt : frj.nt = fr.nt
  get : ∀ t v, frj.t.get t = some v → (∃ i, dstOf ops i = some t ∧ (masks.getD j 0).testBit i = true ∧ fr.t.get t = some v) ∨
    ((∀ i, dstOf ops i = some t → (masks.getD i 0).testBit j = true) ∧ fr0.t.get t = some v)

theorem put_get {fr fr' : Fr} {d : Option Tmp} {v : Option V} (h : fr.put d v = some fr') : fr'.nt = fr.nt ∧ (∀ t, fr'.t.get t = if d = some t then some (v.getD .junk) else fr.t.get t) ∧ ∀ t, d = some t → t < fr.nt := by
  cases d with
  | none => simp only [Fr.put] at h; cases h; exact ⟨rfl, fun t => by simp, fun t h => by cases h⟩
  | some d =>
    simp only [Fr.put, nblt, Bool.cond_decide] at h
    split at h
    · rename_i hd
      cases h
      refine ⟨rfl, fun t => ?_, fun t h => by cases h; exact hd⟩
      rw [W.get_put]
      by_cases e : t = d
      · subst e; simp
      · rw [if_neg e, if_neg (by simpa using Ne.symm e)]
    · cases h

theorem memV_congr {ρ ρ' : Operand → Option V} {n : Nat} {op : Op} (h : ∀ x ∈ op.operands, ρ x = ρ' x) : memV P ρ n op = memV P ρ' n op := by
  cases op <;> simp only [Op.operands] at h <;> simp only [memV]
  case buildSlice t n ps => rw [opdParts_congr fun x hx => h x (by simpa using hx)]
  all_goals (first | rfl | (simp_all; done))

def Sx (listed : Array Bool) (i : Nat) : Prop := listed.getD i false = true
theorem sx_set {listed : Array Bool} {j i : Nat} (hj : j < listed.size) : Sx (listed.setIfInBounds j true) i ↔ Sx listed i ∨ i = j := by
  unfold Sx
  by_cases e : i = j
  · subst e; simp [hj]
  · simp [Array.getElem?_setIfInBounds_ne (Ne.symm e), e]

structure FInv (ops : List Oper) (fr0 : Fr) (listed : Array Bool) (seen : Nat) (fr : Fr) (m : M) (a : Act) : Prop where
  f1 : ∀ t, (∀ i, seen.testBit i = true → dstOf ops i ≠ some t) → fr.t.get t = fr0.t.get t
  nt : fr.nt = fr0.nt
  asize : a.tmps.size = fr0.nt
  f2 : ∀ t i, Sx listed i → dstOf ops i = some t → ∀ v, fr.t.get t = some v → ∃ u, a.tmps[t]? = some u ∧ VR m v u
  f3 : ∀ t, (∀ i, Sx listed i → dstOf ops i ≠ some t) → ∀ v, fr0.t.get t = some v → ∃ u, a.tmps[t]? = some u ∧ VR m v u
  f4 : ∀ t i, seen.testBit i = true → dstOf ops i = some t → t < fr0.nt

theorem FInv.mono {fr0 fr : Fr} {listed : Array Bool} {seen : Nat} {m m' : M} {a : Act} (h : FInv ops fr0 listed seen fr m a) (hm : M.le m m') : FInv ops fr0 listed seen fr m' a :=
  ⟨h.f1, h.nt, h.asize, fun t i hi hd v hv => let ⟨u, h1, h2⟩ := h.f2 t i hi hd v hv; ⟨u, h1, h2.mono hm⟩, fun t ht v hv => let ⟨u, h1, h2⟩ := h.f3 t ht v hv; ⟨u, h1, h2.mono hm⟩, h.f4⟩

theorem FInv.dstep {fr0 fr fr' : Fr} {listed : Array Bool} {seen : Nat} {m : M} {a : Act} (h : FInv ops fr0 listed seen fr m a) (hT : Tmps ops masks) {i : Nat} {d : Option Tmp} {v : Option V}
    (hd : dstOf ops i = d) (hi : ¬ Sx listed i) (hp : fr.put d v = some fr') : FInv ops fr0 listed (seen ||| (1 <<< i)) fr' m a := by
  obtain ⟨p1, p2, p3⟩ := put_get hp
  constructor
  · intro t ht
    have h1 := ht i (seen_or.2 (.inr rfl))
    rw [hd] at h1
    rw [p2, if_neg h1]
    exact h.f1 t fun i' hi' => ht i' (seen_or.2 (.inl hi'))
  · rw [p1]; exact h.nt
  · exact h.asize
  · intro t i' hi' hd' v' hv'
    rw [p2] at hv'
    split at hv'
    · rename_i e
      exact absurd (hT.one i' i t hd' (hd.trans e)) (fun e => hi (e ▸ hi'))
    · exact h.f2 t i' hi' hd' v' hv'
  · exact h.f3
  · intro t i' hi' hd'
    rcases seen_or.1 hi' with h1 | rfl
    · exact h.f4 t i' h1 hd'
    · rw [← h.nt]; exact p3 t (hd.symm.trans hd')

theorem FInv.real {fr0 fr : Fr} {listed : Array Bool} {seen : Nat} {m : M} {a : Act} (h : FInv ops fr0 listed seen fr m a) (hT : Tmps ops masks) {j : Nat} {d : Option Tmp} {r : Value}
    (hl : j < listed.size) (hd : dstOf ops j = d) (hj : seen.testBit j = true) (hr : ∀ t, d = some t → ∃ v, fr.t.get t = some v ∧ VR m v r) :
    FInv ops fr0 (listed.setIfInBounds j true) seen fr m (a.put d r) := by
  have hsz : (a.put d r).tmps.size = a.tmps.size := by cases d <;> simp [Act.put]
  have hget : ∀ t, d ≠ some t → (a.put d r).tmps[t]? = a.tmps[t]? := by
    intro t ht
    cases d with
    | none => rfl
    | some d => simp only [Act.put]; rw [Array.getElem?_setIfInBounds_ne (by simpa using ht)]
  constructor
  · exact h.f1
  · exact h.nt
  · rw [hsz]; exact h.asize
  · intro t i hi hdi v hv
    rcases (sx_set hl).1 hi with h1 | rfl
    · by_cases e : d = some t
      · have := hT.one i j t hdi (hd.trans e)
        subst this
        obtain ⟨v', g1, g2⟩ := hr t e
        rw [hv] at g1; cases g1
        subst e
        refine ⟨r, ?_, g2⟩
        have := h.f4 t i hj hdi
        simp [Act.put, h.asize, this]
      · rw [hget t e]; exact h.f2 t i h1 hdi v hv
    · rw [hd] at hdi
      obtain ⟨v', g1, g2⟩ := hr t hdi
      rw [hv] at g1; cases g1
      subst hdi
      refine ⟨r, ?_, g2⟩
      have := h.f4 t i hj hd
      simp [Act.put, h.asize, this]
  · intro t ht v hv
    have h1 := ht j ((sx_set hl).2 (.inr rfl))
    rw [hd] at h1
    rw [hget t h1]
    exact h.f3 t (fun i hi => ht i ((sx_set hl).2 (.inl hi))) v hv
  · exact h.f4

/-- what an operation looks at when it runs -/
theorem FInv.view {fr0 fr frj : Fr} {listed : Array Bool} {seen : Nat} {m : M} {a : Act} (h : FInv ops fr0 listed seen fr m a) {j : Nat} (hv : View ops masks fr0 fr j frj)
    (hin : ∀ i, (masks.getD j 0).testBit i = true → Sx listed i) (hout : ∀ i, (masks.getD i 0).testBit j = true → ¬ Sx listed i) : FrR m frj a.tmps := by
  refine ⟨by rw [h.asize, hv.nt, h.nt], fun t v ht => ?_⟩
  rcases hv.get t v ht with ⟨i, h1, h2, h3⟩ | ⟨h1, h2⟩
  · exact h.f2 t i (hin i h2) h1 v h3
  · exact h.f3 t (fun i hi hd => hout i (h1 i hd) hi) v h2

theorem view_of {fr0 fr : Fr} {listed : Array Bool} {seen : Nat} {m : M} {a : Act} (h : FInv ops fr0 listed seen fr m a) (hT : Tmps ops masks) {i : Nat} {o : Oper} (ho : ops[i]? = some o)
    (hs : seen.testBit i = false) (hmask : ∀ i j, seen.testBit i = true → (masks.getD i 0).testBit j = true → seen.testBit j = true) : View ops masks fr0 fr i (restr fr (looks ops o)) := by
  refine ⟨rfl, fun t v ht => ?_⟩
  rw [restr_get] at ht
  split at ht
  · rename_i hl
    by_cases e : ∃ i', dstOf ops i' = some t
    · obtain ⟨i', hi'⟩ := e
      rcases hT.looks i' i o t hi' ho hl with h1 | h1
      · exact .inl ⟨i', hi', h1, ht⟩
      · refine .inr ⟨fun i'' hi'' => by rw [hT.one i'' i' t hi'' hi']; exact h1, ?_⟩
        rw [← h.f1 t fun i'' hs'' hi'' => ?_]; exact ht
        have := hT.one i'' i' t hi'' hi'
        subst this
        rw [hmask _ _ hs'' h1] at hs; cases hs
    · refine .inr ⟨fun i' hi' => absurd ⟨i', hi'⟩ e, ?_⟩
      rw [← h.f1 t fun i' _ hi' => e ⟨i', hi'⟩]; exact ht
  · cases ht

theorem bring_nx (σ : Store) : ∀ (ps : List Pend), (bring σ ps).nx = σ.nx
  | [] => rfl
  | p :: ps => bring_nx σ ps
theorem bring_Γ (σ : Store) : ∀ (ps : List Pend), (bring σ ps).Γ = σ.Γ
  | [] => rfl
  | p :: ps => bring_Γ σ ps
theorem bring_blk (σ : Store) : ∀ (ps : List Pend) (b : Nat), (∃ p ∈ ps, p.name = b ∧ (bring σ ps).blk b = some p.blk) ∨ ((∀ p ∈ ps, p.name ≠ b) ∧ (bring σ ps).blk b = σ.blk b)
  | [], b => .inr ⟨by simp, rfl⟩
  | p :: ps, b => by
    have hb : (bring σ (p :: ps)).blk b = if b = p.name then some p.blk else (bring σ ps).blk b := by
      show (Store.mk (bring σ ps).nx ((bring σ ps).t.put p.name (some (.cells p.blk))) (bring σ ps).Γ).blk b = _
      rw [blk_put]
    by_cases e : b = p.name
    · exact .inl ⟨p, by simp, e.symm, by rw [hb, if_pos e]⟩
    · rw [if_neg e] at hb
      rcases bring_blk σ ps b with ⟨q, h1, h2, h3⟩ | ⟨h1, h2⟩
      · exact .inl ⟨q, by simp [h1], h2, by rw [hb]; exact h3⟩
      · exact .inr ⟨fun q hq => by
          rcases List.mem_cons.1 hq with rfl | hq
          · exact Ne.symm e
          · exact h1 q hq, by rw [hb]; exact h2⟩
theorem bring_one {σ : Store} : ∀ {ps : List Pend} {b : Nat} {x : One}, (bring σ ps).one b = some x → σ.one b = some x
  | [], b, x, h => h
  | p :: ps, b, x, h => by
    have h' : (Store.mk (bring σ ps).nx ((bring σ ps).t.put p.name (some (.cells p.blk))) (bring σ ps).Γ).one b = some x := h
    rw [one_put] at h'
    split at h'
    · cases h'
    · exact bring_one h'
structure Laid (m : M) (σ : Store) (w : World) (lo : Nat) (p : Pend) : Prop where
  ro : p.blk.ro = false
  real : ∃ r, m p.name = some r ∧ BlkR m p.blk r.2 (w.heap[r.1]?) ∧ lo ≤ r.1 ∧ r.1 < w.heap.size ∧ ¬ Seen m σ r.1
theorem bring_sim {m : M} {σ : Store} {w : World} {lo : Nat} (h : Sim m σ w) {ps : List Pend} (hp : ∀ p ∈ ps, Laid m σ w lo p)
    (hd : ∀ p ∈ ps, ∀ q ∈ ps, ∀ r r', m p.name = some r → m q.name = some r' → r.1 = r'.1 → p.name = q.name) : Sim m (bring σ ps) w := by
  refine ⟨fun b r hb => by rw [bring_nx]; exact h.dom b r hb, fun b k hb => ?_, ?_, fun b x hx => h.one b x (bring_one hx), fun b1 b2 x1 x2 r1 r2 h1 h2 => h.oinj b1 b2 x1 x2 r1 r2 (bring_one h1) (bring_one h2), by rw [bring_Γ]; exact h.fact⟩
  · rcases bring_blk σ ps b with ⟨p, h1, h2, h3⟩ | ⟨h1, h2⟩
    · rw [h3] at hb; cases hb
      obtain ⟨r, g1, g2, _⟩ := (hp p h1).real
      exact ⟨r, by rw [← h2]; exact g1, g2⟩
    · rw [h2] at hb; exact h.obj b k hb
  · intro b b' k k' r r' hb hro hb' hne hr hr' e
    rcases bring_blk σ ps b with ⟨p, h1, h2, h3⟩ | ⟨h1, h2⟩
    · rcases bring_blk σ ps b' with ⟨q, h4, h5, h6⟩ | ⟨h4, h5⟩
      · exact absurd (by rw [← h2, ← h5]; exact hd p h1 q h4 r r' (by rw [h2]; exact hr) (by rw [h5]; exact hr') e) hne
      · rw [h5] at hb'
        obtain ⟨r0, g1, _, _, _, g5⟩ := (hp p h1).real
        rw [h2, hr] at g1; cases g1
        exact absurd ⟨b', r', .inl ⟨k', hb'⟩, hr', e.symm⟩ g5
    · rw [h2] at hb
      rcases bring_blk σ ps b' with ⟨q, h4, h5, h6⟩ | ⟨h4, h5⟩
      · obtain ⟨r0, g1, _, _, _, g5⟩ := (hp q h4).real
        rw [h5, hr'] at g1; cases g1
        exact absurd ⟨b, r, .inl ⟨k, hb⟩, hr, e⟩ g5
      · rw [h5] at hb'
        exact h.inj b b' k k' r r' hb hro hb' hne hr hr' e
theorem bring_keep {m0 m : M} {σ0 σ : Store} {w0 w : World} (h : Keep m0 σ0 w0 m σ w) {ps : List Pend} (hp : ∀ p ∈ ps, Laid m σ w w0.heap.size p) (hn : ∀ p ∈ ps, σ0.nx ≤ p.name) :
    Keep m0 σ0 w0 m (bring σ ps) w := by
  have hb : ∀ b, b < σ0.nx → (bring σ ps).blk b = σ.blk b := fun b hb => by
    rcases bring_blk σ ps b with ⟨p, h1, h2, h3⟩ | ⟨h1, h2⟩
    · have := hn p h1; omega
    · exact h2
  have hsee : ∀ b k q, (bring σ ps).blk b = some k → m b = some q → q.1 < w0.heap.size → σ.blk b = some k := fun b k q h1 h2 h3 => by
    rcases bring_blk σ ps b with ⟨p, g1, g2, g3⟩ | ⟨g1, g2⟩
    · obtain ⟨r, f1, _, f3, _⟩ := (hp p g1).real
      rw [g2, h2] at f1; cases f1; omega
    · rw [g2] at h1; exact h1
  refine ⟨h.le, h.os, h.tape, h.output, h.size, h.heap, ?_, by rw [bring_nx]; exact h.nx, h.old, ?_, ?_, ?_⟩
  · rintro r hr ⟨b, q, ⟨k, h1, h2⟩ | ⟨x, h1⟩, h3, h4⟩
    · exact h.mine r hr ⟨b, q, .inl ⟨k, hsee b k q h1 h3 (by omega), h2⟩, h3, h4⟩
    · exact h.mine r hr ⟨b, q, .inr ⟨x, bring_one h1⟩, h3, h4⟩
  · intro b k k' hlt h1 h2
    rw [hb b hlt] at h2
    exact h.log b k k' hlt h1 h2
  · intro b hlt hnone
    rw [hb b hlt]; exact h.gone b hlt hnone
  · rintro r hr ⟨b, q, ⟨k, h1⟩ | ⟨x, h1⟩, h3, h4⟩
    · exact h.seen r hr ⟨b, q, .inl ⟨k, hsee b k q h1 h3 (by omega)⟩, h3, h4⟩
    · exact h.seen r hr ⟨b, q, .inr ⟨x, bring_one h1⟩, h3, h4⟩
theorem seen_bring {m : M} {σ : Store} {ps : List Pend} {r : Nat} (h : Seen m (bring σ ps) r) : Seen m σ r ∨ ∃ p ∈ ps, ∃ q, m p.name = some q ∧ q.1 = r := by
  obtain ⟨b, q, ⟨k, h1⟩ | ⟨x, h1⟩, h2, h3⟩ := h
  · rcases bring_blk σ ps b with ⟨p, g1, g2, g3⟩ | ⟨g1, g2⟩
    · exact .inr ⟨p, g1, q, by rw [g2]; exact h2, h3⟩
    · rw [g2] at h1; exact .inl ⟨b, q, .inl ⟨k, h1⟩, h2, h3⟩
  · exact .inl ⟨b, q, .inr ⟨x, bring_one h1⟩, h2, h3⟩
end Go.Ev
