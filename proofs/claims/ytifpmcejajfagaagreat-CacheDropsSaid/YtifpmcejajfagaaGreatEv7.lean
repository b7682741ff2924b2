/- append, copy; all operations that call no Go function. -/
import Derived.Test.YtifpmcejajfagaaGreatEv6
set_option linter.all false
namespace Go.Ev
variable [Env]
variable {P : Program}

theorem src_len {m : M} {σ : Store} {x : V} {n : Nat} {g : Nat → V} (h : srcCells σ x = some (n, g)) {y : Value} (hy : VR m x y) (w : World) :
    (Builtin.lenOf y).run P w = .ok n w := by
  unfold srcCells at h
  split at h
  · cases h; obtain ⟨_, _, rfl⟩ := hy; rfl
  · cases h; obtain ⟨rfl, rfl, rfl⟩ := hy; rfl
  · rename_i a len c z
    cases hk : σ.blk a.b with
    | none => simp [hk] at h
    | some k =>
      simp only [hk, Option.map_some, Option.some.injEq, Prod.mk.injEq] at h
      obtain ⟨rfl, _⟩ := h
      obtain ⟨r, c', hr, rfl, _⟩ := hy
      rfl
  · cases h; simp only [VR] at hy; subst hy; rfl
  · cases h

theorem src_cells {m : M} {σ : Store} {w : World} (hS : Sim m σ w) {x : V} {n : Nat} {g : Nat → V} (h : srcCells σ x = some (n, g)) {sz : Nat} (hf : srcFits σ sz x = true) {y : Value} (hy : VR m x y)
    {k : Nat} (hk : k ≤ n) : ∃ c : Array Value, (Builtin.firstCells sz k y).run P w = .ok c w ∧ c.size = k * sz ∧ CR m (k * sz) g c.toList := by
  unfold srcCells at h
  split at h
  · cases h
    obtain ⟨_, _, rfl⟩ := hy
    have : k = 0 := by omega
    subst this
    refine ⟨#[], ?_, by simp, fun j hj => by omega⟩
    simp only [Builtin.firstCells, Nat.zero_mul]
    rfl
  · cases h
    obtain ⟨rfl, rfl, rfl⟩ := hy
    have : k = 0 := by omega
    subst this
    exact ⟨#[], rfl, by simp, fun j hj => by omega⟩
  · rename_i a len c z
    cases hb : σ.blk a.b with
    | none => simp [hb] at h
    | some b =>
      simp only [hb, Option.map_some, Option.some.injEq, Prod.mk.injEq] at h
      obtain ⟨rfl, rfl⟩ := h
      simp only [srcFits, hb, nble, decide_eq_true_eq] at hf
      obtain ⟨r, c', hr, rfl, _⟩ := hy
      obtain ⟨r2, cs, fz, hr2, hh, hs, hkn, hcr, _⟩ := hS.cells hb
      rw [hr] at hr2; cases hr2
      have hle : k * sz ≤ len * sz := Nat.mul_le_mul_right _ hk
      have hcell : ∀ j, w.cell? ⟨r.1, a.o + j, none⟩ = cs[a.o + j]? := fun j => cell_at hh
      have hload : (loadCells ⟨r.1, a.o, none⟩ (k * sz)).run P w = .ok ((List.range (k * sz)).map fun j => cs.getD (a.o + j) undef).toArray w :=
        run_loadCells w _ (k * sz) _ (fun j hj => by
          obtain ⟨x, g1, _⟩ := hcr (a.o + j) (by omega)
          rw [Array.getElem?_toList] at g1
          rw [addr_add, hcell, g1]; simp [Array.getD_eq_getD_getElem?, g1])
      refine ⟨_, hload, by simp, fun j hj => ?_⟩
      obtain ⟨x, g1, g2, g3⟩ := hcr (a.o + j) (by omega)
      rw [Array.getElem?_toList] at g1
      refine ⟨x, ?_, g2, g3⟩
      simp [hj, Array.getD_eq_getD_getElem?, g1]
  · rename_i s
    cases h
    simp only [VR] at hy; subst hy
    simp only [srcFits, nbeq, decide_eq_true_eq] at hf
    subst hf
    refine ⟨(s.extract 0 k).data.map fun b => .int .u8 b.toNat, rfl, ?_, fun j hj => ?_⟩
    · have : (s.extract 0 k).data.size = min k s.size - 0 := by simp [ByteArray.size_data]
      simp; omega
    · have hj' : j < s.size := by omega
      have hjd : j < s.data.size := by simpa using hj'
      refine ⟨.int .u8 s[j].toNat, ?_, ?_, rfl⟩
      · rw [Array.getElem?_toList, Array.getElem?_map, ByteArray.data_extract, Array.getElem?_extract, if_pos (by omega)]
        rw [Nat.zero_add, Array.getElem?_eq_getElem hjd]
        rfl
      · show VR m (.i .u8 (((s[j]?).map fun b => (b.toNat : Int)).getD 0)) _
        have : s[j]? = some s[j] := by simp [hj']
        rw [this]; rfl
  · cases h

theorem Sim.setRo {m : M} {σ : Store} {w : World} (h : Sim m σ w) {b : Nat} {k : Blk} (hk : σ.blk b = some k) :
    Sim m ⟨σ.nx, Ev.setRo σ.t b k, σ.Γ⟩ w ∧ Keep m σ w m ⟨σ.nx, Ev.setRo σ.t b k, σ.Γ⟩ w := by
  have hb : ∀ b', (Store.mk σ.nx (Ev.setRo σ.t b k) σ.Γ).blk b' = if b' = b then some ⟨k.n, k.get, k.elem, true, [], k.log, none⟩ else σ.blk b' := fun b' => by
    unfold Ev.setRo; rw [blk_put]
  have ho : ∀ b' x, (Store.mk σ.nx (Ev.setRo σ.t b k) σ.Γ).one b' = some x → σ.one b' = some x := fun b' x hx => by
    unfold Ev.setRo at hx
    rw [one_put] at hx
    split at hx
    · cases hx
    · exact hx
  refine ⟨⟨h.dom, ?_, ?_, fun b' x hx => h.one b' x (ho b' x hx), fun b1 b2 x1 x2 r1 r2 h1 h2 => h.oinj b1 b2 x1 x2 r1 r2 (ho _ _ h1) (ho _ _ h2), h.fact⟩, ?_⟩
  · intro b' k' hb'
    rw [hb] at hb'
    split at hb'
    · rename_i e; subst e; cases hb'
      obtain ⟨r, hr, c, fz, h1, h2, h3, h4, h5⟩ := h.obj _ _ hk
      exact ⟨r, hr, c, fz, h1, h2, h3, h4, fun hh => (by cases hh), fun _ hh => (by cases hh)⟩
    · exact h.obj _ _ hb'
  · intro b1 b2 k1 k2 r1 r2 h1 hro h2 hne hr1 hr2 e
    rw [hb] at h1 h2
    split at h1
    · cases h1; cases hro
    · split at h2
      · rename_i e2; subst e2; cases h2
        have hh := h.inj b1 b2 k1 k r1 r2 h1 hro hk hne hr1 hr2 e
        exact ⟨hh.1, rfl, hh.2.2⟩
      · exact h.inj b1 b2 k1 k2 r1 r2 h1 hro h2 hne hr1 hr2 e
  · refine ⟨M.le_refl m, rfl, rfl, rfl, Nat.le_refl _, fun _ _ _ => rfl, ?_, Nat.le_refl _, fun _ _ => rfl, ?_, ?_, ?_⟩
    · rintro x hx ⟨b', q, ⟨k', hb', hro⟩ | ⟨y, hy⟩, hq, e⟩
      rotate_left
      · exact ⟨b', q, .inr ⟨y, ho _ _ hy⟩, hq, e⟩
      rw [hb] at hb'
      split at hb'
      · cases hb'; cases hro
      · exact ⟨b', q, .inl ⟨k', hb', hro⟩, hq, e⟩
    · intro b' k1 k2 _ h1 h2
      rw [hb] at h2
      split at h2
      · rename_i e; subst e; rw [hk] at h1; cases h1; cases h2
        exact ⟨rfl, [], rfl, fun _ _ _ => rfl⟩
      · rw [h1] at h2; cases h2; exact ⟨rfl, [], rfl, fun _ _ _ => rfl⟩
    · intro b' _ hn
      rw [hb, if_neg (fun e => by subst e; rw [hk] at hn; cases hn)]; exact hn
    · rintro x hx ⟨b', q, ⟨k', hb'⟩ | ⟨y, hy⟩, hq, e⟩
      rotate_left
      · exact ⟨b', q, .inr ⟨y, ho _ _ hy⟩, hq, e⟩
      rw [hb] at hb'
      split at hb'
      · rename_i e1; subst e1; exact ⟨_, q, .inl ⟨k, hk⟩, hq, e⟩
      · exact ⟨b', q, .inl ⟨k', hb'⟩, hq, e⟩

/-- a block that goes on where another one did, in the same memory -/
theorem Sim.alias {m : M} {σ : Store} {w w' : World} (h : Sim m σ w) {b : Nat} {k k2 : Blk} (hk : σ.blk b = some k) (hro : k.ro = false) {r : Nat × Nat} (hr : m b = some r)
    {c c' : Array Value} {fz : Nat × Nat} (hh : w.heap[r.1]? = some (.cells c k.elem fz)) (hw : Wrote r.1 c' k.elem fz w w') (hs : c'.size = r.2) (hfz : ∀ j, j < r.2 → ¬ (fz.1 ≤ j ∧ j < fz.2))
    (hold : ∀ j, j < k.n → c'[j]? = c[j]?) (he : k2.elem = k.elem) (hc : CR m k2.n k2.get c'.toList) (hn : k2.n ≤ r.2) (hm : k2.mates = b :: k.mates) (hkn : k.n ≤ r.2) (hk2n : k.n ≤ k2.n) (hsc : c.size = r.2) (hcr : CR m k.n k.get c.toList) (hk2z : k2.z = none) :
    Sim (m.put σ.nx r) ((Store.mk σ.nx (Ev.setRo σ.t b k) σ.Γ).new k2) w' ∧ Keep m σ w (m.put σ.nx r) ((Store.mk σ.nx (Ev.setRo σ.t b k) σ.Γ).new k2) w' := by
  have hle : M.le m (m.put σ.nx r) := by
    intro x q hx
    have := (h.dom x q hx).1
    unfold M.put
    rw [if_neg (by omega)]; exact hx
  have hbn : b < σ.nx := (h.dom b r hr).1
  have hb : ∀ b', ((Store.mk σ.nx (Ev.setRo σ.t b k) σ.Γ).new k2).blk b' = if b' = σ.nx then some k2 else if b' = b then some ⟨k.n, k.get, k.elem, true, [], k.log, none⟩ else σ.blk b' := fun b' => by
    rw [blk_new]; unfold Ev.setRo; rw [blk_put]
  have ho : ∀ b' x, ((Store.mk σ.nx (Ev.setRo σ.t b k) σ.Γ).new k2).one b' = some x → b' ≠ σ.nx ∧ σ.one b' = some x := fun b' x hx => by
    rw [one_new] at hx
    split at hx
    · cases hx
    · rename_i e1
      unfold Ev.setRo at hx
      rw [one_put] at hx
      split at hx
      · cases hx
      · exact ⟨e1, hx⟩
  have hothers : ∀ b' k', σ.blk b' = some k' → b' ≠ b → ∀ r', m b' = some r' → r'.1 = r.1 → b' ∈ k.mates ∧ k'.ro = true ∧ k'.n ≤ k.n := fun b' k' hb' hne r' hr' e =>
    h.inj b b' k k' r r' hk hro hb' (Ne.symm hne) hr hr' e.symm
  refine ⟨⟨?_, ?_, ?_, ?_, ?_, h.fact⟩, ?_⟩
  · intro x q hx
    unfold M.put at hx
    simp only [Store.new]
    split at hx
    · cases hx; rename_i e; subst e; exact ⟨by omega, by rw [hw.size]; exact (h.dom b r hr).2⟩
    · obtain ⟨h1, h2⟩ := h.dom x q hx; exact ⟨by omega, by rw [hw.size]; exact h2⟩
  · intro b' k' hb'
    rw [hb] at hb'
    split at hb'
    · rename_i e1; subst e1; cases hb'
      exact ⟨r, by simp [M.put], c', fz, by rw [he]; exact hw.here, hs, hn, hc.mono hle, fun _ => hfz, fun _ hh => by rw [hk2z] at hh; cases hh⟩
    · rename_i e1
      split at hb'
      · rename_i e2; subst e2; cases hb'
        refine ⟨r, hle _ _ hr, c', fz, hw.here, hs, hkn, fun j hj => ?_, fun hh => (by cases hh), fun _ hh => (by cases hh)⟩
        obtain ⟨v, g1, g2, g3⟩ := hcr j hj
        refine ⟨v, ?_, g2.mono hle, g3⟩
        rw [Array.getElem?_toList] at g1 ⊢
        rw [hold j hj]; exact g1
      · rename_i e2
        obtain ⟨r', hr', c1, fz1, h1, h2, h3, h4, h5⟩ := h.obj b' k' hb'
        by_cases er : r'.1 = r.1
        ·
          obtain ⟨_, hk'ro, hk'n⟩ := hothers b' k' hb' e2 r' hr' er
          rw [er, hh] at h1
          injection h1 with h1
          injection h1 with e3 e4 e5
          subst e3
          have hs' : r'.2 = r.2 := by rw [← h2, ← hsc]
          refine ⟨r', hle _ _ hr', c', fz, by rw [er, ← e4]; exact hw.here, by rw [hs, hs'], h3, fun j hj => ?_, fun hf => (by rw [hk'ro] at hf; cases hf), fun e' he' => (by have := (h5.2 e' he').1; rw [hk'ro] at this; cases this)⟩
          obtain ⟨v, g1, g2, g3⟩ := h4 j hj
          refine ⟨v, ?_, g2.mono hle, g3⟩
          rw [Array.getElem?_toList] at g1 ⊢
          rw [hold j (by omega)]; exact g1
        · exact ⟨r', hle _ _ hr', c1, fz1, by rw [hw.there _ er]; exact h1, h2, h3, h4.mono hle, h5⟩
  · intro b1 b2 k1 k2' r1 r2 h1 hro1 h2 hne hr1 hr2 e
    rw [hb] at h1 h2
    unfold M.put at hr1 hr2
    by_cases e1 : b1 = σ.nx
    · rw [if_pos e1] at h1 hr1
      rw [if_neg (fun hh => hne (e1.trans hh.symm))] at h2 hr2
      cases h1; cases hr1
      by_cases e2 : b2 = b
      · subst e2
        rw [if_pos rfl] at h2
        cases h2
        rw [hm]
        exact ⟨by simp, rfl, hk2n⟩
      · rw [if_neg e2] at h2
        obtain ⟨g1, g2, g3⟩ := hothers b2 k2' h2 e2 r2 hr2 e.symm
        rw [hm]
        exact ⟨by simp [g1], g2, by omega⟩
    · rw [if_neg e1] at h1 hr1
      by_cases e2 : b1 = b
      · rw [if_pos e2] at h1; cases h1; cases hro1
      · rw [if_neg e2] at h1
        have hb1 : r1.1 ≠ r.1 := fun er => by
          obtain ⟨_, g2, _⟩ := hothers b1 k1 h1 e2 r1 hr1 er
          rw [hro1] at g2; cases g2
        by_cases e3 : b2 = σ.nx
        · rw [if_pos e3] at hr2; cases hr2; exact absurd e hb1
        · rw [if_neg e3] at h2 hr2
          by_cases e4 : b2 = b
          · subst e4; rw [hr] at hr2; cases hr2; exact absurd e hb1
          · rw [if_neg e4] at h2
            exact h.inj b1 b2 k1 k2' r1 r2 h1 hro1 h2 hne hr1 hr2 e
  · intro b' x hx
    obtain ⟨e1, hx⟩ := ho b' x hx
    obtain ⟨r', hr', hO⟩ := h.one b' x hx
    exact ⟨r', hle _ _ hr', by rw [hw.there _ (h.apart hk hx hr hr')]; exact hO.mono hle⟩
  · intro b1 b2 x1 x2 r1 r2 h1 h2 hne hr1 hr2
    obtain ⟨e1, h1⟩ := ho _ _ h1
    obtain ⟨e2, h2⟩ := ho _ _ h2
    unfold M.put at hr1 hr2
    rw [if_neg e1] at hr1
    rw [if_neg e2] at hr2
    exact h.oinj b1 b2 x1 x2 r1 r2 h1 h2 hne hr1 hr2
  · refine ⟨hle, hw.os, hw.tape, hw.output, Nat.le_of_eq hw.size.symm, ?_, ?_, by simp [Store.new], ?_, ?_, ?_, ?_⟩
    · intro x hx hn'
      exact hw.there x fun e => hn' ⟨b, r, .inl ⟨k, hk, hro⟩, hr, e.symm⟩
    · rintro x hx ⟨b', q, ⟨k', hb', hro'⟩ | ⟨y, hy⟩, hq, e⟩
      rotate_left
      · obtain ⟨e1, hy⟩ := ho _ _ hy
        unfold M.put at hq
        rw [if_neg e1] at hq
        exact ⟨b', q, .inr ⟨y, hy⟩, hq, e⟩
      rw [hb] at hb'
      unfold M.put at hq
      by_cases e1 : b' = σ.nx
      · rw [if_pos e1] at hq; cases hq; exact ⟨b, r, .inl ⟨k, hk, hro⟩, hr, e⟩
      · rw [if_neg e1] at hb' hq
        by_cases e2 : b' = b
        · rw [if_pos e2] at hb'; cases hb'; cases hro'
        · rw [if_neg e2] at hb'; exact ⟨b', q, .inl ⟨k', hb', hro'⟩, hq, e⟩
    · intro x hx; unfold M.put; rw [if_neg (by omega)]
    · intro b' k1 k2' hb' h1 h2
      rw [hb, if_neg (by omega)] at h2
      split at h2
      · rename_i e; subst e; rw [hk] at h1; cases h1; cases h2
        exact ⟨rfl, [], rfl, fun _ _ _ => rfl⟩
      · rw [h1] at h2; cases h2; exact ⟨rfl, [], rfl, fun _ _ _ => rfl⟩
    · intro b' hb' hnone
      rw [hb, if_neg (by omega), if_neg (fun e => by subst e; rw [hk] at hnone; cases hnone)]; exact hnone
    · rintro x hx ⟨b', q, ⟨k', hb'⟩ | ⟨y, hy⟩, hq, e⟩
      rotate_left
      · obtain ⟨e1, hy⟩ := ho _ _ hy
        unfold M.put at hq
        rw [if_neg e1] at hq
        exact ⟨b', q, .inr ⟨y, hy⟩, hq, e⟩
      rw [hb] at hb'
      unfold M.put at hq
      by_cases e1 : b' = σ.nx
      · rw [if_pos e1] at hq; cases hq; exact ⟨b, r, .inl ⟨k, hk⟩, hr, e⟩
      · rw [if_neg e1] at hb' hq
        by_cases e2 : b' = b
        · rw [if_pos e2] at hb'; cases hb'; exact ⟨b, q, .inl ⟨k, hk⟩, by rw [← e2]; exact hq, e⟩
        · rw [if_neg e2] at hb'; exact ⟨b', q, .inl ⟨k', hb'⟩, hq, e⟩

theorem appRow_CR {m : M} {n0 n1 : Nat} {g0 g1 : Nat → V} {c0 c1 : List Value} (h0 : CR m n0 g0 c0) (l0 : c0.length = n0) (h1 : CR m n1 g1 c1) (rest : List Value) :
    CR m (n0 + n1) (appRow n0 g0 g1) (c0 ++ c1 ++ rest) := by
  intro j hj
  unfold appRow
  rw [nblt]
  by_cases h : j < n0
  · simp only [h, decide_true, cond_true]
    obtain ⟨v, e1, e2, e3⟩ := h0 j h
    refine ⟨v, ?_, e2, e3⟩
    rw [List.append_assoc, List.getElem?_append_left (by omega)]; exact e1
  · simp only [h, decide_false, cond_false]
    obtain ⟨v, e1, e2, e3⟩ := h1 (j - n0) (by omega)
    have hlt : j - n0 < c1.length := (List.getElem?_eq_some_iff.1 e1).1
    refine ⟨v, ?_, e2, e3⟩
    rw [List.append_assoc, List.getElem?_append_right (by omega), l0, List.getElem?_append_left hlt]; exact e1

/-- append that makes a new row, as the model runs it -/
theorem append_grow_run {t u e : TypeId} {du : TypeDesc} {i : TypeInfo} {z : Value} {ts : Array TypeId} {ty : TypeId} {w : World} (h0 : ts[0]? = some t) (h1 : ts[1]? = some u)
    (hd : P.underlying t = some (.slice e)) (hu : P.underlying u = some du) (hnu : notInt du = true) (hi : P.info? e = some i) (hz : i.zero = some z) (hby : 0 < i.bytes)
    {base : Option Addr} {len cap n : Nat} {y : Value} (hl : (Builtin.lenOf y).run P w = .ok n w) (hneed : cap < len + n) (hb : (len + n) * i.bytes ≤ 140737488355328)
    {old new : Array Value} (ho : (Builtin.firstCells i.size len (.slice base len cap)).run P w.drew = .ok old w.drew)
    (hn : (Builtin.firstCells i.size n y).run P w.drew = .ok new w.drew) :
    ∃ nc, len + n ≤ nc ∧ (Builtin.append_ ts ty #[.slice base len cap, y]).run P w =
      .ok (.slice (some ⟨w.drew.heap.size, 0, none⟩) (len + n) nc) { w.drew with heap := w.drew.heap.push (.cells (old ++ new ++ Builtin.zeroCells z.cells (nc - (len + n))) e) } := by
  refine ⟨(Question.appendCap (len + n) cap e).cut (w.tape w.drawn (.appendCap (len + n) cap e)), by simp [Question.cut], ?_⟩
  have hfits : ¬ Builtin.nextslicecap (len + n) cap * i.bytes > 2 ^ 48 := by
    have := growslice_fits hneed hb
    omega
  have hnf : ¬ (len + n ≤ cap) := by omega
  unfold Builtin.append_
  simp only [h0, h1, List.getElem?_toArray, List.getElem?_cons_zero, List.getElem?_cons_succ, Sem.run_bind, run_underlying hd, Result.andThen_ok, sizeOf_run hi, run_underlying hu, Sem.run_pure]
  split
  · simp [notInt] at hnu
  · simp only [Sem.run_bind, hl, Result.andThen_ok, if_neg hnf, Bool.false_eq_true, if_false, false_or, typeInfo_run hi, Bool.not_false, if_true]
    have hmax : ¬ (((len + n : Nat) : Int) > IntKind.i64.max ∧ i.bytes = 0) := fun h => by omega
    have hch : (choose (.appendCap (len + n) cap e)).run P w = .ok ((Question.appendCap (len + n) cap e).cut (w.tape w.drawn (.appendCap (len + n) cap e))) w.drew := by
      rw [run_choose]; rfl
    rw [if_neg hmax]
    simp only [Sem.run_bind, typeInfo_run hi, Result.andThen_ok, if_neg hfits, hch, run_askRoom]
    simp only [ho, hn, Result.andThen_ok, zeroValue_run hi hz, newRow_run, Sem.run_pure]

theorem append_fit_run {t u e : TypeId} {du : TypeDesc} {i : TypeInfo} {ts : Array TypeId} {ty : TypeId} {w w' : World} (h0 : ts[0]? = some t) (h1 : ts[1]? = some u)
    (hd : P.underlying t = some (.slice e)) (hu : P.underlying u = some du) (hnu : notInt du = true) (hi : P.info? e = some i)
    {base : Option Addr} {len cap n : Nat} {y : Value} (hl : (Builtin.lenOf y).run P w = .ok n w) (hneed : len + n ≤ cap) {new : Array Value}
    (hn : (Builtin.firstCells i.size n y).run P w = .ok new w) (hs : ∀ a, base = some a → (storeCells (a.add (len * i.size)) new.toList).run P w = .ok () w') (hb : base = none → w' = w) :
    (Builtin.append_ ts ty #[.slice base len cap, y]).run P w = .ok (.slice base (len + n) cap) w' := by
  unfold Builtin.append_
  simp only [h0, h1, List.getElem?_toArray, List.getElem?_cons_zero, List.getElem?_cons_succ, Sem.run_bind, run_underlying hd, Result.andThen_ok, sizeOf_run hi, run_underlying hu, Sem.run_pure]
  split
  · simp [notInt] at hnu
  · simp only [Sem.run_bind, hl, Result.andThen_ok, if_pos hneed, Bool.false_eq_true, if_false, Bool.not_false, if_true, hn]
    cases base with
    | none => simp only [Sem.run_pure, hb rfl]
    | some a => simp only [Sem.run_bind, hs a rfl, Result.andThen_ok, Sem.run_pure]

theorem Sim.drew {m : M} {σ : Store} {w : World} (h : Sim m σ w) : Sim m σ w.drew := ⟨h.dom, h.obj, h.inj, h.one, h.oinj, h.fact⟩
theorem Keep.drew {m m' : M} {σ σ' : Store} {w w' : World} (h : Keep m σ w.drew m' σ' w') : Keep m σ w m' σ' w' :=
  ⟨h.le, h.os, h.tape, h.output, h.size, h.heap, h.mine, h.nx, h.old, h.log, h.gone, h.seen⟩

theorem append_sound {m : M} {σ : Store} {w : World} (h : Sim m σ w) {t u : TypeId} {s x : V} {rs : Rs} (he : evAppend P t u s x σ = some rs) (hc : rs.c = true)
    {a b : Value} (ha : VR m s a) (hb : VR m x b) {ts : Array TypeId} (h0 : ts[0]? = some t) (h1 : ts[1]? = some u) (ty : TypeId) :
    ∃ v r m' w', rs.v = some v ∧ (Builtin.append_ ts ty #[a, b]).run P w = .ok r w' ∧ VR m' v r ∧ Sim m' rs.σ w' ∧ Keep m σ w m' rs.σ w' := by
  unfold evAppend at he
  split at he
  · rename_i e du base len cap z hd hu
    split at he
    · rename_i i sz z0 n g n' g0 hi hz hsx hss
      obtain ⟨i', zv, hi', hzv, hzs, _⟩ := zeroV_sound hz
      rw [hi] at hi'; cases hi'
      cases hck : (notInt du && (Nat.blt 0 sz && (Nat.beq i.size sz && Nat.blt 0 i.bytes))) with
      | false => rw [hck] at he; simp at he
      | true =>
        rw [hck] at he
        simp only [cond_true] at he
        simp only [Bool.and_eq_true, nblt, nbeq, decide_eq_true_eq] at hck
        obtain ⟨hnu, hpos, rfl, hby⟩ := hck
        have hl := src_len (P := P) hsx hb w
        cases hn0 : Nat.beq n 0 with
        | true =>
          rw [hn0] at he
          simp only [cond_true, Option.some.injEq] at he
          subst he
          have hn0' : n = 0 := by simpa [nbeq] using hn0
          subst hn0'
          have hfc : ∃ new : Array Value, (Builtin.firstCells i.size 0 b).run P w = .ok new w ∧ new.toList = [] := by
            unfold srcCells at hsx
            split at hsx
            · obtain ⟨_, _, rfl⟩ := hb; exact ⟨#[], by simp [Builtin.firstCells, loadCells, loadCellsFrom], rfl⟩
            · obtain ⟨_, _, rfl⟩ := hb; exact ⟨#[], rfl, rfl⟩
            · obtain ⟨_, _, _, rfl, _⟩ := hb; exact ⟨#[], by simp [Builtin.firstCells, loadCells, loadCellsFrom], rfl⟩
            · simp only [VR] at hb; subst hb
              refine ⟨_, rfl, ?_⟩
              simp [ByteArray.data_extract]
            · cases hsx
          obtain ⟨new, hnew, hnil⟩ := hfc
          have hst : ∀ (a : Addr), (storeCells (a.add (len * i.size)) new.toList).run P w = .ok () w := fun a => by rw [hnil]; rfl
          cases base with
          | none =>
            obtain ⟨rfl, rfl, rfl⟩ := ha
            exact ⟨_, _, m, w, rfl, append_fit_run h0 h1 hd hu hnu hi hl (by omega) hnew (fun a _ => hst a) (fun _ => rfl), ⟨rfl, rfl, rfl⟩, h, Keep.refl ..⟩
          | some pl =>
            obtain ⟨r, c', hr, rfl, g1, g2, g3⟩ := ha
            exact ⟨_, _, m, w, rfl, append_fit_run h0 h1 hd hu hnu hi hl (by omega) hnew (fun a _ => hst a) (fun _ => rfl), ⟨r, c', hr, rfl, g1, g2, g3⟩, h, Keep.refl ..⟩
        | false =>
          rw [hn0] at he
          simp only [cond_false] at he
          have hnpos : 0 < n := by
            have : ¬ n = 0 := by simpa [nbeq] using hn0
            omega
          cases hfit : Nat.ble (len + n) cap with
          | true =>
            rw [hfit] at he
            simp only [cond_true] at he
            rw [nble, decide_eq_true_eq] at hfit
            cases base with
            | none => cases he
            | some pl =>
              cases hk : σ.blk pl.b with
              | none => simp [hk] at he
              | some k =>
                simp only [hk] at he
                cases hro : k.ro with
                | true => rw [hro] at he; simp at he
                | false =>
                  rw [hro] at he
                  simp only [cond_false, Option.some.injEq] at he
                  subst he
                  simp only [Bool.and_eq_true, nble, decide_eq_true_eq] at hc
                  obtain ⟨hf, hin⟩ := hc
                  obtain ⟨new, hnew, hns, hncr⟩ := src_cells (P := P) h hsx hf hb (Nat.le_refl n)
                  obtain ⟨r, cs, fz, hr, hh, hs, hkn, hcr, hfz⟩ := h.cells hk
                  obtain ⟨r', c', hr', rfl, g1, g2, g3, g4⟩ := ha
                  rw [hr] at hr'; cases hr'
                  have hlen : new.toList.length = n * i.size := by simpa using hns
                  have hsum : (len + n) * i.size = len * i.size + n * i.size := Nat.add_mul ..
                  obtain ⟨w', hrun, hw⟩ := storeCells_run (P := P) new.toList 0 w r.1 (pl.o + len * i.size) cs k.elem fz hh (by rw [hlen]; omega) (by rw [hs]; exact hfz hro) (CR.oneCells hlen hncr)
                  rw [Nat.add_zero] at hw
                  have hpos2 : 0 < n * i.size := Nat.mul_pos hnpos hpos
                  have hupd : ∀ j, updN k.get (pl.o + len * i.size) (n * i.size) g j = if pl.o + len * i.size ≤ j ∧ j < pl.o + len * i.size + n * i.size then g (j - (pl.o + len * i.size)) else k.get j := by
                    intro j
                    simp only [updN, nble, nblt, Bool.cond_eq_ite, Bool.and_eq_true, decide_eq_true_eq]
                  have hc' : CR m k.n (updN k.get (pl.o + len * i.size) (n * i.size) g) (laid cs (pl.o + len * i.size) new.toList).toList :=
                    CR.laid hcr hlen (by omega) hncr (fun j _ => hupd j)
                  obtain ⟨s1, s2⟩ := h.write hk hro hr (o := pl.o + len * i.size) (n := n * i.size) hw (by rw [laid_size, hs]) (hfz hro) hc' hkn (fun j hj hne => by rw [hupd, if_neg hne])
                  refine ⟨_, _, m, w', rfl, append_fit_run (w' := w') h0 h1 hd hu hnu hi hl (by omega) hnew (fun a ha => ?_) (fun e => by cases e), ⟨r, c', hr, rfl, by omega, g2, g3, g4⟩, s1, s2⟩
                  cases ha
                  rw [addr_add]; exact hrun
          | false =>
            rw [hfit] at he
            simp only [cond_false] at he
            have hfit' : cap < len + n := by
              have : ¬ len + n ≤ cap := by simpa [nble] using hfit
              omega
            have hsum : (len + n) * i.size = len * i.size + n * i.size := Nat.add_mul ..
            cases base with
            | none =>
              simp only [Option.some.injEq] at he
              subst he
              simp only [Bool.and_eq_true, decide_eq_true_eq] at hc
              obtain ⟨hf, hbytes⟩ := hc
              obtain ⟨rfl, rfl, rfl⟩ := ha
              obtain ⟨new, hnew, hns, hncr⟩ := src_cells (P := P) h hsx hf hb (Nat.le_refl n)
              obtain ⟨new, hnew, hns, hncr⟩ := src_cells (P := P) h.drew hsx hf hb (Nat.le_refl n)
              obtain ⟨nc, hnc, hrun⟩ := append_grow_run (ty := ty) h0 h1 hd hu hnu hi hzv hby (base := none) (len := 0) (cap := 0) hl hfit' hbytes (old := #[]) (new := new) rfl hnew
              have hzc : (Builtin.zeroCells zv.cells (nc - (0 + n))).size = (nc - (0 + n)) * i.size := by simp [Builtin.zeroCells, hzs]
              have hsz : (#[] ++ new ++ Builtin.zeroCells zv.cells (nc - (0 + n))).size = nc * i.size := by
                have e1 : nc * i.size = n * i.size + (nc - (0 + n)) * i.size := by rw [← Nat.add_mul]; congr 1; omega
                rw [Array.size_append, Array.size_append, hzc, hns, e1]
                simp
              have hcr : CR m ((0 + n) * i.size) (canonIf ((0 + n) * i.size) (appRow (0 * i.size) g0 g)) (#[] ++ new ++ Builtin.zeroCells zv.cells (nc - (0 + n))).toList := by
                have := appRow_CR (m := m) (n0 := 0 * i.size) (g0 := g0) (c0 := []) (fun j hj => by omega) (by simp) hncr (Builtin.zeroCells zv.cells (nc - (0 + n))).toList
                rw [← Nat.add_mul] at this
                simp only [Array.toList_append, Array.toList_empty]
                exact this.congr fun j hj => canonIf_eq _ _ _ hj
              obtain ⟨m', g1, g2, g3⟩ := alloc_ok h.drew (k := ⟨(0 + n) * i.size, canonIf ((0 + n) * i.size) (appRow (0 * i.size) g0 g), e, false, [], [], none⟩) rfl hcr (by rw [hsz]; exact Nat.mul_le_mul_right _ (by omega))
              refine ⟨_, _, m', _, rfl, hrun, ⟨_, nc, g3, rfl, Nat.le_refl _, by omega, fun e => by omega, fun _ => ?_⟩, g1, g2.drew⟩
              show 0 + nc * i.size = _
              rw [Nat.zero_add]; exact hsz.symm
            | some pl =>
              cases hk : σ.blk pl.b with
              | none => simp [hk] at he
              | some k =>
                simp only [hk] at he
                cases hro : k.ro with
                | true => rw [hro] at he; simp at he
                | false =>
                  rw [hro] at he
                  simp only [cond_false] at he
                  cases hcond : (Nat.beq pl.o 0 && (Nat.beq (len * i.size) k.n && (Nat.beq z 0 || Nat.beq z i.size && Nat.beq k.elem e))) with
                  | false => rw [hcond] at he; simp at he
                  | true =>
                    rw [hcond] at he
                    simp only [cond_true, Option.some.injEq] at he
                    subst he
                    simp only [Bool.and_eq_true, Bool.or_eq_true, nbeq, decide_eq_true_eq] at hcond
                    obtain ⟨ho0, hlen0, hz0⟩ := hcond
                    simp only [Bool.and_eq_true, decide_eq_true_eq] at hc
                    obtain ⟨hf, hbytes⟩ := hc
                    obtain ⟨r, cs, fz, hr, hh, hs, hkn, hcr, hfz⟩ := h.cells hk
                    obtain ⟨r', c', hr', rfl, g1, g2, g3, g4⟩ := ha
                    rw [hr] at hr'; cases hr'
                    have hg0 : g0 = fun j => k.get (pl.o + j) := by
                      simp only [srcCells, hk, Option.map_some, Option.some.injEq, Prod.mk.injEq] at hss
                      exact hss.2.symm
                    have hg0cr : CR m (len * i.size) g0 cs.toList := by
                      rw [hg0, ho0, hlen0]
                      exact hcr.congr fun j hj => by simp
                    have hsum0 : (len + n) * i.size = k.n + n * i.size := by rw [hsum, hlen0]
                    by_cases hin : len + n ≤ c'
                    ·
                      have hz1 : z ≠ 0 := fun e0 => by have := g3 e0; omega
                      have hzsz : z = i.size ∧ k.elem = e := by rcases hz0 with h0 | h0 <;> first | exact absurd h0 hz1 | exact h0
                      have hroom := g4 hz1
                      rw [hzsz.1, ho0, Nat.zero_add] at hroom
                      have hle : (len + n) * i.size ≤ r.2 := by rw [← hroom]; exact Nat.mul_le_mul_right _ hin
                      obtain ⟨new, hnew, hns, hncr⟩ := src_cells (P := P) h hsx hf hb (Nat.le_refl n)
                      have hlen : new.toList.length = n * i.size := by simpa using hns
                      obtain ⟨w', hrun, hw⟩ := storeCells_run (P := P) new.toList 0 w r.1 (pl.o + len * i.size) cs k.elem fz hh (by rw [hlen]; omega) (by rw [hs]; exact hfz hro) (CR.oneCells hlen hncr)
                      rw [Nat.add_zero, ho0, Nat.zero_add, hlen0] at hw
                      have hlg : ∀ j, (laid cs k.n new.toList)[j]? = if k.n ≤ j ∧ j < k.n + n * i.size then new.toList[j - k.n]? else cs[j]? := fun j => by
                        rw [laid_get _ _ _ _ (by rw [hlen]; omega), hlen]
                      have hcr2 : CR m ((len + n) * i.size) (canonIf ((len + n) * i.size) (appRow (len * i.size) g0 g)) (laid cs k.n new.toList).toList := by
                        intro j hj
                        rw [canonIf_eq _ _ _ hj, Array.getElem?_toList, hlg]
                        unfold appRow
                        rw [nblt]
                        by_cases hj2 : j < len * i.size
                        · simp only [hj2, decide_true, cond_true]
                          rw [if_neg (by omega), ← Array.getElem?_toList]
                          exact hg0cr j hj2
                        · simp only [hj2, decide_false, cond_false]
                          rw [if_pos (by omega), ← hlen0]
                          exact hncr (j - len * i.size) (by omega)
                      obtain ⟨s1, s2⟩ := h.alias (k2 := ⟨(len + n) * i.size, canonIf ((len + n) * i.size) (appRow (len * i.size) g0 g), e, false, pl.b :: k.mates, [], none⟩) hk hro hr hh hw
                        (by rw [laid_size, hs]) (hfz hro) (fun j hj => by rw [hlg, if_neg (by omega)]) hzsz.2.symm hcr2 hle rfl hkn (by simp only; omega) hs hcr rfl
                      refine ⟨_, _, _, w', rfl, append_fit_run (w' := w') h0 h1 hd hu hnu hi hl hin hnew (fun a ha => ?_) (fun e => by cases e),
                        ⟨r, c', by simp [M.put], ?_, Nat.le_refl _, hin, fun e0 => by omega, fun _ => by rw [Nat.zero_add]; exact hroom⟩, s1, s2⟩
                      · cases ha
                        rw [addr_add]; exact hrun
                      · rw [ho0]
                    ·
                      have hin' : c' < len + n := by omega
                      obtain ⟨sR, kR⟩ := h.setRo hk
                      obtain ⟨new, hnew, hns, hncr⟩ := src_cells (P := P) h.drew hsx hf hb (Nat.le_refl n)
                      have hsf : srcFits σ i.size (.sl (some pl) len cap z) = true := by
                        simp only [srcFits, hk, nble, decide_eq_true_eq]; omega
                      obtain ⟨old, hold, hos, hocr⟩ := src_cells (P := P) h.drew hss hsf (m := m) (y := .slice (some ⟨r.1, pl.o, none⟩) len c') ⟨r, c', hr, rfl, g1, g2, g3, g4⟩ (k := len) (by
                        simp only [srcCells, hk, Option.map_some, Option.some.injEq, Prod.mk.injEq] at hss; omega)
                      obtain ⟨nc, hnc, hrun⟩ := append_grow_run (ty := ty) h0 h1 hd hu hnu hi hzv hby (base := some ⟨r.1, pl.o, none⟩) (len := len) (cap := c') hl hin' hbytes hold hnew
                      have hzc : (Builtin.zeroCells zv.cells (nc - (len + n))).size = (nc - (len + n)) * i.size := by simp [Builtin.zeroCells, hzs]
                      have hsz : (old ++ new ++ Builtin.zeroCells zv.cells (nc - (len + n))).size = nc * i.size := by
                        have e1 : nc * i.size = len * i.size + n * i.size + (nc - (len + n)) * i.size := by rw [← Nat.add_mul, ← Nat.add_mul]; congr 1; omega
                        rw [Array.size_append, Array.size_append, hzc, hns, hos, e1]
                      have hcr2 : CR m ((len + n) * i.size) (canonIf ((len + n) * i.size) (appRow (len * i.size) g0 g)) (old ++ new ++ Builtin.zeroCells zv.cells (nc - (len + n))).toList := by
                        have := appRow_CR (m := m) hocr (by simpa using hos) hncr (Builtin.zeroCells zv.cells (nc - (len + n))).toList
                        rw [← hsum] at this
                        simp only [Array.toList_append]
                        exact this.congr fun j hj => canonIf_eq _ _ _ hj
                      obtain ⟨m', q1, q2, q3⟩ := alloc_ok sR.drew (k := ⟨(len + n) * i.size, canonIf ((len + n) * i.size) (appRow (len * i.size) g0 g), e, false, pl.b :: k.mates, [], none⟩) rfl hcr2 (by rw [hsz]; exact Nat.mul_le_mul_right _ (by omega))
                      refine ⟨_, _, m', _, rfl, hrun, ⟨_, nc, q3, rfl, Nat.le_refl _, hnc, fun e => by omega, fun _ => ?_⟩, q1, kR.trans q2.drew⟩
                      show 0 + nc * i.size = _
                      rw [Nat.zero_add]; exact hsz.symm
    · cases he
  · cases he

theorem copy_sound {m : M} {σ : Store} {w : World} (h : Sim m σ w) {t : TypeId} {d s : V} {rs : Rs} (he : evCopy P t d s σ = some rs) (hc : rs.c = true)
    {a b : Value} (ha : VR m d a) (hb : VR m s b) {ts : Array TypeId} (h0 : ts[0]? = some t) (ty : TypeId) :
    ∃ v r w', rs.v = some v ∧ (Builtin.copy_ ts ty #[a, b]).run P w = .ok r w' ∧ VR m v r ∧ Sim m rs.σ w' ∧ Keep m σ w m rs.σ w' := by
  unfold evCopy at he
  split at he
  · rename_i e base len cap z hd
    split at he
    · rename_i i n g hi hs
      have hl := src_len (P := P) hs hb w
      have hrun : ∀ (pl : Option Addr) (c' : Nat) (cells : Array Value) (w' : World), (Builtin.firstCells i.size (Nat.min n len) b).run P w = .ok cells w →
          (∀ a, pl = some a → (storeCells a cells.toList).run P w = .ok () w') → (pl = none → w' = w) →
          (Builtin.copy_ ts ty #[.slice pl len c', b]).run P w = .ok (goInt (Nat.min n len : Nat)) w' := by
        intro pl c' cells w' h1 h2 h3
        unfold Builtin.copy_
        simp only [h0, List.getElem?_toArray, List.getElem?_cons_zero, List.getElem?_cons_succ, Sem.run_bind, run_underlying hd, Result.andThen_ok, hl, sizeOf_run hi, h1]
        cases pl with
        | none => simp only [Sem.run_pure, h3 rfl]
        | some a => simp only [Sem.run_bind, h2 a rfl, Result.andThen_ok, Sem.run_pure]
      cases base with
      | none =>
        simp only [Option.some.injEq] at he
        subst he
        obtain ⟨rfl, rfl, rfl⟩ := ha
        have hm0 : Nat.min n 0 = 0 := Nat.min_zero n
        have hf : ∃ cells : Array Value, (Builtin.firstCells i.size (Nat.min n 0) b).run P w = .ok cells w := by
          rw [hm0]
          unfold srcCells at hs
          split at hs
          · obtain ⟨_, _, rfl⟩ := hb; exact ⟨#[], by simp [Builtin.firstCells, loadCells, loadCellsFrom]⟩
          · obtain ⟨_, _, rfl⟩ := hb; exact ⟨#[], rfl⟩
          · obtain ⟨_, _, _, rfl, _⟩ := hb; exact ⟨#[], by simp [Builtin.firstCells, loadCells, loadCellsFrom]⟩
          · simp only [VR] at hb; subst hb; exact ⟨_, rfl⟩
          · cases hs
        obtain ⟨cells, hf⟩ := hf
        exact ⟨_, _, w, rfl, hrun none 0 cells w hf (fun a e => by cases e) (fun _ => rfl), rfl, h, Keep.refl ..⟩
      | some pl =>
        cases hk : σ.blk pl.b with
        | none => simp [hk] at he
        | some k =>
          simp only [hk] at he
          cases hro : k.ro with
          | true => rw [hro] at he; simp at he
          | false =>
            rw [hro] at he
            simp only [cond_false, Option.some.injEq] at he
            subst he
            simp only [Bool.and_eq_true, nble, decide_eq_true_eq] at hc
            obtain ⟨hf, hin⟩ := hc
            obtain ⟨r, cs, fz, hr, hh, hs', hkn, hcr, hfz⟩ := h.cells hk
            obtain ⟨r', c', hr', rfl, g1, g2, g3, g4⟩ := ha
            rw [hr] at hr'; cases hr'
            obtain ⟨cells, hcells, hns, hncr⟩ := src_cells (P := P) h hs hf hb (k := Nat.min n len) (Nat.min_le_left ..)
            have hlen : cells.toList.length = Nat.min n len * i.size := by simpa using hns
            obtain ⟨w', hrun', hw⟩ := storeCells_run (P := P) cells.toList 0 w r.1 pl.o cs k.elem fz hh (by rw [hlen]; omega) (by rw [hs']; exact hfz hro) (CR.oneCells hlen hncr)
            rw [Nat.add_zero] at hw
            have hupd : ∀ j, updN k.get pl.o (Nat.min n len * i.size) g j = if pl.o ≤ j ∧ j < pl.o + Nat.min n len * i.size then g (j - pl.o) else k.get j := by
              intro j
              simp only [updN, nble, nblt, Bool.cond_eq_ite, Bool.and_eq_true, decide_eq_true_eq]
            have hc' : CR m k.n (updN k.get pl.o (Nat.min n len * i.size) g) (laid cs pl.o cells.toList).toList :=
              CR.laid hcr hlen (by omega) hncr (fun j _ => hupd j)
            obtain ⟨s1, s2⟩ := h.write hk hro hr (o := pl.o) (n := Nat.min n len * i.size) hw (by rw [laid_size, hs']) (hfz hro) hc' hkn (fun j hj hne => by rw [hupd, if_neg hne])
            exact ⟨_, _, w', rfl, hrun _ c' cells w' hcells (fun a e => by cases e; exact hrun') (fun e => by cases e), rfl, s1, s2⟩
    · cases he
  · cases he

end Go.Ev
