/- Reading, writing, making blocks. -/
import Derived.Test.YtifpmcejajfagaaGreatEv2
set_option linter.all false
namespace Go.Ev
variable [Env]

theorem killAll_get : ∀ (l : List Nat) (t : T Ob) (b : Nat), (killAll t l).get b = if b ∈ l then none else t.get b
  | [], t, b => by simp [killAll]
  | x :: l, t, b => by
    simp only [killAll]
    rw [killAll_get l, T.get_put]
    by_cases h : b ∈ l
    · simp [h]
    · by_cases e : b = x
      · simp [e]
      · simp [h, e]

variable {Γ Γ' : Facts}
theorem blk_put (nx : Nat) (t : T Ob) (b : Nat) (k : Blk) (b' : Nat) :
    (Store.mk nx (t.put b (some (.cells k))) Γ).blk b' = if b' = b then some k else (Store.mk nx t Γ).blk b' := by
  unfold Store.blk
  simp only [T.get_put]
  by_cases h : b' = b <;> simp [h]
theorem blk_kill (nx : Nat) (t : T Ob) (l : List Nat) (b' : Nat) :
    (Store.mk nx (killAll t l) Γ).blk b' = if b' ∈ l then none else (Store.mk nx t Γ).blk b' := by
  unfold Store.blk
  simp only [killAll_get]
  by_cases h : b' ∈ l <;> simp [h]
theorem blk_nx (nx nx' : Nat) (t : T Ob) (b : Nat) : (Store.mk nx t Γ).blk b = (Store.mk nx' t Γ').blk b := rfl
theorem blk_write (σ : Store) (b : Nat) (k : Blk) (o n : Nat) (g : Nat → V) (b' : Nat) :
    (σ.write b k o n g).blk b' = if b' = b then some ⟨k.n, g, k.elem, k.ro, [], (o, n) :: k.log, none⟩ else if b' ∈ k.mates then none else σ.blk b' := by
  unfold Store.write
  rw [blk_put, blk_kill]
theorem blk_new (σ : Store) (k : Blk) (b' : Nat) : (σ.new k).blk b' = if b' = σ.nx then some k else σ.blk b' := by
  unfold Store.new
  rw [blk_put]; rfl
theorem one_put (nx : Nat) (t : T Ob) (b : Nat) (k : Blk) (b' : Nat) :
    (Store.mk nx (t.put b (some (.cells k))) Γ).one b' = if b' = b then none else (Store.mk nx t Γ).one b' := by
  unfold Store.one
  simp only [T.get_put]
  by_cases h : b' = b <;> simp [h]
theorem one_kill (nx : Nat) (t : T Ob) (l : List Nat) (b' : Nat) :
    (Store.mk nx (killAll t l) Γ).one b' = if b' ∈ l then none else (Store.mk nx t Γ).one b' := by
  unfold Store.one
  simp only [killAll_get]
  by_cases h : b' ∈ l <;> simp [h]
theorem one_write {σ : Store} {b : Nat} {k : Blk} {o n : Nat} {g : Nat → V} {b' : Nat} {x : One} (h : (σ.write b k o n g).one b' = some x) : σ.one b' = some x := by
  unfold Store.write at h
  rw [one_put] at h
  split at h
  · cases h
  · rw [one_kill] at h
    split at h
    · cases h
    · exact h
theorem one_new (σ : Store) (k : Blk) (b' : Nat) : (σ.new k).one b' = if b' = σ.nx then none else σ.one b' := by
  unfold Store.new
  rw [one_put]; rfl
theorem one_setOne (σ : Store) (b : Nat) (x : One) (b' : Nat) : (σ.setOne b x).one b' = if b' = b then some x else σ.one b' := by
  unfold Store.setOne Store.one
  simp only [T.get_put]
  by_cases h : b' = b <;> simp [h]
theorem blk_setOne (σ : Store) (b : Nat) (x : One) (b' : Nat) : (σ.setOne b x).blk b' = if b' = b then none else σ.blk b' := by
  unfold Store.setOne Store.blk
  simp only [T.get_put]
  by_cases h : b' = b <;> simp [h]
theorem one_newOne (σ : Store) (x : One) (b' : Nat) : (σ.newOne x).one b' = if b' = σ.nx then some x else σ.one b' := by
  unfold Store.newOne Store.one
  simp only [T.get_put]
  by_cases h : b' = σ.nx <;> simp [h]
theorem blk_newOne (σ : Store) (x : One) (b' : Nat) : (σ.newOne x).blk b' = if b' = σ.nx then none else σ.blk b' := by
  unfold Store.newOne Store.blk
  simp only [T.get_put]
  by_cases h : b' = σ.nx <;> simp [h]
theorem one_blk {σ : Store} {b : Nat} {x : One} (h : σ.one b = some x) : σ.blk b = none := by
  unfold Store.one at h
  unfold Store.blk
  split at h
  · rename_i e; rw [e]
  · cases h
theorem blk_one {σ : Store} {b : Nat} {k : Blk} (h : σ.blk b = some k) : σ.one b = none := by
  cases ho : σ.one b with
  | none => rfl
  | some x => rw [one_blk ho] at h; cases h

variable {P : Program}

theorem addr_add (b o n : Nat) : (⟨b, o, none⟩ : Addr).add n = ⟨b, o + n, none⟩ := by unfold Addr.add; split <;> simp_all

theorem Sim.cells {m : M} {σ : Store} {w : World} (h : Sim m σ w) {b : Nat} {k : Blk} (hk : σ.blk b = some k) :
    ∃ r c fz, m b = some r ∧ w.heap[r.1]? = some (.cells c k.elem fz) ∧ c.size = r.2 ∧ k.n ≤ r.2 ∧ CR m k.n k.get c.toList ∧ (k.ro = false → ∀ j, j < r.2 → ¬ (fz.1 ≤ j ∧ j < fz.2)) := by
  obtain ⟨r, hr, c, fz, h1, h2, h3, h4, h5⟩ := h.obj b k hk
  exact ⟨r, c, fz, hr, h1, h2, h3, h4, h5.1⟩

theorem cell_at {w : World} {r o : Nat} {c : Array Value} {e : TypeId} {fz : Nat × Nat} (h : w.heap[r]? = some (.cells c e fz)) :
    w.cell? ⟨r, o, none⟩ = c[o]? := by simp [World.cell?, h]

def aggD : TypeDesc → Bool
  | .struct _ | .array _ _ => true
  | _ => false
theorem isAgg_run {t : TypeId} {d : TypeDesc} (h : P.underlying t = some d) (w : World) :
    (isAgg t).run P w = .ok (aggD d) w := by
  unfold isAgg
  simp only [Sem.run_bind, run_underlying h, Result.andThen_ok]
  cases d <;> rfl
theorem typeInfo_run {t : TypeId} {i : TypeInfo} (h : P.info? t = some i) (w : World) : (typeInfo t).run P w = .ok i w := by
  unfold typeInfo
  simp only [Sem.run_bind, run_program, Result.andThen_ok, h, Sem.run_pure]
theorem sizeOf_run {t : TypeId} {i : TypeInfo} (h : P.info? t = some i) (w : World) : (Go.sizeOf t).run P w = .ok i.size w := by
  unfold Go.sizeOf
  simp only [Sem.run_bind, typeInfo_run h, Result.andThen_ok, Sem.run_pure]
theorem zeroValue_run {t : TypeId} {i : TypeInfo} {z : Value} (h : P.info? t = some i) (hz : i.zero = some z) (w : World) : (zeroValue t).run P w = .ok z w := by
  unfold zeroValue
  simp only [Sem.run_bind, typeInfo_run h, Result.andThen_ok, hz, Sem.run_pure]

theorem coerce_sound {m : M} {d : TypeDesc} {v : V} {r : Value} (hv : VR m v r) (hc : (coerce d v).1 = true) : VR m (coerce d v).2 r := by
  cases d with
  | int k =>
    cases v with
    | sym k' e => simp only [coerce] at hc ⊢; obtain rfl := kindEq_of hc; exact hv
    | i k' n => simp only [coerce, V.isI] at hc ⊢; obtain rfl := kindEq_of hc; exact hv
    | _ => simp [coerce, V.isI] at hc
  | bool =>
    cases v with
    | symb b neg => exact hv
    | bo x => exact hv
    | _ => simp [coerce, V.isB] at hc
  | string => simp only [coerce] at hc ⊢; cases v <;> simp_all [V.isS, VR, V.str]
  | float k =>
    cases k with
    | f64 =>
      simp only [coerce] at hc ⊢
      cases v <;> simp_all [V.isF, VR, V.bits]
      rename_i k b
      cases k <;> simp_all [V.isF]
    | _ => exact hv
  | _ => exact hv

theorem getElem?_of_CR {m : M} {n : Nat} {g : Nat → V} {c : List Value} (h : CR m n g c) {j : Nat} (hj : j < n) : ∃ v, c[j]? = some v ∧ VR m (g j) v ∧ v.oneCell' = true := h j hj

/-- a row of cells out of cells -/
theorem CR.extract {m : M} {n : Nat} {g : Nat → V} {c : Array Value} (h : CR m n g c.toList) (o k : Nat) (hk : o + k ≤ n) :
    (c.extract o (o + k)).size = k ∧ CR m k (fun j => g (o + j)) (c.extract o (o + k)).toList := by
  have hn : n ≤ c.size := by
    rcases Nat.eq_zero_or_pos n with e | e
    · omega
    · obtain ⟨v, hv, _⟩ := h (n - 1) (by omega)
      have := (List.getElem?_eq_some_iff.1 hv).1
      simp at this; omega
  refine ⟨by simp; omega, fun j hj => ?_⟩
  obtain ⟨v, h1, h2, h3⟩ := h (o + j) (by omega)
  refine ⟨v, ?_, h2, h3⟩
  rw [Array.getElem?_toList] at h1 ⊢
  rw [Array.getElem?_extract]
  simp only [h1]
  rw [if_pos]
  omega

theorem part_sound {m : M} {t : TypeId} {f : Nat → V} {off n : Nat} {c : Array Value} {b : Bool} {v : V} (h : partV P t f off = some (b, v)) (hb : b = true)
    (hc : CR m n f c.toList) {i : TypeInfo} (hi : P.info? t = some i) (hn : off + i.size ≤ n) (h1 : off < n) (w : World) :
    ∃ r, (part t c off).run P w = .ok r w ∧ VR m v r := by
  subst hb
  unfold partV at h
  cases hd : P.underlying t with
  | none => simp [hd] at h
  | some d =>
    have hagg := isAgg_run (P := P) hd w
    rw [hd, hi] at h
    unfold part
    simp only [Sem.run_bind, hagg, Result.andThen_ok]
    have key : ∀ v', v' = V.agg i.size (canon i.size fun j => f (off + j)) → ∃ r, (Result.ok (Value.agg (c.extract off (off + i.size))) w : Result Value) = .ok r w ∧ VR m v' r := by
      intro v' e
      subst e
      obtain ⟨e1, e2⟩ := hc.extract off i.size hn
      exact ⟨_, rfl, VR.agg_of e1 (e2.congr fun j hj => canon_eq _ _ _ hj)⟩
    have key2 : ∀ d, (true, v) = coerce d (f off) → ∃ r, (Sem.run P (match c[off]? with | some v => pure v | none => stuck "part: no such cell") w) = .ok r w ∧ VR m v r := by
      intro d e
      obtain ⟨x, g1, g2, g3⟩ := hc off h1
      rw [Array.getElem?_toList] at g1
      refine ⟨x, by rw [g1]; rfl, ?_⟩
      have := coerce_sound (d := d) g2 (by rw [← e])
      rw [← e] at this
      exact this
    cases d <;> simp only [Option.some.injEq] at h <;> first
      | (simp only [aggD, if_true, Sem.run_bind, sizeOf_run hi, Result.andThen_ok, Sem.run_pure]
         cases h; exact key _ rfl)
      | (simp only [aggD, Bool.false_eq_true, if_false]; exact key2 _ h.symm)

theorem load_sound {m : M} {σ : Store} {w : World} (h : Sim m σ w) {t : TypeId} {a : V} {rs : Rs} (he : evLoad P t a σ = some rs) (hc : rs.c = true)
    {x : Value} (hx : VR m a x) : ∃ r v, rs.v = some v ∧ rs.σ = σ ∧ (Instr.loadAt t x).run P w = .ok r w ∧ VR m v r := by
  unfold evLoad at he
  split at he
  · rename_i a
    split at he
    · rename_i k i hk hi
      cases hp : partV P t k.get a.o with
      | none => rw [hp] at he; simp at he
      | some cv =>
        obtain ⟨c, v⟩ := cv
        rw [hp] at he
        simp only [Option.map_some, Option.some.injEq] at he
        subst he
        simp only [Bool.and_eq_true, nble, nblt, decide_eq_true_eq] at hc
        obtain ⟨hpos, hn, hc⟩ := hc
        subst hc
        obtain ⟨r, cs, fz, hr, hh, hs, hkn, hcr, _⟩ := h.cells hk
        obtain ⟨r', hr', rfl⟩ := hx
        rw [hr] at hr'; cases hr'
        cases hd : P.underlying t with
        | none => unfold partV at hp; simp [hd] at hp
        | some d =>
          have hagg := isAgg_run (P := P) hd w
          have hla : (Instr.loadAt t (.pointer (some ⟨r.1, a.o, none⟩))).run P w = (loadVar t ⟨r.1, a.o, none⟩).run P w := by
            simp [Instr.loadAt, Instr.sureAddr]
          rw [hla]
          suffices H : ∃ r', (loadVar t ⟨r.1, a.o, none⟩).run P w = .ok r' w ∧ VR m v r' by
            obtain ⟨r', g1, g2⟩ := H; exact ⟨r', v, rfl, rfl, g1, g2⟩
          unfold loadVar
          simp only [Sem.run_bind, hagg, Result.andThen_ok]
          have hcell : ∀ j, w.cell? ⟨r.1, a.o + j, none⟩ = cs[a.o + j]? := fun j => cell_at hh
          unfold partV at hp
          rw [hd, hi] at hp
          have key : v = V.agg i.size (canon i.size fun j => k.get (a.o + j)) → ∃ r',
              (Result.ok (Value.agg ((List.range i.size).map fun j => cs.getD (a.o + j) undef).toArray) w : Result Value) = .ok r' w ∧ VR m v r' := by
            intro e
            subst e
            refine ⟨_, rfl, VR.agg_of (by simp) (fun j hj => ?_)⟩
            obtain ⟨x, g1, g2, g3⟩ := hcr (a.o + j) (by omega)
            rw [Array.getElem?_toList] at g1
            refine ⟨x, ?_, by rw [canon_eq _ _ _ hj]; exact g2, g3⟩
            simp [hj, Array.getD_eq_getD_getElem?, g1]
          have hload : (loadCells ⟨r.1, a.o, none⟩ i.size).run P w = .ok ((List.range i.size).map fun j => cs.getD (a.o + j) undef).toArray w :=
            run_loadCells w _ i.size _ (fun j hj => by
              obtain ⟨x, g1, _⟩ := hcr (a.o + j) (by omega)
              rw [Array.getElem?_toList] at g1
              rw [addr_add, hcell, g1]; simp [Array.getD_eq_getD_getElem?, g1])
          have key2 : ∀ d, (true, v) = coerce d (k.get a.o) → ∃ r', (load ⟨r.1, a.o, none⟩).run P w = .ok r' w ∧ VR m v r' := by
            intro d e
            obtain ⟨x, g1, g2, g3⟩ := hcr a.o (by omega)
            rw [Array.getElem?_toList] at g1
            refine ⟨x, ?_, ?_⟩
            · have := hcell 0
              rw [Nat.add_zero, g1] at this
              simp [this]
            · have := coerce_sound (d := d) g2 (by rw [← e])
              rw [← e] at this
              exact this
          cases d <;> simp only [Option.some.injEq] at hp <;> first
              | (simp only [aggD, if_true, Sem.run_bind, sizeOf_run hi, Result.andThen_ok, hload, Sem.run_pure]
                 exact key (by cases hp; rfl))
              | (simp only [aggD, Bool.false_eq_true, if_false]; exact key2 _ hp.symm)
    · cases he
  · cases he

/-- one block of the world written anew, all else as it was -/
structure Wrote (g : Nat) (c : Array Value) (e : TypeId) (fz : Nat × Nat) (w w' : World) : Prop where
  os : w'.os = w.os
  tape : w'.tape = w.tape
  output : w'.output = w.output
  size : w'.heap.size = w.heap.size
  here : w'.heap[g]? = some (.cells c e fz)
  there : ∀ k, k ≠ g → w'.heap[k]? = w.heap[k]?

theorem Wrote.refl {g : Nat} {c : Array Value} {e : TypeId} {fz : Nat × Nat} {w : World} (h : w.heap[g]? = some (.cells c e fz)) : Wrote g c e fz w w :=
  ⟨rfl, rfl, rfl, rfl, h, fun _ _ => rfl⟩
theorem Wrote.trans {g : Nat} {c c' : Array Value} {e : TypeId} {fz : Nat × Nat} {w w' w'' : World} (h : Wrote g c e fz w w') (k : Wrote g c' e fz w' w'') : Wrote g c' e fz w w'' :=
  ⟨k.os.trans h.os, k.tape.trans h.tape, k.output.trans h.output, k.size.trans h.size, k.here, fun i hi => (k.there i hi).trans (h.there i hi)⟩

theorem setCell_wrote {w : World} {g o : Nat} {c : Array Value} {e : TypeId} {fz : Nat × Nat} (h : w.heap[g]? = some (.cells c e fz)) (v : Value) :
    Wrote g (c.setIfInBounds o v) e fz w (w.setCell ⟨g, o, none⟩ v) := by
  refine ⟨rfl, rfl, rfl, by simp [World.setCell], ?_, fun k hk => ?_⟩
  · simp only [World.setCell, Array.getElem?_modify, if_true, h, Option.map_some]
    simp
  · simp only [World.setCell, Array.getElem?_modify]
    rw [if_neg (Ne.symm hk)]

/-- cells laid over cells -/
def laid (c : Array Value) (o : Nat) (vs : List Value) : Array Value :=
  match vs with
  | [] => c
  | v :: l => laid (c.setIfInBounds o v) (o + 1) l
theorem laid_size : ∀ (vs : List Value) (c : Array Value) (o : Nat), (laid c o vs).size = c.size
  | [], _, _ => rfl
  | v :: l, c, o => by simp [laid, laid_size l]
theorem laid_get : ∀ (vs : List Value) (c : Array Value) (o j : Nat), o + vs.length ≤ c.size →
    (laid c o vs)[j]? = if o ≤ j ∧ j < o + vs.length then vs[j - o]? else c[j]?
  | [], c, o, j, _ => by simp [laid]; intro h; omega
  | v :: l, c, o, j, h => by
    simp only [laid, List.length_cons] at *
    rw [laid_get l _ (o + 1) j (by simp; omega)]
    by_cases h1 : o + 1 ≤ j ∧ j < o + 1 + l.length
    · rw [if_pos h1, if_pos (by omega), show j - o = (j - (o + 1)) + 1 by omega]; simp
    · rw [if_neg h1]
      by_cases h2 : j = o
      · subst h2
        have hj : j < c.size := by omega
        rw [if_pos (by omega)]; simp [hj]
      · rw [if_neg (by omega), Array.getElem?_setIfInBounds_ne (Ne.symm h2)]

theorem storeCells_run : ∀ (vs : List Value) (i : Nat) (w : World) (g o : Nat) (c : Array Value) (e : TypeId) (fz : Nat × Nat),
    w.heap[g]? = some (.cells c e fz) → o + i + vs.length ≤ c.size → (∀ j, j < c.size → ¬ (fz.1 ≤ j ∧ j < fz.2)) → (∀ v ∈ vs, v.oneCell' = true) →
    ∃ w', (storeCells ⟨g, o, none⟩ vs i).run P w = .ok () w' ∧ Wrote g (laid c (o + i) vs) e fz w w'
  | [], i, w, g, o, c, e, fz, h, _, _, _ => ⟨w, rfl, Wrote.refl h⟩
  | v :: l, i, w, g, o, c, e, fz, h, hn, hf, h1 => by
    simp only [List.length_cons] at hn
    have hcell : w.cell? ⟨g, o + i, none⟩ = some (c[o + i]'(by omega)) := by rw [cell_at h]; simp
    have hfro : w.frozen? ⟨g, o + i, none⟩ = false := by
      have := hf (o + i) (by omega)
      simp only [World.frozen?, h]
      simpa using this
    have hst : (store ((⟨g, o, none⟩ : Addr).add i) v).run P w = .ok () (w.setCell ⟨g, o + i, none⟩ v) := by
      rw [addr_add, run_store P w _ v _ (h1 v (by simp)), hcell]
      simp [hfro]
    have hw := setCell_wrote (o := o + i) h v
    obtain ⟨w', e1, e2⟩ := storeCells_run l (i + 1) (w.setCell ⟨g, o + i, none⟩ v) g o (c.setIfInBounds (o + i) v) e fz hw.here (by simp; omega) (by simpa using hf) (fun x hx => h1 x (by simp [hx]))
    refine ⟨w', ?_, hw.trans ?_⟩
    · simp only [storeCells, Sem.run_bind, hst, Result.andThen_ok, e1]
    · exact e2

theorem Sim.write {m : M} {σ : Store} {w w' : World} (h : Sim m σ w) {b : Nat} {k : Blk} (hk : σ.blk b = some k) (hro : k.ro = false) {r : Nat × Nat} (hr : m b = some r)
    {c' : Array Value} {fz : Nat × Nat} (hw : Wrote r.1 c' k.elem fz w w') (hs : c'.size = r.2) (hfz : ∀ j, j < r.2 → ¬ (fz.1 ≤ j ∧ j < fz.2)) {o n : Nat} {g : Nat → V}
    (hc : CR m k.n g c'.toList) (hn : k.n ≤ r.2) (hg : ∀ j, j < k.n → ¬ (o ≤ j ∧ j < o + n) → g j = k.get j) :
    Sim m (σ.write b k o n g) w' ∧ Keep m σ w m (σ.write b k o n g) w' := by
  have hinj : ∀ b' k', σ.blk b' = some k' → b' ≠ b → b' ∉ k.mates → ∀ r', m b' = some r' → r'.1 ≠ r.1 := by
    intro b' k' hk' hne hmem r' hr' e
    exact hmem (h.inj b b' k k' r r' hk hro hk' (Ne.symm hne) hr hr' e.symm).1
  refine ⟨⟨?_, ?_, ?_, ?_, ?_, h.fact⟩, ?_⟩
  · intro b' r' hb'
    obtain ⟨h1, h2⟩ := h.dom b' r' hb'
    exact ⟨h1, by rw [hw.size]; exact h2⟩
  · intro b' k' hb'
    rw [blk_write] at hb'
    by_cases e : b' = b
    · subst e
      simp only [if_true, Option.some.injEq] at hb'
      subst hb'
      exact ⟨r, hr, c', fz, hw.here, hs, hn, hc, fun _ => hfz, fun _ h => by cases h⟩
    · rw [if_neg e] at hb'
      by_cases e2 : b' ∈ k.mates
      · simp [e2] at hb'
      · rw [if_neg e2] at hb'
        obtain ⟨r', hr', hB⟩ := h.obj b' k' hb'
        exact ⟨r', hr', by rw [hw.there _ (hinj b' k' hb' e e2 r' hr')]; exact hB⟩
  · intro b1 b2 k1 k2 r1 r2 hb1 hro1 hb2 hne hr1 hr2 e
    rw [blk_write] at hb1 hb2
    by_cases e1 : b1 = b
    · subst e1
      simp only [if_true, Option.some.injEq] at hb1
      rw [if_neg (Ne.symm hne)] at hb2
      by_cases e2 : b2 ∈ k.mates
      · simp [e2] at hb2
      · rw [if_neg e2] at hb2
        rw [hr] at hr1; cases hr1
        exact absurd e.symm (hinj b2 k2 hb2 (Ne.symm hne) e2 r2 hr2)
    · rw [if_neg e1] at hb1
      by_cases e3 : b1 ∈ k.mates
      · simp [e3] at hb1
      · rw [if_neg e3] at hb1
        by_cases e4 : b2 = b
        · subst e4
          rw [hr] at hr2; cases hr2
          exact absurd e (hinj b1 k1 hb1 e1 e3 r1 hr1)
        · rw [if_neg e4] at hb2
          by_cases e5 : b2 ∈ k.mates
          · simp [e5] at hb2
          · rw [if_neg e5] at hb2
            exact h.inj b1 b2 k1 k2 r1 r2 hb1 hro1 hb2 hne hr1 hr2 e
  · intro b' x hx
    obtain ⟨r', hr', hO⟩ := h.one b' x (one_write hx)
    exact ⟨r', hr', by rw [hw.there _ (h.apart hk (one_write hx) hr hr')]; exact hO⟩
  · exact fun b1 b2 x1 x2 r1 r2 h1 h2 => h.oinj b1 b2 x1 x2 r1 r2 (one_write h1) (one_write h2)
  · refine ⟨M.le_refl m, hw.os, hw.tape, hw.output, Nat.le_of_eq hw.size.symm, ?_, ?_, Nat.le_refl _, fun _ _ => rfl, ?_, ?_, ?_⟩
    · intro x hx hn'
      exact hw.there x fun e => hn' ⟨b, r, .inl ⟨k, hk, hro⟩, hr, e.symm⟩
    · rintro x hx ⟨b', q, ⟨k', hb', hro'⟩ | ⟨y, hy⟩, hq, e⟩
      rotate_left
      · exact ⟨b', q, .inr ⟨y, one_write hy⟩, hq, e⟩
      rw [blk_write] at hb'
      by_cases e1 : b' = b
      · subst e1; exact ⟨b', q, .inl ⟨k, hk, hro⟩, hq, e⟩
      · rw [if_neg e1] at hb'
        by_cases e2 : b' ∈ k.mates
        · simp [e2] at hb'
        · rw [if_neg e2] at hb'
          exact ⟨b', q, .inl ⟨k', hb', hro'⟩, hq, e⟩
    · intro b' k1 k2 hb' h1 h2
      rw [blk_write] at h2
      by_cases e1 : b' = b
      · subst e1
        simp only [if_true, Option.some.injEq] at h2
        rw [hk] at h1; cases h1
        subst h2
        refine ⟨rfl, [(o, n)], rfl, fun j hj hx => hg j hj (hx (o, n) (by simp))⟩
      · rw [if_neg e1] at h2
        by_cases e2 : b' ∈ k.mates
        · simp [e2] at h2
        · rw [if_neg e2, h1] at h2
          cases h2
          exact ⟨rfl, [], rfl, fun _ _ _ => rfl⟩
    · intro b' hb' hnone
      rw [blk_write]
      by_cases e1 : b' = b
      · subst e1; rw [hk] at hnone; cases hnone
      · rw [if_neg e1]; split <;> first | rfl | exact hnone
    · rintro x hx ⟨b', q, ⟨k', hb'⟩ | ⟨y, hy⟩, hq, e⟩
      rotate_left
      · exact ⟨b', q, .inr ⟨y, one_write hy⟩, hq, e⟩
      rw [blk_write] at hb'
      by_cases e1 : b' = b
      · subst e1; exact ⟨b', q, .inl ⟨k, hk⟩, hq, e⟩
      · rw [if_neg e1] at hb'
        by_cases e2 : b' ∈ k.mates
        · simp [e2] at hb'
        · rw [if_neg e2] at hb'
          exact ⟨b', q, .inl ⟨k', hb'⟩, hq, e⟩

theorem updV_get (g : Nat → V) (o : Nat) (v : V) (hs : 0 < v.size) (j : Nat) :
    updV g o v j = if o ≤ j ∧ j < o + v.size then v.cell (j - o) else g j := by
  cases v with
  | agg n f => simp only [updV, updN, nble, nblt, V.size, V.cell, Bool.cond_eq_ite, Bool.and_eq_true, decide_eq_true_eq]; rfl
  | tup n f => simp [V.size] at hs
  | junk => simp [V.size] at hs
  | _ =>
    simp only [updV, upd1, nbeq, V.cell, Bool.cond_decide]
    split <;> split <;> first | rfl | (simp only [V.size] at *; omega)

/-- cells written over cells, as both sides have them -/
theorem CR.laid {m : M} {n : Nat} {g g' : Nat → V} {c : Array Value} (h : CR m n g c.toList) {o k : Nat} {vs : List Value} (hl : vs.length = k) (hn : o + k ≤ c.size)
    {f : Nat → V} (hf : CR m k f vs) (he : ∀ j, j < n → g' j = if o ≤ j ∧ j < o + k then f (j - o) else g j) : CR m n g' (Ev.laid c o vs).toList := by
  intro j hj
  rw [Array.getElem?_toList, laid_get vs c o j (by omega), he j hj, hl]
  by_cases h1 : o ≤ j ∧ j < o + k
  · rw [if_pos h1, if_pos h1]; exact hf (j - o) (by omega)
  · rw [if_neg h1, if_neg h1]; rw [← Array.getElem?_toList]; exact h j hj

theorem CR.oneCells {m : M} {k : Nat} {f : Nat → V} {vs : List Value} (hl : vs.length = k) (hf : CR m k f vs) : ∀ v ∈ vs, v.oneCell' = true := by
  intro v hv
  obtain ⟨j, hj, rfl⟩ := List.getElem_of_mem hv
  obtain ⟨u, h1, _, h3⟩ := hf j (by omega)
  rw [List.getElem?_eq_getElem hj] at h1
  cases h1; exact h3

theorem store_sound {m : M} {σ : Store} {w : World} (h : Sim m σ w) {t : TypeId} {a v : V} {rs : Rs} (he : evStore P t a v σ = some rs) (hc : rs.c = true)
    {x y : Value} (hx : VR m a x) (hy : VR m v y) : ∃ w', rs.v = none ∧ (Instr.storeAt t x y).run P w = .ok () w' ∧ Sim m rs.σ w' ∧ Keep m σ w m rs.σ w' := by
  unfold evStore at he
  split at he
  · rename_i a
    split at he
    · rename_i k i hk hi
      cases hro : k.ro with
      | true => rw [hro] at he; simp at he
      | false =>
        rw [hro] at he
        simp only [cond_false, nblt, nbeq] at he
        by_cases hsz : 0 < i.size ∧ v.size = i.size
        · rw [show (decide (0 < i.size) && decide (v.size = i.size)) = true by simp [hsz]] at he
          simp only [cond_true] at he
          obtain ⟨hpos, hsz⟩ := hsz
          simp only [Option.some.injEq] at he
          subst he
          simp only [nble, decide_eq_true_eq] at hc
          obtain ⟨r, cs, fz, hr, hh, hs, hkn, hcr, hfz⟩ := h.cells hk
          obtain ⟨r', hr', rfl⟩ := hx
          rw [hr] at hr'; cases hr'
          obtain ⟨hcs, hcc⟩ := hy.cells (by omega)
          have hlen : y.cells.toList.length = v.size := by simpa using hcs
          obtain ⟨w', hrun, hw⟩ := storeCells_run (P := P) y.cells.toList 0 w r.1 a.o cs k.elem fz hh (by rw [hlen]; omega) (by rw [hs]; exact hfz hro) (CR.oneCells hlen hcc)
          rw [Nat.add_zero] at hw
          have hc' : CR m k.n (canonIf k.n (updV k.get a.o v)) (laid cs a.o y.cells.toList).toList :=
            (CR.laid hcr (g' := updV k.get a.o v) hlen (by omega) hcc (fun j hj => updV_get _ _ _ (by omega) j)).congr fun j hj => canonIf_eq _ _ _ hj
          obtain ⟨s1, s2⟩ := h.write hk hro hr (o := a.o) (n := v.size) hw (by rw [laid_size, hs]) (hfz hro) hc' hkn (fun j hj hne => by
            rw [canonIf_eq _ _ _ hj, updV_get _ _ _ (by omega), if_neg hne])
          refine ⟨w', rfl, ?_, s1, s2⟩
          simp only [Instr.storeAt, Instr.sureAddr, Sem.run_bind, Sem.run_pure, Result.andThen_ok, storeVar, sizeOf_run hi]
          rw [if_neg (by rw [hcs, hsz]; simp)]
          simpa using hrun
        · rw [show (decide (0 < i.size) && decide (v.size = i.size)) = false by simp; intro h1 h2; exact hsz ⟨h1, h2⟩] at he
          simp at he
    · cases he
  · cases he

def M.put (m : M) (b : Nat) (r : Nat × Nat) : M := fun x => if x = b then some r else m x

/-- bytes of which the number is known by its name are noughts -/
def ZOk (k : Blk) (c : Array Value) : Prop := ∀ e, k.z = some e → k.ro = false ∧ (c.size : Int) = e.den ∧ ∀ j, j < c.size → c[j]? = some (.int .u8 0)
theorem Sim.new {m : M} {σ : Store} {w : World} (h : Sim m σ w) {k : Blk} {c : Array Value} {fz : Nat × Nat} (hm : k.mates = [] ∨ True)
    (hc : CR (m.put σ.nx (w.heap.size, c.size)) k.n k.get c.toList) (hn : k.n ≤ c.size) (hfz : ∀ j, j < c.size → ¬ (fz.1 ≤ j ∧ j < fz.2)) (hz : ZOk k c) :
    Sim (m.put σ.nx (w.heap.size, c.size)) (σ.new k) { w with heap := w.heap.push (.cells c k.elem fz) } ∧
    Keep m σ w (m.put σ.nx (w.heap.size, c.size)) (σ.new k) { w with heap := w.heap.push (.cells c k.elem fz) } := by
  have hle : M.le m (m.put σ.nx (w.heap.size, c.size)) := by
    intro b r hb
    have := (h.dom b r hb).1
    unfold M.put
    rw [if_neg (by omega)]; exact hb
  have hlt : ∀ b k', σ.blk b = some k' → b < σ.nx := fun b k' hb => let ⟨r, hr, _⟩ := h.obj b k' hb; (h.dom b r hr).1
  have hold : ∀ x, x < w.heap.size → (w.heap.push (.cells c k.elem fz))[x]? = w.heap[x]? := fun x hx => by
    rw [Array.getElem?_push, if_neg (by omega)]
  refine ⟨⟨?_, ?_, ?_, ?_, ?_, h.fact⟩, ?_⟩
  · intro b r hb
    unfold M.put at hb
    simp only [Store.new, Array.size_push]
    split at hb
    · cases hb; rename_i e; subst e; exact ⟨by omega, by simp⟩
    · obtain ⟨h1, h2⟩ := h.dom b r hb; exact ⟨by omega, by omega⟩
  · intro b k' hb
    rw [blk_new] at hb
    split at hb
    · rename_i e; subst e; cases hb
      exact ⟨(w.heap.size, c.size), by simp [M.put], c, fz, by simp, rfl, hn, hc, fun _ => hfz, hz⟩
    · rename_i e
      obtain ⟨r, hr, c', fz', h1, h2, h3, h4, h5⟩ := h.obj b k' hb
      exact ⟨r, hle _ _ hr, c', fz', by rw [hold _ (h.dom b r hr).2]; exact h1, h2, h3, h4.mono hle, h5⟩
  · intro b b' k1 k2 r r' hb hro hb' hne hr hr' e
    rw [blk_new] at hb hb'
    unfold M.put at hr hr'
    by_cases e1 : b = σ.nx
    · rw [if_pos e1] at hr hb
      rw [if_neg (fun h => hne (e1.trans h.symm))] at hr' hb'
      cases hr
      have := (h.dom b' r' hr').2
      simp only at e; omega
    · rw [if_neg e1] at hr hb
      by_cases e2 : b' = σ.nx
      · rw [if_pos e2] at hr'
        cases hr'
        have := (h.dom b r hr).2
        simp only at e; omega
      · rw [if_neg e2] at hr' hb'
        exact h.inj b b' k1 k2 r r' hb hro hb' hne hr hr' e
  · intro b x hx
    rw [one_new] at hx
    split at hx
    · cases hx
    · obtain ⟨r, hr, hO⟩ := h.one b x hx
      exact ⟨r, hle _ _ hr, by rw [hold _ (h.dom b r hr).2]; exact hO.mono hle⟩
  · intro b b' x x' r r' hx hx' hne hr hr'
    rw [one_new] at hx hx'
    unfold M.put at hr hr'
    split at hx
    · cases hx
    · split at hx'
      · cases hx'
      · rename_i e1 e2
        rw [if_neg e1] at hr
        rw [if_neg e2] at hr'
        exact h.oinj b b' x x' r r' hx hx' hne hr hr'
  · refine ⟨hle, rfl, rfl, rfl, by simp, fun x hx _ => hold x hx, ?_, by simp [Store.new], ?_, ?_, ?_, ?_⟩
    · rintro x hx ⟨b, q, ⟨k', hb, hro⟩ | ⟨y, hy⟩, hq, e⟩
      · rw [blk_new] at hb
        unfold M.put at hq
        split at hb
        · rename_i e1; rw [if_pos e1] at hq; cases hq; simp only at e; omega
        · rename_i e1; rw [if_neg e1] at hq; exact ⟨b, q, .inl ⟨k', hb, hro⟩, hq, e⟩
      · rw [one_new] at hy
        unfold M.put at hq
        split at hy
        · cases hy
        · rename_i e1; rw [if_neg e1] at hq; exact ⟨b, q, .inr ⟨y, hy⟩, hq, e⟩
    · intro b hb; unfold M.put; rw [if_neg (by omega)]
    · intro b k1 k2 hb h1 h2
      rw [blk_new, if_neg (by omega), h1] at h2
      cases h2
      exact ⟨rfl, [], rfl, fun _ _ _ => rfl⟩
    · intro b hb hnone
      rw [blk_new, if_neg (by omega)]; exact hnone
    · rintro x hx ⟨b, q, ⟨k', hb⟩ | ⟨y, hy⟩, hq, e⟩
      · rw [blk_new] at hb
        unfold M.put at hq
        split at hb
        · rename_i e1; rw [if_pos e1] at hq; cases hq; simp only at e; omega
        · rename_i e1; rw [if_neg e1] at hq; exact ⟨b, q, .inl ⟨k', hb⟩, hq, e⟩
      · rw [one_new] at hy
        unfold M.put at hq
        split at hy
        · cases hy
        · rename_i e1; rw [if_neg e1] at hq; exact ⟨b, q, .inr ⟨y, hy⟩, hq, e⟩

end Go.Ev
