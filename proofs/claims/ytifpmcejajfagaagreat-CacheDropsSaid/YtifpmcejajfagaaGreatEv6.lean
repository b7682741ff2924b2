/- Each operation that calls no Go function is sound: values without memory, new blocks. -/
import Derived.Test.YtifpmcejajfagaaGreatEv5
set_option linter.all false
namespace Go.Ev
variable [Env]
variable {P : Program}

theorem evUn_sound {m : M} {op : UnOp} {x v : V} (h : evUn op x = some v) {a : Value} (ha : VR m x a) (w : World) :
    ∃ r, (Op.unary op a).run P w = .ok r w ∧ VR m v r := by
  unfold evUn at h
  split at h
  · simp only [VR] at ha; subst ha; cases h; exact ⟨_, rfl, rfl⟩
  · simp only [VR] at ha; subst ha; cases h; exact ⟨_, rfl, rfl⟩
  · simp only [VR] at ha; subst ha; cases h; exact ⟨_, rfl, rfl⟩
  · rename_i b neg
    simp only [VR] at ha; subst ha; cases h
    exact ⟨.bool (!(b.den != neg)), rfl, by simp only [VR]; cases BX.den b <;> cases neg <;> rfl⟩
  · simp only [VR] at ha; subst ha; cases h; exact ⟨_, rfl, rfl⟩
  · simp only [VR] at ha; subst ha; cases h; exact ⟨_, rfl, rfl⟩
  · cases h

theorem evConvert_sound {m : M} {src dst : TypeId} {x v : V} (h : evConvert P src dst x = some v) {a : Value} (ha : VR m x a) (w : World) :
    ∃ r, (convert src dst a).run P w = .ok r w ∧ VR m v r := by
  unfold evConvert at h
  split at h
  · rename_i k k' n h1 h2
    simp only [VR] at ha; subst ha; cases h
    exact ⟨_, by simp only [convert, Sem.run_bind, run_underlying h1, run_underlying h2, Result.andThen_ok, Conv.intToInt, Sem.run_pure], rfl⟩
  · rename_i k k' n e h1 h2
    simp only [VR] at ha; subst ha; cases h
    exact ⟨_, by simp only [convert, Sem.run_bind, run_underlying h1, run_underlying h2, Result.andThen_ok, Conv.intToInt, Sem.run_pure]; rfl, rfl⟩
  · rename_i s h1 h2
    simp only [VR] at ha; subst ha; cases h
    exact ⟨_, by simp only [convert, Sem.run_bind, run_underlying h1, run_underlying h2, Result.andThen_ok, Sem.run_pure], rfl⟩
  · cases h

def PRs (m : M) : List (Nat × V) → List (Nat × Value) → Prop
  | [], [] => True
  | (i, v) :: l, (j, w) :: l' => i = j ∧ VR m v w ∧ PRs m l l'
  | _, _ => False
theorem opdParts_sound {m : M} {ρ : Operand → Option V} {a : Act} (h : RR m ρ a) : ∀ {l : List (Nat × Operand)} {ps : List (Nat × V)}, opdParts ρ l = some ps →
    PRs m ps (l.map fun (i, x) => (i, a.eval x))
  | [], ps, e => by simp only [opdParts] at e; cases e; trivial
  | (i, x) :: l, ps, e => by
    simp only [opdParts] at e
    split at e
    · rename_i v r h1 h2; cases e; exact ⟨rfl, h _ _ h1, opdParts_sound h h2⟩
    · cases e

theorem foldl_laid (off : Nat) : ∀ (l : List Value) (i : Nat) (c : Array Value),
    (l.zipIdx i).foldl (fun cs (x : Value × Nat) => cs.setIfInBounds (off + x.2) x.1) c = laid c (off + i) l
  | [], _, _ => rfl
  | v :: l, i, c => by
    simp only [List.zipIdx_cons, List.foldl_cons, laid]
    rw [foldl_laid off l (i + 1)]; rfl

theorem fill_sound {m : M} {place : Nat → Option (Nat × Nat)} {n : Nat} : ∀ {l : List (Nat × V)} {l' : List (Nat × Value)} {g g' : Nat → V} {c : Array Value},
    fillV place n g l = some g' → PRs m l l' → CR m n g c.toList → c.size = n → ∃ c', Instr.fill place c l' = some c' ∧ c'.size = n ∧ CR m n g' c'.toList
  | [], [], g, g', c, e, _, hc, hs => by simp only [fillV] at e; cases e; exact ⟨c, rfl, hs, hc⟩
  | [], _ :: _, _, _, _, _, h, _, _ => h.elim
  | _ :: _, [], _, _, _, _, h, _, _ => by cases h
  | (i, v) :: l, (j, w) :: l', g, g', c, e, h, hc, hs => by
    obtain ⟨rfl, hv, hl⟩ := h
    simp only [fillV] at e
    cases hp : place i with
    | none => simp [hp] at e
    | some os =>
      obtain ⟨off, sz⟩ := os
      simp only [hp] at e
      cases hb : (Nat.blt 0 sz && (Nat.beq v.size sz && Nat.ble (off + sz) n)) with
      | false => rw [hb] at e; simp at e
      | true =>
        rw [hb] at e
        simp only [cond_true] at e
        simp only [Bool.and_eq_true, nblt, nbeq, nble, decide_eq_true_eq] at hb
        obtain ⟨h0, h1, h2⟩ := hb
        obtain ⟨e1, e2⟩ := hv.cells (by omega)
        have hlen : w.cells.toList.length = v.size := by simpa using e1
        have hfold : w.cells.zipIdx.foldl (fun cs (x : Value × Nat) => cs.setIfInBounds (off + x.2) x.1) c = laid c off w.cells.toList := by
          rw [← Array.foldl_toList, Array.toList_zipIdx, foldl_laid, Nat.add_zero]
        have hc2 : CR m n (updV g off v) (laid c off w.cells.toList).toList :=
          CR.laid hc hlen (by omega) e2 (fun j _ => updV_get _ _ _ (by omega) j)
        obtain ⟨c', f1, f2, f3⟩ := fill_sound e hl hc2 (by rw [laid_size, hs])
        refine ⟨c', ?_, f2, f3⟩
        simp only [Instr.fill, hp]
        rw [if_neg (by simp; omega)]
        rw [hfold]; exact f1

theorem zeroV_sound {t : TypeId} {n : Nat} {z : Nat → V} (h : zeroV P t = some (n, z)) :
    ∃ i v, P.info? t = some i ∧ i.zero = some v ∧ v.cells.size = n ∧ ∀ m, CR m n z v.cells.toList := by
  unfold zeroV at h
  cases hi : P.info? t with
  | none => simp [hi] at h
  | some i =>
    simp only [hi] at h
    cases hz : i.zero with
    | none => simp [hz] at h
    | some v =>
      simp only [hz] at h
      cases hb : (v.cells.toList.all fun v => (ofConst v).isSome) with
      | false => rw [hb] at h; simp at h
      | true =>
        rw [hb] at h
        simp only [cond_true, Option.some.injEq, Prod.mk.injEq] at h
        obtain ⟨rfl, rfl⟩ := h
        refine ⟨i, v, rfl, hz, rfl, fun m j hj => ?_⟩
        have hx : v.cells.toList[j]? = some v.cells[j] := by simp [hj]
        refine ⟨v.cells[j], hx, ?_⟩
        have hall := List.all_eq_true.1 hb v.cells[j] (by simp)
        obtain ⟨u, hu⟩ := Option.isSome_iff_exists.1 hall
        obtain ⟨g1, g2, g3⟩ := VR.ofConst (m := m) hu
        have : ((v.cells[j]?).bind ofConst).getD .junk = u := by simp [hj, hu]
        show VR m (((v.cells[j]?).bind ofConst).getD .junk) v.cells[j] ∧ _
        rw [this]; exact ⟨g1, g3⟩

theorem fieldPlaces_sound : ∀ {fs : List Field} {ps : List (Nat × Nat)}, fieldPlaces P fs = some ps → ∀ (w : World),
    (fs.mapM fun (f : Field) => (do pure (f.offset, ← Go.sizeOf f.type) : Sem (Nat × Nat))).run P w = .ok ps w
  | [], ps, h, w => by simp only [fieldPlaces] at h; cases h; rfl
  | f :: fs, ps, h, w => by
    simp only [fieldPlaces] at h
    split at h
    · rename_i i r hi hr
      cases h
      simp only [List.mapM_cons, Sem.run_bind, sizeOf_run hi, Result.andThen_ok, Sem.run_pure, fieldPlaces_sound hr w]
    · cases h

theorem build_sound {m : M} {t : TypeId} {ps : List (Nat × V)} {v : V} (h : evBuild P t ps = some v) {ps' : Array (Nat × Value)} (hp : PRs m ps ps'.toList) (w : World) :
    ∃ r, (Instr.build t ps').run P w = .ok r w ∧ VR m v r := by
  unfold evBuild at h
  split at h
  · rename_i n z fs hz hd
    obtain ⟨i, zv, hi, hzv, hsz, hcr⟩ := zeroV_sound hz
    split at h
    · rename_i places hpl
      split at h
      · rename_i g hg
        cases h
        obtain ⟨c', f1, f2, f3⟩ := fill_sound hg hp (hcr m) hsz
        refine ⟨.agg c', ?_, VR.agg_of f2 (f3.congr fun j hj => canon_eq _ _ _ hj)⟩
        have hmap : (fs.mapM fun (f : Field) => (do pure (f.offset, ← Go.sizeOf f.type) : Sem (Nat × Nat))).run P w = .ok places.toArray w := by
          rw [Array.mapM_eq_mapM_toList, Sem.run_map, fieldPlaces_sound hpl w]; rfl
        simp only [Instr.build, Sem.run_bind, zeroValue_run hi hzv, Result.andThen_ok, Sem.run_pure, run_underlying hd, hmap]
        have : (fun (x : Nat) => places.toArray[x]?) = (fun (x : Nat) => places[x]?) := by funext x; simp
        rw [this, f1]
        rfl
      · cases h
    · cases h
  · rename_i n z len e hz hd
    obtain ⟨i, zv, hi, hzv, hsz, hcr⟩ := zeroV_sound hz
    split at h
    · rename_i ie hie
      split at h
      · rename_i g hg
        cases h
        obtain ⟨c', f1, f2, f3⟩ := fill_sound hg hp (hcr m) hsz
        refine ⟨.agg c', ?_, VR.agg_of f2 (f3.congr fun j hj => canon_eq _ _ _ hj)⟩
        simp only [Instr.build, Sem.run_bind, zeroValue_run hi hzv, Result.andThen_ok, Sem.run_pure, run_underlying hd, sizeOf_run hie]
        rw [f1]
        rfl
      · cases h
    · cases h
  · cases h

theorem alloc_ok {m : M} {σ : Store} {w : World} (h : Sim m σ w) {k : Blk} (hro : k.ro = false) {c : Array Value} (hc : CR m k.n k.get c.toList) (hn : k.n ≤ c.size) (hz : ZOk k c := by intro e he; cases he) :
    ∃ m', Sim m' (σ.new k) { w with heap := w.heap.push (.cells c k.elem) } ∧ Keep m σ w m' (σ.new k) { w with heap := w.heap.push (.cells c k.elem) } ∧
      m' σ.nx = some (w.heap.size, c.size) := by
  have hle : M.le m (m.put σ.nx (w.heap.size, c.size)) := by
    intro b r hb
    have := (h.dom b r hb).1
    unfold M.put
    rw [if_neg (by omega)]; exact hb
  obtain ⟨h1, h2⟩ := h.new (k := k) (c := c) (fz := (0, 0)) (.inr trivial) (hc.mono hle) hn (fun j hj => by simp) hz
  exact ⟨_, h1, h2, by simp [M.put]⟩

theorem newRow_run (e : TypeId) (c : Array Value) (w : World) : (newRow e c).run P w = .ok ⟨w.heap.size, 0, none⟩ { w with heap := w.heap.push (.cells c e) } := rfl

theorem alloc_sound {m : M} {σ : Store} {w : World} (h : Sim m σ w) {t : TypeId} {n : Nat} {z : Nat → V} (hz : zeroV P t = some (n, z)) :
    ∃ r m' w', (Instr.alloc t true (.tuple #[])).run P w = .ok r w' ∧ VR m' (.p (some ⟨σ.nx, 0⟩)) r ∧ Sim m' (σ.new ⟨n, canon n z, t, false, [], [], none⟩) w' ∧
      Keep m σ w m' (σ.new ⟨n, canon n z, t, false, [], [], none⟩) w' := by
  obtain ⟨i, v, hi, hv, hs, hc⟩ := zeroV_sound hz
  obtain ⟨m', h1, h2, h3⟩ := alloc_ok h (k := ⟨n, canon n z, t, false, [], [], none⟩) rfl (c := v.cells) ((hc m).congr fun j hj => canon_eq _ _ _ hj) (by simp [hs])
  refine ⟨_, m', _, ?_, ⟨_, h3, rfl⟩, h1, h2⟩
  simp only [Instr.alloc, Sem.run_bind, zeroValue_run hi hv, Result.andThen_ok, newVar, newRow_run, Sem.run_pure]

theorem box_sound {m : M} {σ : Store} {w : World} (h : Sim m σ w) {t : TypeId} {v : V} (hs : 0 < v.size) {x : Value} (hx : VR m v x) :
    ∃ r m' w', (Instr.box t x).run P w = .ok r w' ∧ VR m' (.p (some ⟨σ.nx, 0⟩)) r ∧ Sim m' (σ.new ⟨v.size, canon v.size v.cell, t, false, [], [], none⟩) w' ∧
      Keep m σ w m' (σ.new ⟨v.size, canon v.size v.cell, t, false, [], [], none⟩) w' := by
  obtain ⟨e1, e2⟩ := hx.cells hs
  obtain ⟨m', h1, h2, h3⟩ := alloc_ok h (k := ⟨v.size, canon v.size v.cell, t, false, [], [], none⟩) rfl (c := x.cells) (e2.congr fun j hj => canon_eq _ _ _ hj) (by simp [e1])
  refine ⟨_, m', _, ?_, ⟨_, h3, rfl⟩, h1, h2⟩
  simp only [Instr.box, Sem.run_bind, newVar, newRow_run, Result.andThen_ok, Sem.run_pure]

theorem repeat_CR {m : M} {sz : Nat} {z : Nat → V} {zc : Array Value} (hz : CR m sz z zc.toList) (hs : zc.size = sz) (h0 : 0 < sz) (n : Nat) :
    CR m n (repeatV sz z) ((Array.range n).map (zc[· % zc.size]!)).toList := by
  intro j hj
  obtain ⟨v, h1, h2, h3⟩ := hz (j % sz) (Nat.mod_lt _ h0)
  refine ⟨v, ?_, h2, h3⟩
  rw [Array.getElem?_toList] at h1 ⊢
  have hlt : j % sz < zc.size := by rw [hs]; exact Nat.mod_lt _ h0
  rw [Array.getElem?_eq_getElem hlt] at h1
  cases h1
  simp [hj, hs, Nat.mod_lt _ h0]

theorem buildSlice_sound {m : M} {σ : Store} {w : World} (h : Sim m σ w) {t : TypeId} {len : Nat} {ps : List (Nat × V)} {rs : Rs} (he : evBuildSlice P t len ps σ = some rs)
    {ps' : Array (Nat × Value)} (hp : PRs m ps ps'.toList) :
    ∃ k v r m' w', rs = ⟨true, some v, σ.new k⟩ ∧ k.ro = false ∧ (Instr.buildSlice t len ps').run P w = .ok r w' ∧ VR m' v r ∧ Sim m' rs.σ w' ∧ Keep m σ w m' rs.σ w' := by
  unfold evBuildSlice at he
  split at he
  · rename_i e hd
    split at he
    · rename_i i sz z hi hz
      obtain ⟨i', zv, hi', hzv, hsz, hcr⟩ := zeroV_sound hz
      rw [hi] at hi'; cases hi'
      cases hb : (Nat.beq sz i.size && Nat.ble (len * sz) 16777216 && Nat.blt 0 sz) with
      | false => rw [hb] at he; simp at he
      | true =>
        rw [hb] at he
        simp only [cond_true] at he
        simp only [Bool.and_eq_true, nblt, nbeq, nble, decide_eq_true_eq] at hb
        obtain ⟨⟨rfl, h2⟩, h0⟩ := hb
        split at he
        · rename_i g hg
          cases he
          have hzero : ∃ zc : Array Value, (if len * i.size = 0 then pure #[] else do pure (← zeroValue e).cells : Sem (Array Value)).run P w = .ok zc w ∧
              CR m (len * i.size) (repeatV i.size z) ((Array.range (len * i.size)).map (zc[· % zc.size]!)).toList := by
            by_cases hl : len * i.size = 0
            · exact ⟨#[], by rw [if_pos hl]; rfl, fun j hj => by omega⟩
            · exact ⟨zv.cells, by rw [if_neg hl]; simp only [Sem.run_bind, zeroValue_run hi hzv, Result.andThen_ok, Sem.run_pure], repeat_CR (hcr m) hsz h0 _⟩
          obtain ⟨zc, g1, g2⟩ := hzero
          obtain ⟨c', f1, f2, f3⟩ := fill_sound hg hp g2 (by simp)
          obtain ⟨m', h1, h2', h3⟩ := alloc_ok h (k := ⟨len * i.size, canon (len * i.size) g, e, false, [], [], none⟩) rfl (c := c') (f3.congr fun j hj => canon_eq _ _ _ hj) (by simp [f2])
          refine ⟨_, _, _, m', _, rfl, rfl, ?_, ⟨_, len, h3, rfl, Nat.le_refl _, Nat.le_refl _, fun _ => rfl, fun h => absurd rfl h⟩, h1, h2'⟩
          simp only [Instr.buildSlice, Sem.run_bind, run_underlying hd, Result.andThen_ok, sizeOf_run hi]
          rw [if_neg (by omega)]
          by_cases hl : len * i.size = 0
          · rw [if_pos hl] at g1 ⊢
            cases g1
            simp only [Sem.run_bind, Sem.run_pure, Result.andThen_ok, f1, newRow_run]
          · rw [if_neg hl] at g1 ⊢
            simp only [Sem.run_bind, zeroValue_run hi hzv, Result.andThen_ok, Sem.run_pure] at g1
            cases g1
            simp only [Sem.run_bind, zeroValue_run hi hzv, Sem.run_pure, Result.andThen_ok, f1, newRow_run]
        · cases he
    · cases he
  · cases he

/-- new bytes, as many as a number says -/
theorem makeSym {w : World} {t e : TypeId} (hd : P.underlying t = some (.slice e)) {n lo hi : Int} {i : TypeInfo} {z : Nat → V} (hi' : P.info? e = some i) (hz : zeroV P e = some (1, z))
    (hz0 : z 0 = .i .u8 (.ofNat 0)) (hs : i.size = 1) (b1 : lo ≤ n) (b2 : n ≤ hi) (c0 : 0 ≤ lo) (c1 : hi ≤ 140737488355328) (c2 : hi * i.bytes ≤ 140737488355328) :
    ∃ c : Array Value, (Instr.makeSlice t (.int .i64 n) (.int .i64 n)).run P w = .ok (.slice (some ⟨w.heap.size, 0, none⟩) n.toNat n.toNat) { w with heap := w.heap.push (.cells c e) } ∧ c.size = n.toNat ∧
      ∀ j, j < c.size → c[j]? = some (.int .u8 0) := by
  obtain ⟨i', zv, hi2, hzv, hsz, hcr⟩ := zeroV_sound hz
  rw [hi'] at hi2; cases hi2
  have hwl : IntKind.i64.wrap n = n := by unfold IntKind.wrap; simp [IntKind.bits, IntKind.signed]; omega
  have hmul : n * i.bytes ≤ 140737488355328 := Int.le_trans (Int.mul_le_mul_of_nonneg_right b2 (by omega)) c2
  have h0 : zv.cells[0]? = some (.int .u8 0) := by
    obtain ⟨v, h1, h2, _⟩ := hcr (fun _ => none) 0 (by omega)
    rw [hz0] at h2
    simp only [VR] at h2
    subst h2
    rw [← Array.getElem?_toList]; exact h1
  refine ⟨(Array.range (n.toNat * i.size)).map ((if n.toNat * i.size = 0 then #[] else zv.cells)[· % (if n.toNat * i.size = 0 then (#[] : Array Value) else zv.cells).size]!), ?_, by simp [hs], ?_⟩
  · simp only [Instr.makeSlice, Sem.run_bind, run_underlying hd, Result.andThen_ok, asInt, asIntOf, Sem.run_pure, typeInfo_run hi', sizeOf_run hi', hwl, run_askRoom]
    have htl : (decide (n < 0) || decide ((i.bytes : Int) * n > 2 ^ 48)) = false := by
      have : (i.bytes : Int) * n = n * i.bytes := Int.mul_comm _ _
      simp only [Bool.or_eq_false_iff, decide_eq_false_iff_not]
      omega
    have hcond : (decide (n < 0) || decide ((i.bytes : Int) * n > 2 ^ 48) || decide (n < 0) || decide (n > n)) = false := by
      rw [htl]; simp; omega
    rw [hcond]
    simp only [Bool.false_eq_true, if_false, Sem.run_bind, run_askRoom, Result.andThen_ok, sizeOf_run hi']
    by_cases hl : n.toNat * i.size = 0
    · simp only [if_pos hl, Sem.run_bind, Sem.run_pure, Result.andThen_ok, newRow_run]
    · simp only [if_neg hl, Sem.run_bind, zeroValue_run hi' hzv, Sem.run_pure, Result.andThen_ok, newRow_run]
  · intro j hj
    simp only [Array.size_map, Array.size_range] at hj
    rw [if_neg (by omega)]
    have e1 : zv.cells[0]! = .int .u8 0 := by rw [Array.getElem!_eq_getD, Array.getD_eq_getD_getElem?, h0]; rfl
    simp only [hsz, Array.getElem?_map, Array.getElem?_range, Nat.mod_one]
    rw [if_pos hj]
    simp only [Option.map_some, e1]

theorem makeSlice_sound {m : M} {σ : Store} {w : World} (h : Sim m σ w) {t : TypeId} {l c : V} {rs : Rs} (he : evMakeSlice P t l c σ = some rs) (hc : rs.c = true)
    {x y : Value} (hx : VR m l x) (hy : VR m c y) :
    ∃ k v r m' w', rs = ⟨rs.c, some v, σ.new k⟩ ∧ k.ro = false ∧ (Instr.makeSlice t x y).run P w = .ok r w' ∧ VR m' v r ∧ Sim m' rs.σ w' ∧ Keep m σ w m' rs.σ w' := by
  unfold evMakeSlice at he
  split at he
  · rename_i e kl l kc c hd
    simp only [VR] at hx hy; subst hx; subst hy
    split at he
    · rename_i i sz z hi hz
      obtain ⟨i', zv, hi', hzv, hsz, hcr⟩ := zeroV_sound hz
      rw [hi] at hi'; cases hi'
      cases hb : (Nat.beq sz i.size && Nat.blt 0 sz) with
      | false => rw [hb] at he; simp at he
      | true =>
        rw [hb] at he
        simp only [cond_true] at he
        simp only [Bool.and_eq_true, nblt, nbeq, nble, decide_eq_true_eq] at hb
        obtain ⟨rfl, h0⟩ := hb
        simp only [Option.some.injEq] at he
        subst he
        simp only [Bool.and_eq_true, decide_eq_true_eq] at hc
        obtain ⟨c0, c1, c2, c3⟩ := hc
        have hwl : IntKind.i64.wrap l = l := by unfold IntKind.wrap; simp [IntKind.bits, IntKind.signed]; omega
        have hwc : IntKind.i64.wrap c = c := by unfold IntKind.wrap; simp [IntKind.bits, IntKind.signed]; omega
        obtain ⟨m', h1, h2', h3⟩ := alloc_ok h (k := ⟨c.toNat * i.size, repeatV i.size z, e, false, [], [], none⟩) rfl
          (c := (Array.range (c.toNat * i.size)).map ((if c.toNat * i.size = 0 then #[] else zv.cells)[· % (if c.toNat * i.size = 0 then (#[] : Array Value) else zv.cells).size]!))
          (by
            by_cases hl : c.toNat * i.size = 0
            · intro j hj; simp only at hj; omega
            · rw [if_neg hl]; exact repeat_CR (hcr m) hsz h0 _) (by simp)
        refine ⟨_, _, _, m', _, rfl, rfl, ?_, ⟨_, c.toNat, h3, rfl, by omega, Nat.le_refl _, fun _ => rfl, fun h => absurd rfl h⟩, h1, h2'⟩
        simp only [Instr.makeSlice, Sem.run_bind, run_underlying hd, Result.andThen_ok, asInt, asIntOf, Sem.run_pure, typeInfo_run hi, sizeOf_run hi, hwl, hwc, run_askRoom]
        have htl : (decide (c < 0) || decide ((i.bytes : Int) * c > 2 ^ 48)) = false := by
          have : (i.bytes : Int) * c = c * i.bytes := Int.mul_comm _ _
          simp only [Bool.or_eq_false_iff, decide_eq_false_iff_not]
          omega
        have hcond : (decide (c < 0) || decide ((i.bytes : Int) * c > 2 ^ 48) || decide (l < 0) || decide (l > c)) = false := by
          rw [htl]; simp; omega
        rw [hcond]
        simp only [Bool.false_eq_true, if_false, Sem.run_bind, run_askRoom, Result.andThen_ok, sizeOf_run hi]
        by_cases hl : c.toNat * i.size = 0
        · simp only [if_pos hl, Sem.run_bind, Sem.run_pure, Result.andThen_ok, newRow_run]
        · simp only [if_neg hl, Sem.run_bind, zeroValue_run hi hzv, Sem.run_pure, Result.andThen_ok, newRow_run]
    · cases he
  · rename_i e l c hd
    simp only [VR] at hx hy; subst hx; subst hy
    cases hsame : SX.same l c with
    | false => rw [hsame] at he; cases he
    | true =>
      obtain rfl := SX.same_eq hsame
      rw [hsame] at he
      simp only [cond_true] at he
      split at he
      · rename_i i z lo hi hu hi' hz hbnd
        split at he
        · rename_i hz0
          cases hs : Nat.beq i.size 1 with
          | false => rw [hs] at he; cases he
          | true =>
            rw [hs] at he
            rw [nbeq, decide_eq_true_eq] at hs
            simp only [cond_true, Option.some.injEq] at he
            subst he
            simp only [Bool.and_eq_true, decide_eq_true_eq] at hc
            obtain ⟨c0, c1, c2⟩ := hc
            have hb := SX.bnd_sound hbnd
            obtain ⟨cs, r1, r2, r3⟩ := makeSym (w := w) hd hi' hz hz0 hs hb.1 hb.2 c0 c1 c2
            obtain ⟨m', h1, h2', h3⟩ := alloc_ok h (k := ⟨0, fun _ => .junk, e, false, [], [], some l⟩) rfl (c := cs) (fun j hj => by simp only at hj; omega) (by simp only; omega)
              (fun e' he' => by cases he'; exact ⟨rfl, by omega, r3⟩)
            refine ⟨_, _, _, m', _, rfl, rfl, r1, ⟨_, h3, ?_, by simp only; omega⟩, h1, h2'⟩
            simp only [r2]
        · cases he
      · cases he
  · cases he

theorem fieldAddr_sound {m : M} {t : TypeId} {x v : V} {f : Nat} (h : evFieldAddr P t x f = some v) {a : Value} (ha : VR m x a) (w : World) :
    ∃ r, (Instr.fieldAt t a f).run P w = .ok r w ∧ VR m v r := by
  unfold evFieldAddr at h
  split at h
  · rename_i fs pl hd
    cases hf : fs[f]? with
    | none => simp [hf] at h
    | some fd =>
      cases hi : P.info? fd.type with
      | none => simp [hf, hi] at h
      | some i =>
        simp only [hf, hi, Option.bind_some, nbeq] at h
        by_cases hz : i.size = 0
        · simp [hz] at h
        · simp only [hz, decide_false, cond_false, Option.some.injEq] at h
          subst h
          obtain ⟨r, hr, rfl⟩ := ha
          refine ⟨_, ?_, ⟨r, hr, rfl⟩⟩
          simp only [Instr.fieldAt, Sem.run_bind, run_underlying hd, Result.andThen_ok, hf, Instr.sureAddr, Sem.run_pure, fieldPlace, sizeOf_run hi, if_neg hz, addr_add]
          rfl
  · cases h

theorem indexAddr_sound {m : M} {t : TypeId} {x ix v : V} {c : Bool} (h : evIndexAddr P t x ix = some (c, v)) (hc : c = true) {a b : Value} (ha : VR m x a) (hb : VR m ix b) (w : World) :
    ∃ r, (Instr.indexAt t a b).run P w = .ok r w ∧ VR m v r := by
  unfold evIndexAddr at h
  split at h
  · rename_i k n
    simp only [VR] at hb; subst hb
    split at h
    · rename_i len e pl hd
      cases hi : P.info? e with
      | none => simp [hi] at h
      | some i =>
        simp only [hi, Option.map_some, Option.some.injEq, Prod.mk.injEq] at h
        obtain ⟨rfl, rfl⟩ := h
        simp only [Bool.and_eq_true, decide_eq_true_eq] at hc
        obtain ⟨r, hr, rfl⟩ := ha
        refine ⟨_, ?_, ⟨r, hr, rfl⟩⟩
        simp only [Instr.indexAt, asIntOf, Sem.run_bind, Sem.run_pure, Result.andThen_ok, run_underlying hd, Instr.sureAddr, if_pos hc, sizeOf_run hi, addr_add]
        rfl
    · rename_i e pl len cap z hd
      cases hi : P.info? e with
      | none => simp [hi] at h
      | some i =>
        simp only [hi, Option.map_some, Option.some.injEq, Prod.mk.injEq] at h
        obtain ⟨rfl, rfl⟩ := h
        simp only [Bool.and_eq_true, decide_eq_true_eq] at hc
        obtain ⟨r, c', hr, rfl, _⟩ := ha
        refine ⟨_, ?_, ⟨r, hr, rfl⟩⟩
        simp only [Instr.indexAt, asIntOf, Sem.run_bind, Sem.run_pure, Result.andThen_ok, run_underlying hd, if_pos hc, sizeOf_run hi, addr_add]
        rfl
    · cases h
  · cases h

theorem index_sound {m : M} {t : TypeId} {x ix v : V} {c : Bool} (h : evIndex P t x ix = some (c, v)) (hc : c = true) {a b : Value} (ha : VR m x a) (hb : VR m ix b) (w : World) :
    ∃ r, (Instr.index t a b).run P w = .ok r w ∧ VR m v r := by
  unfold evIndex at h
  split at h
  · rename_i k n
    simp only [VR] at hb; subst hb
    split at h
    · rename_i len e sz f hd
      cases hi : P.info? e with
      | none => simp [hi] at h
      | some i =>
        simp only [hi, Option.bind_some] at h
        cases hp : partV P e f (n.toNat * i.size) with
        | none => simp [hp] at h
        | some cv =>
          obtain ⟨c', v'⟩ := cv
          simp only [hp, Option.map_some, Option.some.injEq, Prod.mk.injEq] at h
          obtain ⟨rfl, rfl⟩ := h
          simp only [Bool.and_eq_true, decide_eq_true_eq, nblt, nble] at hc
          obtain ⟨c0, c1, c2, c3, c4⟩ := hc
          subst c4
          obtain ⟨cs, rfl, s1, r1⟩ := ha
          have hcr : CR m sz f cs.toList := fun j hj => ⟨cs[j], by simp [s1, hj], (r1 j (by omega)).1, (r1 j (by omega)).2⟩
          obtain ⟨r, g1, g2⟩ := part_sound hp rfl hcr hi c3 (by omega) w
          refine ⟨r, ?_, g2⟩
          simp only [Instr.index, asIntOf, Sem.run_bind, Sem.run_pure, Result.andThen_ok, run_underlying hd, if_pos (And.intro c0 c1), sizeOf_run hi, g1]
    · rename_i s hd
      cases h
      simp only [Bool.and_eq_true, decide_eq_true_eq] at hc
      simp only [VR] at ha; subst ha
      have hlt : n.toNat < s.size := by omega
      refine ⟨_, ?_, rfl⟩
      simp only [Instr.index, asIntOf, Sem.run_bind, Sem.run_pure, Result.andThen_ok, run_underlying hd, if_pos hc.1]
      have : s[n.toNat]? = some s[n.toNat] := by simp [hlt]
      simp [this]
    · cases h
  · cases h

theorem field_sound {m : M} {t : TypeId} {x v : V} {f : Nat} {c : Bool} (h : evField P t x f = some (c, v)) (hc : c = true) {a : Value} (ha : VR m x a) (w : World) :
    ∃ r, (Instr.field t a f).run P w = .ok r w ∧ VR m v r := by
  unfold evField at h
  split at h
  · rename_i fs n g hd
    cases hf : fs[f]? with
    | none => simp [hf] at h
    | some fd =>
      cases hi : P.info? fd.type with
      | none => simp [hf, hi] at h
      | some i =>
        simp only [hf, hi, Option.bind_some] at h
        cases hp : partV P fd.type g fd.offset with
        | none => simp [hp] at h
        | some cv =>
          obtain ⟨c', v'⟩ := cv
          simp only [hp, Option.map_some, Option.some.injEq, Prod.mk.injEq] at h
          obtain ⟨rfl, rfl⟩ := h
          simp only [Bool.and_eq_true, nblt, nble, decide_eq_true_eq] at hc
          obtain ⟨c0, c1, c2⟩ := hc
          subst c2
          obtain ⟨cs, rfl, s1, r1⟩ := ha
          have hcr : CR m n g cs.toList := fun j hj => ⟨cs[j], by simp [s1, hj], (r1 j (by omega)).1, (r1 j (by omega)).2⟩
          obtain ⟨r, g1, g2⟩ := part_sound hp rfl hcr hi c1 (by omega) w
          refine ⟨r, ?_, g2⟩
          simp only [Instr.field, Sem.run_bind, run_underlying hd, Result.andThen_ok, hf, asAgg, Sem.run_pure, g1]
  · cases h

def valOpt (m : M) (x : Option V) (y : Option Value) : Prop := (x = none ∧ y = none) ∨ ∃ v w, x = some v ∧ y = some w ∧ VR m v w
theorem bnd_sound {m : M} {x : Option V} {y : Option Value} (hxy : valOpt m x y) {d n : Nat} {c : Bool} (h : bnd x d = some (c, n)) (hc : c = true) :
    (y = none ∧ n = d) ∨ ∃ k i, y = some (.int k i) ∧ 0 ≤ i ∧ n = i.toNat := by
  rcases hxy with ⟨rfl, rfl⟩ | ⟨v, w, rfl, rfl, hv⟩
  · simp only [bnd] at h; cases h; exact .inl ⟨rfl, rfl⟩
  · cases v <;> simp only [bnd] at h <;> first | cases h | skip
    simp only [VR] at hv; subst hv
    exact .inr ⟨_, _, rfl, by simpa using hc, rfl⟩
theorem bound_run {x : Value} {k : IntKind} {i : Int} {y : Nat} (code : BoundsCode) (hx : x = .int k i) (h0 : 0 ≤ i) (h1 : i.toNat ≤ y) (w : World) :
    (Instr.sliceBound x y code).run P w = .ok i.toNat w := by
  subst hx
  have : 0 ≤ i ∧ i ≤ y := ⟨h0, by omega⟩
  simp only [Instr.sliceBound, asIntOf, Sem.run_bind, Sem.run_pure, Result.andThen_ok, if_pos this]
theorem bounds_run {isSlice : Bool} {len cap l h : Nat} {lo hi : Option Value} (hlo : (lo = none ∧ l = 0) ∨ ∃ k i, lo = some (.int k i) ∧ 0 ≤ i ∧ l = i.toNat)
    (hhi : (hi = none ∧ h = len) ∨ ∃ k i, hi = some (.int k i) ∧ 0 ≤ i ∧ h = i.toNat) (hl : l ≤ h) (hh : h ≤ cap) (w : World) :
    (Instr.sliceBounds isSlice len cap lo hi none).run P w = .ok (l, h, cap) w := by
  unfold Instr.sliceBounds
  rcases hhi with ⟨rfl, rfl⟩ | ⟨k, i, rfl, g1, rfl⟩
  · rcases hlo with ⟨rfl, rfl⟩ | ⟨k', i', rfl, g1', rfl⟩
    · simp only [Sem.run_bind, Sem.run_pure, Result.andThen_ok]
    · simp only [Sem.run_bind, Sem.run_pure, Result.andThen_ok, bound_run _ rfl g1' hl w]
  · rcases hlo with ⟨rfl, rfl⟩ | ⟨k', i', rfl, g1', rfl⟩
    · simp only [Sem.run_bind, Sem.run_pure, Result.andThen_ok, bound_run _ rfl g1 hh w]
    · simp only [Sem.run_bind, Sem.run_pure, Result.andThen_ok, bound_run _ rfl g1 hh w, bound_run _ rfl g1' hl w]

theorem slice_sl {m : M} {t e : TypeId} {i : TypeInfo} {sa : Option Pl} {len cap z l hh : Nat} {c1 c2 c : Bool} {v : V}
    (h : (match z with
      | 0 => some (c1 && (c2 && (Nat.ble l hh && Nat.ble hh cap)), V.sl (sa.map fun a => ⟨a.b, bif Nat.beq l cap then a.o else a.o + l * i.size⟩) (hh - l) (cap - l) 0)
      | z + 1 => bif Nat.beq l cap && !Nat.beq l 0 then some (c1 && (c2 && (Nat.ble l hh && Nat.ble hh cap)), V.sle) else
        some (c1 && (c2 && (Nat.ble l hh && (Nat.ble hh cap && (Nat.beq l 0 || Nat.blt l cap && Nat.beq (z + 1) i.size)))), V.sl (sa.map fun a => addPl a (l * i.size)) (hh - l) (cap - l) (z + 1))) = some (c, v))
    (hc : c = true) {a : Value} (ha : VR m (.sl sa len cap z) a) (hd : P.underlying t = some (.slice e)) (hie : P.info? e = some i) {lo hi : Option Value} {w : World}
    (hrun : ∀ (pl : Option Addr) (c' : Nat), (pl.isSome → len ≤ c') → l ≤ hh → hh ≤ c' → True → c1 = true → c2 = true → (Instr.sliceAt t (.slice pl len c') lo hi none).run P w =
          .ok (.slice (if c' = l then pl else pl.map (·.add (l * i.size))) (hh - l) (c' - l)) w) :
    ∃ r, (Instr.sliceAt t a lo hi none).run P w = .ok r w ∧ VR m v r := by
  subst hc
  cases sa with
  | none =>
    obtain ⟨rfl, rfl, rfl⟩ := ha
    have key : l = 0 ∧ hh = 0 ∧ c1 = true ∧ c2 = true ∧ ∃ z', v = .sl none (hh - l) (0 - l) z' := by
      cases z with
      | zero =>
        simp only [Option.some.injEq, Prod.mk.injEq, Bool.and_eq_true, nble, decide_eq_true_eq, Option.map_none] at h
        exact ⟨by omega, by omega, h.1.1, h.1.2.1, _, h.2.symm⟩
      | succ z =>
        cases hb : (Nat.beq l 0 && !Nat.beq l 0) with
        | true => simp at hb
        | false =>
          simp only [hb, cond_false, Option.some.injEq, Prod.mk.injEq, Bool.and_eq_true, nble, decide_eq_true_eq, Option.map_none] at h
          exact ⟨by omega, by omega, h.1.1, h.1.2.1, _, h.2.symm⟩
    obtain ⟨rfl, rfl, h1, h2, z', rfl⟩ := key
    exact ⟨_, hrun none 0 (by simp) (Nat.le_refl _) (Nat.le_refl _) trivial h1 h2, rfl, rfl, rfl⟩
  | some pl =>
    obtain ⟨r, c', hr, rfl, g1, g2, g3, g4⟩ := ha
    cases z with
    | zero =>
      have hcc' := g3 rfl
      subst hcc'
      simp only [Option.some.injEq, Prod.mk.injEq, Bool.and_eq_true, nble, decide_eq_true_eq, Option.map_some] at h
      obtain ⟨⟨h1', h2', h1, h2⟩, rfl⟩ := h
      refine ⟨_, hrun _ c' (fun _ => g1) h1 h2 trivial h1' h2', r, c' - l, hr, ?_, by omega, Nat.le_refl _, fun _ => rfl, fun e => absurd rfl e⟩
      simp only [nbeq]
      by_cases hl : c' = l
      · rw [if_pos hl]; simp [hl]
      · rw [if_neg hl]; simp [Ne.symm hl, addr_add]
    | succ z =>
      have g4' := g4 (by omega)
      cases hb : (Nat.beq l cap && !Nat.beq l 0) with
      | true =>
        simp only [hb, cond_true, Option.some.injEq, Prod.mk.injEq, Bool.and_eq_true, nble, decide_eq_true_eq] at h
        obtain ⟨⟨h1', h2', h1, h2⟩, rfl⟩ := h
        simp only [Bool.and_eq_true, nbeq, decide_eq_true_eq, Bool.not_eq_true', decide_eq_false_iff_not] at hb
        refine ⟨_, hrun _ c' (fun _ => by omega) h1 (by omega) trivial h1' h2', ?_⟩
        have : hh - l = 0 := by omega
        rw [this]
        by_cases hl : c' = l
        · rw [if_pos hl]; exact ⟨_, _, rfl⟩
        · rw [if_neg hl]; exact ⟨_, _, rfl⟩
      | false =>
        simp only [hb, cond_false] at h
        simp only [Option.some.injEq, Prod.mk.injEq, Bool.and_eq_true, Bool.or_eq_true, nble, nblt, nbeq, decide_eq_true_eq, Option.map_some] at h
        obtain ⟨⟨h1', h2', h1, h2, h3⟩, rfl⟩ := h
        refine ⟨_, hrun _ c' (fun _ => by omega) h1 (by omega) trivial h1' h2', r, c' - l, hr, ?_, by omega, by omega, fun e => by omega, fun _ => ?_⟩
        · by_cases hl : c' = l
          · have hl0 : l = 0 := by omega
            subst hl0
            rw [if_pos hl]; simp [addPl]
          · rw [if_neg hl]; simp [addr_add, addPl]
        · simp only [addPl]
          rcases h3 with rfl | ⟨h3, h4⟩
          · simpa using g4'
          · rw [← h4, ← g4', Nat.add_assoc, ← Nat.add_mul]
            congr 2
            omega

theorem slice_sound {m : M} {t : TypeId} {x v : V} {lo hi : Option V} {c : Bool} (h : evSlice P t x lo hi = some (c, v)) (hc : c = true) {a : Value} {lo' hi' : Option Value}
    (ha : VR m x a) (hlo : valOpt m lo lo') (hhi : valOpt m hi hi') (w : World) : ∃ r, (Instr.sliceAt t a lo' hi' none).run P w = .ok r w ∧ VR m v r := by
  unfold evSlice at h
  split at h
  · rename_i s hd
    split at h
    · rename_i c1 l c2 hh e1 e2
      cases h
      simp only [Bool.and_eq_true, nble, decide_eq_true_eq] at hc
      obtain ⟨rfl, rfl, h1, h2⟩ := hc
      simp only [VR] at ha; subst ha
      refine ⟨_, ?_, rfl⟩
      have hb := bounds_run (P := P) (isSlice := false) (len := s.size) (cap := s.size) (bnd_sound hlo e1 rfl) (bnd_sound hhi e2 rfl) h1 h2 w
      simp only [Instr.sliceAt, Sem.run_bind, run_underlying hd, Result.andThen_ok, Instr.slice, hb, Option.isSome_none, Bool.false_eq_true, if_false, Sem.run_pure]
    · cases h
  · rename_i e sa len cap z hd
    split at h
    · rename_i c1 l c2 hh i e1 e2 hie
      exact slice_sl h hc ha hd hie (fun pl c' h0 h1 h2 h3 => by
        rintro rfl rfl
        have hb := bounds_run (P := P) (isSlice := true) (len := len) (cap := c') (bnd_sound hlo e1 rfl) (bnd_sound hhi e2 rfl) h1 h2 w
        simp only [Instr.sliceAt, Sem.run_bind, run_underlying hd, Result.andThen_ok, Instr.slice, hb, sizeOf_run hie, Sem.run_pure])
    · cases h
  · rename_i n e pl hd
    split at h
    · rename_i c1 l c2 hh i e1 e2 hi'
      cases h
      simp only [Bool.and_eq_true, Bool.or_eq_true, nble, nblt, nbeq, decide_eq_true_eq] at hc
      obtain ⟨rfl, rfl, h1, h2⟩ := hc
      obtain ⟨r, hr, rfl⟩ := ha
      have hb := bounds_run (P := P) (isSlice := false) (len := n) (cap := n) (bnd_sound hlo e1 rfl) (bnd_sound hhi e2 rfl) h1 (by omega) w
      have hne : ¬ n = l := by omega
      refine ⟨.slice (some ⟨r.1, pl.o + l * i.size, none⟩) (hh - l) (n - l), ?_, ⟨r, n - l, hr, rfl, by omega, Nat.le_refl _, fun _ => rfl, fun e => absurd rfl e⟩⟩
      simp only [Instr.sliceAt, Sem.run_bind, run_underlying hd, Result.andThen_ok, Instr.sureAddr, hb, sizeOf_run hi', Sem.run_pure, if_neg hne, addr_add]
    · cases h
  · cases h

theorem len_sound {m : M} {t : TypeId} {x v : V} (h : evLen P t x = some v) {a : Value} (ha : VR m x a) (ty : TypeId) (w : World) (ts : Array TypeId) (ht : ts[0]? = some t) :
    ∃ r, (Builtin.len_ ts ty #[a]).run P w = .ok r w ∧ VR m v r := by
  unfold evLen at h
  split at h
  · rename_i s hd
    cases h
    simp only [VR] at ha; subst ha
    exact ⟨_, by simp only [Builtin.len_, ht, List.getElem?_toArray, List.getElem?_cons_zero, Sem.run_bind, run_underlying hd, Result.andThen_ok, Sem.run_pure]; rfl, rfl⟩
  · rename_i e hd
    cases h
    obtain ⟨s, rfl, hs⟩ := ha
    exact ⟨.int .i64 s.size, by simp only [Builtin.len_, ht, List.getElem?_toArray, List.getElem?_cons_zero, Sem.run_bind, run_underlying hd, Result.andThen_ok, Sem.run_pure]; rfl, by simp only [VR]; rw [hs]⟩
  · rename_i n e hd
    cases h
    exact ⟨_, by simp only [Builtin.len_, ht, List.getElem?_toArray, List.getElem?_cons_zero, Sem.run_bind, run_underlying hd, Result.andThen_ok, Sem.run_pure]; rfl, rfl⟩
  · rename_i e sa len cap z hd
    cases h
    cases sa with
    | none =>
      obtain ⟨rfl, rfl, rfl⟩ := ha
      exact ⟨_, by simp only [Builtin.len_, ht, List.getElem?_toArray, List.getElem?_cons_zero, Sem.run_bind, run_underlying hd, Result.andThen_ok, Sem.run_pure]; rfl, rfl⟩
    | some pl =>
      obtain ⟨r, c', hr, rfl, _⟩ := ha
      exact ⟨_, by simp only [Builtin.len_, ht, List.getElem?_toArray, List.getElem?_cons_zero, Sem.run_bind, run_underlying hd, Result.andThen_ok, Sem.run_pure]; rfl, rfl⟩
  · rename_i e hd
    cases h
    obtain ⟨_, _, rfl⟩ := ha
    exact ⟨_, by simp only [Builtin.len_, ht, List.getElem?_toArray, List.getElem?_cons_zero, Sem.run_bind, run_underlying hd, Result.andThen_ok, Sem.run_pure]; rfl, rfl⟩
  · cases h

end Go.Ev
