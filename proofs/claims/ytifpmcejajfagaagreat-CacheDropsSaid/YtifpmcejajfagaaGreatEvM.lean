/- Maps; bytes as a string. -/
import Derived.Test.YtifpmcejajfagaaGreatEv7
import Derived.MapKept
import Derived.ChangeMaps4
import Derived.Laws.BytesString
set_option linter.all false
namespace Go.Ev
variable [Env]
open Go.MapKept (IsKey run_getObj_map run_setObj_map run_checkKey run_findKey run_keyThatStays)
variable {P : Program}

theorem Sim.newOne {m : M} {σ : Store} {w : World} (h : Sim m σ w) {x : One} {ob : Obj} (hx : OneR m x (some ob)) :
    Sim (m.put σ.nx (w.heap.size, 0)) (σ.newOne x) { w with heap := w.heap.push ob } ∧ Keep m σ w (m.put σ.nx (w.heap.size, 0)) (σ.newOne x) { w with heap := w.heap.push ob } := by
  have hle : M.le m (m.put σ.nx (w.heap.size, 0)) := by
    intro b r hb
    have := (h.dom b r hb).1
    unfold M.put
    rw [if_neg (by omega)]; exact hb
  have hold : ∀ x, x < w.heap.size → (w.heap.push ob)[x]? = w.heap[x]? := fun x hx => by
    rw [Array.getElem?_push, if_neg (by omega)]
  have hlt : ∀ b q, σ.has b → m b = some q ∨ True → b < σ.nx := fun b q hb _ => by
    rcases hb with ⟨k, hb⟩ | ⟨y, hb⟩
    · obtain ⟨r, hr, _⟩ := h.obj b k hb; exact (h.dom b r hr).1
    · obtain ⟨r, hr, _⟩ := h.one b y hb; exact (h.dom b r hr).1
  refine ⟨⟨?_, ?_, ?_, ?_, ?_, h.fact⟩, ?_⟩
  · intro b r hb
    unfold M.put at hb
    simp only [Store.newOne, Array.size_push]
    split at hb
    · cases hb; rename_i e; subst e; exact ⟨by omega, by simp⟩
    · obtain ⟨h1, h2⟩ := h.dom b r hb; exact ⟨by omega, by omega⟩
  · intro b k hb
    rw [blk_newOne] at hb
    split at hb
    · cases hb
    · obtain ⟨r, hr, c, fz, h1, h2, h3, h4, h5⟩ := h.obj b k hb
      exact ⟨r, hle _ _ hr, c, fz, by rw [hold _ (h.dom b r hr).2]; exact h1, h2, h3, h4.mono hle, h5⟩
  · intro b b' k k' r r' hb hro hb' hne hr hr' e
    rw [blk_newOne] at hb hb'
    unfold M.put at hr hr'
    split at hb
    · cases hb
    · split at hb'
      · cases hb'
      · rename_i e1 e2
        rw [if_neg e1] at hr
        rw [if_neg e2] at hr'
        exact h.inj b b' k k' r r' hb hro hb' hne hr hr' e
  · intro b y hb
    rw [one_newOne] at hb
    split at hb
    · rename_i e; subst e; cases hb
      exact ⟨(w.heap.size, 0), by simp [M.put], by simp only [Array.getElem?_push_size]; exact hx.mono hle⟩
    · obtain ⟨r, hr, hO⟩ := h.one b y hb
      exact ⟨r, hle _ _ hr, by rw [hold _ (h.dom b r hr).2]; exact hO.mono hle⟩
  · intro b b' y y' r r' hb hb' hne hr hr' e
    rw [one_newOne] at hb hb'
    unfold M.put at hr hr'
    by_cases e1 : b = σ.nx
    · rw [if_pos e1] at hr
      rw [if_neg (fun e2 => hne (e1.trans e2.symm))] at hr'
      cases hr
      have := (h.dom b' r' hr').2
      simp only at e; omega
    · rw [if_neg e1] at hr hb
      by_cases e2 : b' = σ.nx
      · rw [if_pos e2] at hr'
        cases hr'
        have := (h.dom b r hr).2
        simp only at e; omega
      · rw [if_neg e2] at hr' hb'
        exact h.oinj b b' y y' r r' hb hb' hne hr hr' e
  · have hback : ∀ b q, (σ.newOne x).has b → M.put m σ.nx (w.heap.size, 0) b = some q → q.1 < w.heap.size → b ≠ σ.nx ∧ m b = some q := fun b q _ hq hlt => by
      unfold M.put at hq
      split at hq
      · cases hq; simp only at hlt; omega
      · rename_i e; exact ⟨e, hq⟩
    refine ⟨hle, rfl, rfl, rfl, by simp, fun r hr _ => hold r hr, ?_, by simp [Store.newOne], fun b hb => by unfold M.put; rw [if_neg (by omega)], ?_, ?_, ?_⟩
    · rintro r hr ⟨b, q, hm, hq, e⟩
      obtain ⟨e1, e2⟩ := hback b q (hm.imp (fun ⟨k, hk, _⟩ => ⟨k, hk⟩) id) hq (by omega)
      refine ⟨b, q, ?_, e2, e⟩
      rcases hm with ⟨k, hk, hro⟩ | ⟨y, hy⟩
      · rw [blk_newOne, if_neg e1] at hk; exact .inl ⟨k, hk, hro⟩
      · rw [one_newOne, if_neg e1] at hy; exact .inr ⟨y, hy⟩
    · intro b k1 k2 hb h1 h2
      rw [blk_newOne, if_neg (by omega), h1] at h2
      cases h2
      exact ⟨rfl, [], rfl, fun _ _ _ => rfl⟩
    · intro b hb hnone
      rw [blk_newOne, if_neg (by omega)]; exact hnone
    · rintro r hr ⟨b, q, hm, hq, e⟩
      obtain ⟨e1, e2⟩ := hback b q hm hq (by omega)
      refine ⟨b, q, ?_, e2, e⟩
      rcases hm with ⟨k, hk⟩ | ⟨y, hy⟩
      · rw [blk_newOne, if_neg e1] at hk; exact .inl ⟨k, hk⟩
      · rw [one_newOne, if_neg e1] at hy; exact .inr ⟨y, hy⟩

theorem Sim.setOne {m : M} {σ : Store} {w : World} (h : Sim m σ w) {b : Nat} {y x : One} (hy : σ.one b = some y) {r : Nat × Nat} (hr : m b = some r) {ob : Obj} (hx : OneR m x (some ob)) :
    Sim m (σ.setOne b x) { w with heap := w.heap.setIfInBounds r.1 ob } ∧ Keep m σ w m (σ.setOne b x) { w with heap := w.heap.setIfInBounds r.1 ob } := by
  have hlt := (h.dom b r hr).2
  have hthere : ∀ i, i ≠ r.1 → (w.heap.setIfInBounds r.1 ob)[i]? = w.heap[i]? := fun i hi => by rw [Array.getElem?_setIfInBounds_ne (Ne.symm hi)]
  have hblk : ∀ b' k, (σ.setOne b x).blk b' = some k → σ.blk b' = some k := fun b' k hk => by
    rw [blk_setOne] at hk
    split at hk
    · cases hk
    · exact hk
  have hone : ∀ b' z, (σ.setOne b x).one b' = some z → ∃ z', σ.one b' = some z' := fun b' z hz => by
    rw [one_setOne] at hz
    split at hz
    · rename_i e; subst e; exact ⟨y, hy⟩
    · exact ⟨z, hz⟩
  refine ⟨⟨fun b' r' hb' => ⟨(h.dom b' r' hb').1, by simp only [Array.size_setIfInBounds]; exact (h.dom b' r' hb').2⟩, ?_, ?_, ?_, ?_, h.fact⟩, ?_⟩
  · intro b' k hk
    obtain ⟨r', hr', hB⟩ := h.obj b' k (hblk b' k hk)
    have := h.apart (hblk b' k hk) hy hr' hr
    exact ⟨r', hr', by rw [hthere _ (Ne.symm this)]; exact hB⟩
  · intro b1 b2 k1 k2 r1 r2 h1 hro h2 hne hr1 hr2 e
    exact h.inj b1 b2 k1 k2 r1 r2 (hblk _ _ h1) hro (hblk _ _ h2) hne hr1 hr2 e
  · intro b' z hz
    rw [one_setOne] at hz
    split at hz
    · rename_i e; subst e; cases hz
      exact ⟨r, hr, by simp only [Array.getElem?_setIfInBounds_self_of_lt hlt]; exact hx⟩
    · rename_i e
      obtain ⟨r', hr', hO⟩ := h.one b' z hz
      exact ⟨r', hr', by rw [hthere _ (h.oinj b' b z y r' r hz hy e hr' hr)]; exact hO⟩
  · intro b1 b2 z1 z2 r1 r2 h1 h2 hne hr1 hr2
    obtain ⟨y1, g1⟩ := hone _ _ h1
    obtain ⟨y2, g2⟩ := hone _ _ h2
    exact h.oinj b1 b2 y1 y2 r1 r2 g1 g2 hne hr1 hr2
  · refine ⟨M.le_refl m, rfl, rfl, rfl, by simp, fun i hi hn => hthere i fun e => hn ⟨b, r, .inr ⟨y, hy⟩, hr, e.symm⟩, ?_, Nat.le_refl _, fun _ _ => rfl, ?_, ?_, ?_⟩
    · rintro i hi ⟨b', q, hm, hq, e⟩
      refine ⟨b', q, ?_, hq, e⟩
      rcases hm with ⟨k, hk, hro⟩ | ⟨z, hz⟩
      · exact .inl ⟨k, hblk _ _ hk, hro⟩
      · exact .inr (hone _ _ hz)
    · intro b' k1 k2 _ h1 h2
      have := hblk _ _ h2
      rw [h1] at this; cases this
      exact ⟨rfl, [], rfl, fun _ _ _ => rfl⟩
    · intro b' _ hnone
      rw [blk_setOne]
      split
      · rfl
      · exact hnone
    · rintro i hi ⟨b', q, hm, hq, e⟩
      refine ⟨b', q, ?_, hq, e⟩
      rcases hm with ⟨k, hk⟩ | ⟨z, hz⟩
      · exact .inl ⟨k, hblk _ _ hk⟩
      · exact .inr (hone _ _ hz)

theorem isKey_sound {kd : TypeDesc} {k : V} (h : isKeyV kd k = true) {m : M} {k' : Value} (hk : VR m k k') : IsKey kd k' := by
  cases kd <;> cases k <;> first | (simp [isKeyV] at h; done) | skip
  all_goals simp only [VR] at hk; subst hk
  all_goals first | exact (kindEq_eq.1 h).symm | trivial

theorem keyEq_sound {kd : TypeDesc} {k e : V} {b : Bool} (hkd : isKeyV kd k = true) (h : keyEq k e = some b) {m : M} {k' e' : Value} (hk : VR m k k') (he : VR m e e') :
    Instr.sameNow kd k' e' = some b ∧ (b = true → e' = k') := by
  cases k <;> first | (cases kd <;> (simp [isKeyV] at hkd; done)) | skip
  all_goals cases e <;> first | (simp [keyEq] at h; done) | skip
  all_goals cases kd <;> first | (simp [isKeyV] at hkd; done) | skip
  all_goals simp only [VR] at hk he; subst hk; subst he; simp only [keyEq] at h
  · rename_i a a'
    cases a <;> cases a' <;> simp [Instr.sameNow] at h ⊢ <;> simp [← h]
  · rename_i j a j' a' _
    cases hj : kindEq j j' with
    | false => rw [hj] at h; cases h
    | true =>
      rw [hj] at h
      simp only [cond_true, Option.some.injEq] at h
      have := kindEq_eq.1 hj
      subst this
      subst h
      by_cases e : a = a'
      · subst e; simp [Instr.sameNow]
      · simp [Instr.sameNow, e]
  · rename_i a a'
    simp only [Option.some.injEq] at h
    subst h
    rw [strEq_eq]
    refine ⟨rfl, fun e => ?_⟩
    rw [beq_toListBytes, ByteArray.toList_eq, ByteArray.toList_eq] at e
    have e1 : a.data.toList = a'.data.toList := by simpa using e
    have e2 : a = a' := by
      cases a; cases a'
      simp only [ByteArray.mk.injEq]
      exact Array.toList_inj.1 e1
    rw [e2]
  · rename_i j a j' a' _
    cases hj : (kindEq j j' && SX.same a a') with
    | false => rw [hj] at h; cases h
    | true =>
      rw [hj] at h
      simp only [Bool.and_eq_true] at hj
      obtain rfl := kindEq_eq.1 hj.1
      obtain rfl := SX.same_eq hj.2
      simp only [cond_true, Option.some.injEq] at h
      subst h
      simp [Instr.sameNow]

theorem findV_sound {kd : TypeDesc} {k : V} (hkd : isKeyV kd k = true) {m : M} {k' : Value} (hk : VR m k k') : ∀ {es : List Ent} {es' : List MapEntry} {i : Nat} {r : Option (Nat × V)},
    findV k es i = some r → EntsR m es es' → (r = none ∧ Instr.findNow kd k' es' i = some none) ∨
      (∃ j v e', r = some (j, v) ∧ i ≤ j ∧ Instr.findNow kd k' es' i = some (some (j, e'.val)) ∧ es'[j - i]? = some e' ∧ e'.key = k' ∧ VR m v e'.val)
  | [], [], i, r, h, _ => by simp only [findV, Option.some.injEq] at h; exact .inl ⟨h.symm, rfl⟩
  | [], _ :: _, _, _, _, h => h.elim
  | _ :: _, [], _, _, _, h => h.elim
  | e :: es, x :: es', i, r, h, ⟨h1, h2, h3, h4⟩ => by
    simp only [findV] at h
    cases hb : keyEq k e.key with
    | none => simp [hb] at h
    | some b =>
      rw [hb] at h
      obtain ⟨g1, g2⟩ := keyEq_sound hkd hb hk h1
      simp only [Instr.findNow, g1]
      cases b with
      | true =>
        simp only [cond_true, Option.some.injEq] at h
        exact .inr ⟨i, e.val, x, h.symm, Nat.le_refl _, rfl, by simp, g2 rfl, h2⟩
      | false =>
        simp only [cond_false] at h
        rcases findV_sound hkd hk h h4 with ⟨f1, f2⟩ | ⟨j, v, e', f1, f2, f3, f4, f5, f6⟩
        · exact .inl ⟨f1, f2⟩
        · refine .inr ⟨j, v, e', f1, by omega, f3, ?_, f5, f6⟩
          rw [show j - i = (j - (i + 1)) + 1 by omega]; exact f4

theorem EntsR.mod {m : M} {k v : V} {k' v' : Value} (hk : VR m k k') (hv : VR m v v') : ∀ {es : List Ent} {es' : List MapEntry} {i : Nat}, EntsR m es es' →
    EntsR m (modE es i k v) (es'.modify i fun e => { e with key := k', val := v' })
  | [], [], i, _ => by cases i <;> simp [modE, List.modify, EntsR]
  | [], _ :: _, _, h => h.elim
  | _ :: _, [], _, h => h.elim
  | e :: es, x :: es', 0, ⟨h1, h2, h3, h4⟩ => by rw [List.modify_zero_cons]; exact ⟨hk, hv, h3, h4⟩
  | e :: es, x :: es', i + 1, ⟨h1, h2, h3, h4⟩ => by rw [List.modify_succ_cons]; exact ⟨h1, h2, h3, EntsR.mod hk hv h4⟩
theorem EntsR.erase {m : M} : ∀ {es : List Ent} {es' : List MapEntry} {i : Nat}, EntsR m es es' → EntsR m (eraseE es i) (es'.eraseIdx i)
  | [], [], i, _ => by simp [eraseE, EntsR]
  | [], _ :: _, _, h => h.elim
  | _ :: _, [], _, h => h.elim
  | e :: es, x :: es', 0, ⟨h1, h2, h3, h4⟩ => h4
  | e :: es, x :: es', i + 1, ⟨h1, h2, h3, h4⟩ => ⟨h1, h2, h3, EntsR.erase h4⟩
theorem EntsR.push {m : M} {e : Ent} {x : MapEntry} (h1 : VR m e.key x.key) (h2 : VR m e.val x.val) (h3 : e.born = x.born) : ∀ {es : List Ent} {es' : List MapEntry}, EntsR m es es' → EntsR m (es ++ [e]) (es' ++ [x])
  | [], [], _ => ⟨h1, h2, h3, trivial⟩
  | [], _ :: _, h => h.elim
  | _ :: _, [], h => h.elim
  | _ :: _, _ :: _, ⟨g1, g2, g3, g4⟩ => ⟨g1, g2, g3, EntsR.push h1 h2 h3 g4⟩

theorem mapKd_sound {t : TypeId} {key : TypeId} {kd : TypeDesc} {elem : TypeId} (h : mapKd P t = some (key, kd, elem)) : P.underlying t = some (.map key elem) ∧ P.underlying key = some kd := by
  unfold mapKd at h
  split at h
  · rename_i key' el hu
    cases hk : P.underlying key' with
    | none => rw [hk] at h; cases h
    | some d =>
      rw [hk] at h
      simp only [Option.map_some, Option.some.injEq, Prod.mk.injEq] at h
      obtain ⟨rfl, rfl, rfl⟩ := h
      exact ⟨hu, hk⟩
  · cases h

theorem forIn_ok {α : Type} {w : World} {body : α → PUnit → Sem (ForInStep PUnit)} : ∀ {l : List α}, (∀ f ∈ l, (body f ⟨⟩).run P w = .ok (.yield ⟨⟩) w) → (forIn l PUnit.unit body).run P w = .ok ⟨⟩ w
  | [], _ => by simp [Sem.run_pure]
  | f :: l, h => by
    simp only [List.forIn_cons, Sem.run_bind, h f (by simp), Result.andThen_ok]
    exact forIn_ok fun g hg => h g (by simp [hg])
theorem checkKey_simple {w : World} {t : TypeId} {d : TypeDesc} (hd : P.underlying t = some d) (hs : simpleKd d = true) (v : Value) (e : Bool) (n : Nat) : (Instr.checkKey e (n + 1) t v).run P w = .ok () w := by
  unfold Instr.checkKey
  simp only [Sem.run_bind, run_underlying hd, Result.andThen_ok]
  cases d <;> first | (simp [simpleKd] at hs; done) | rfl
theorem scal_eq {m : M} {a b : V} {x y : Value} (h : keyEq a b = some true) (ha : VR m a x) (hb : VR m b y) : y = x ∧ ∀ n, Instr.sameBits n x x = true := by
  cases a <;> cases b <;> simp only [keyEq] at h <;> first | (simp at h; done) | skip
  · simp only [VR] at ha hb; subst ha; subst hb
    rename_i p q
    cases p <;> cases q <;> simp at h <;> exact ⟨rfl, fun n => by simp [Instr.sameBits]⟩
  · rename_i j p j' q
    simp only [VR] at ha hb; subst ha; subst hb
    cases hj : kindEq j j' with
    | false => rw [hj] at h; cases h
    | true =>
      rw [hj] at h
      simp only [cond_true, Option.some.injEq, decide_eq_true_eq] at h
      have := kindEq_eq.1 hj
      subst this; subst h
      exact ⟨rfl, fun n => by simp [Instr.sameBits]⟩
  · rename_i p q
    simp only [VR] at ha hb; subst ha; subst hb
    simp only [Option.some.injEq] at h
    rw [strEq_eq, beq_toListBytes, ByteArray.toList_eq, ByteArray.toList_eq] at h
    have e1 : p.data.toList = q.data.toList := by simpa using h
    have e2 : p = q := by
      cases p; cases q
      simp only [ByteArray.mk.injEq]
      exact Array.toList_inj.1 e1
    subst e2
    exact ⟨rfl, fun n => Go.MapKept.sameBits_self (d := .string) (k := .string p) trivial n⟩
  · rename_i j p j' q
    simp only [VR] at ha hb; subst ha; subst hb
    cases hj : (kindEq j j' && SX.same p q) with
    | false => rw [hj] at h; cases h
    | true =>
      simp only [Bool.and_eq_true] at hj
      obtain rfl := kindEq_eq.1 hj.1
      obtain rfl := SX.same_eq hj.2
      exact ⟨rfl, fun n => by simp [Instr.sameBits]⟩
theorem sameCells_spec {f g : Nat → V} : ∀ {n i : Nat}, sameCells f g n i = true → ∀ j, i ≤ j → j < i + n → keyEq (f j) (g j) = some true
  | 0, i, _, j, h1, h2 => by omega
  | n + 1, i, h, j, h1, h2 => by
    simp only [sameCells, Bool.and_eq_true] at h
    obtain ⟨g1, g2⟩ := h
    by_cases e : j = i
    · subst e
      cases hk : keyEq (f j) (g j) with
      | none => rw [hk] at g1; cases g1
      | some b => rw [hk] at g1; simp only at g1; rw [g1]
    · exact sameCells_spec g2 j (by omega) (by omega)

theorem findA_sound {key : TypeId} {fs : Array Field} {i0 : TypeInfo} (hk : P.underlying key = some (.struct fs)) (hi : P.info? key = some i0) {n : Nat} {f : Nat → V} (hn : n = i0.size) {m : M} {cs : Array Value} (hv : VR m (.agg n f) (.agg cs)) (w : World) :
    ∀ {es : List Ent} {es' : List MapEntry} {i : Nat} {r : Option (Nat × V)}, findA P key n f es i = some r → EntsR m es es' →
      (r = none ∧ (Instr.findAsking key (.agg cs) es' i).run P w = .ok none w) ∨
      (∃ j v e', r = some (j, v) ∧ i ≤ j ∧ (Instr.findAsking key (.agg cs) es' i).run P w = .ok (some (j, e'.val)) w ∧ es'[j - i]? = some e' ∧ e'.key = .agg cs ∧ VR m v e'.val ∧ (Instr.keyThatStays (.agg cs) (.agg cs)).run P w = .ok (.agg cs) w)
  | [], [], i, r, h, _ => by simp only [findA, Option.some.injEq] at h; exact .inl ⟨h.symm, rfl⟩
  | [], _ :: _, _, _, _, h => h.elim
  | _ :: _, [], _, _, _, h => h.elim
  | e :: es, x :: es', i, r, h, ⟨h1, h2, h3, h4⟩ => by
    simp only [findA] at h
    split at h
    · rename_i n' g hek
      rw [hek] at h1
      obtain ⟨ds, hx, s2, r2⟩ := h1
      obtain ⟨cs', hcs, s1, r1⟩ := hv
      simp only [Value.agg.injEq] at hcs
      subst hcs
      cases hc : (Nat.beq n n' && (eqT P 10000 key n f g).1) with
      | false => rw [hc] at h; cases h
      | true =>
        rw [hc] at h
        simp only [cond_true] at h
        simp only [Bool.and_eq_true, nbeq, decide_eq_true_eq] at hc
        obtain ⟨rfl, hc⟩ := hc
        have heq : (Op.equal key (.agg cs) x.key).run P w = .ok (eqT P 10000 key n f g).2 w := by
          rw [hx]; exact eqT_top key hc hi hn hk rfl s1 s2 r1 r2 w
        cases hb : (eqT P 10000 key n f g).2 with
        | true =>
          rw [hb] at h heq
          simp only [cond_true] at h
          cases hsc : sameCells f g n 0 with
          | false => rw [hsc] at h; cases h
          | true =>
            rw [hsc] at h
            simp only [cond_true, Option.some.injEq] at h
            have hcell : ∀ j (hj : j < cs.size) (hj' : j < ds.size), ds[j] = cs[j] ∧ ∀ k, Instr.sameBits k cs[j] cs[j] = true := fun j hj hj' =>
              scal_eq (sameCells_spec hsc j (by omega) (by omega)) (r1 j hj).1 (r2 j hj').1
            have hds : ds = cs := Array.ext (by omega) fun j h1 h2 => (hcell j h2 h1).1
            subst hds
            refine .inr ⟨i, e.val, x, h.symm, Nat.le_refl _, ?_, by simp, hx, h2, ?_⟩
            · simp only [Instr.findAsking, Sem.run_bind, heq, Result.andThen_ok, if_true, Sem.run_pure]
            · have hsb : Instr.sameBits 10000 (.agg ds) (.agg ds) = true := by
                simp only [Instr.sameBits, beq_self_eq_true, Bool.true_and, List.all_eq_true]
                rintro ⟨p, q⟩ hpq
                obtain ⟨j, hj1, hj2⟩ := List.mem_iff_getElem.1 hpq
                simp only [List.getElem_zip, Array.getElem_toList, Prod.mk.injEq] at hj2
                obtain ⟨rfl, rfl⟩ := hj2
                have hlt : j < ds.size := by simpa using hj1
                exact (hcell j hlt hlt).2 _
              simp only [Instr.keyThatStays, hsb, if_true, Sem.run_pure]
        | false =>
          rw [hb] at h heq
          simp only [cond_false] at h
          have hrun : (Instr.findAsking key (.agg cs) (x :: es') i).run P w = (Instr.findAsking key (.agg cs) es' (i + 1)).run P w := by
            simp only [Instr.findAsking, Sem.run_bind, heq, Result.andThen_ok, Bool.false_eq_true, if_false]
          rw [hrun]
          rcases findA_sound hk hi hn ⟨cs, rfl, s1, r1⟩ w h h4 with ⟨f1, f2⟩ | ⟨j, v, e', f1, f2, f3, f4, f5, f6, f7⟩
          · exact .inl ⟨f1, f2⟩
          · refine .inr ⟨j, v, e', f1, by omega, f3, ?_, f5, f6, f7⟩
            rw [show j - i = (j - (i + 1)) + 1 by omega]; exact f4
    · cases h

theorem findK_sound {key : TypeId} {kd : TypeDesc} (hk : P.underlying key = some kd) {k : V} {es : List Ent} {r : Option (Nat × V)} (h : findK P key kd k es = some r) {m : M} {k' : Value} (hv : VR m k k') {es' : List MapEntry} (hes : EntsR m es es') (w : World) :
    (∀ e, (Instr.checkKey e 10000 key k').run P w = .ok () w) ∧
    ((r = none ∧ (Instr.findKey key k' es').run P w = .ok none w) ∨ ∃ j v e', r = some (j, v) ∧ (Instr.findKey key k' es').run P w = .ok (some (j, e'.val)) w ∧ es'[j]? = some e' ∧ e'.key = k' ∧ VR m v e'.val ∧ (Instr.keyThatStays k' k').run P w = .ok k' w) := by
  unfold findK at h
  cases hik : isKeyV kd k with
  | true =>
    rw [hik] at h
    simp only [cond_true] at h
    have hkey := isKey_sound hik hv
    refine ⟨fun e => run_checkKey hk hkey e 9999, ?_⟩
    rcases findV_sound hik hv h hes with ⟨f1, f2⟩ | ⟨j, v, e', f1, f2, f3, f4, f5, f6⟩
    · exact .inl ⟨f1, run_findKey hk f2⟩
    · exact .inr ⟨j, v, e', f1, run_findKey hk f3, by simpa using f4, f5, f6, run_keyThatStays hkey⟩
  | false =>
    rw [hik] at h
    simp only [cond_false] at h
    cases hag : aggKey P key kd k with
    | false => rw [hag] at h; cases h
    | true =>
      rw [hag] at h
      simp only [cond_true] at h
      split at h
      · rename_i n f
        unfold aggKey at hag
        simp only at hag
        split at hag
        · rename_i fs i0 hi
          simp only [Bool.and_eq_true, nbeq, decide_eq_true_eq, List.all_eq_true, nblt] at hag
          obtain ⟨hn, hfs⟩ := hag
          obtain ⟨cs, rfl, s1, r1⟩ := hv
          constructor
          · intro e
            show (Instr.checkKey e (9999 + 1) key (.agg cs)).run P w = _
            unfold Instr.checkKey
            simp only [Sem.run_bind, run_underlying hk, Result.andThen_ok]
            rw [← Array.forIn_toList]
            rw [forIn_ok]
            · rfl
            intro f hf
            obtain ⟨g1, g2⟩ := hfs f hf
            cases hu : P.underlying f.type with
            | none => rw [hu] at g2; cases g2
            | some d =>
              rw [hu] at g2
              simp only at g2
              by_cases hname : f.name = "_"
              · simp [hname, Sem.run_pure]
              · have hpart : ∃ v, (part f.type cs f.offset).run P w = .ok v w := by
                  unfold part
                  simp only [Sem.run_bind, isAgg_run hu, Result.andThen_ok]
                  have : aggD d = false := by cases d <;> first | (simp [simpleKd] at g2; done) | rfl
                  rw [this]
                  simp only [Bool.false_eq_true, if_false]
                  rw [Array.getElem?_eq_getElem (by omega)]
                  exact ⟨_, rfl⟩
                obtain ⟨v, hpv⟩ := hpart
                simp only [ne_eq, hname, not_false_eq_true, if_true, Sem.run_bind, hpv, Result.andThen_ok, checkKey_simple hu g2 v e 9998, Sem.run_pure]
          · have hfk : (Instr.findKey key (.agg cs) es').run P w = (Instr.findAsking key (.agg cs) es' 0).run P w := by
              unfold Instr.findKey
              simp only [Sem.run_bind, run_underlying hk, Result.andThen_ok]
              cases es' with
              | nil => rfl
              | cons x l => rfl
            rw [hfk]
            rcases findA_sound hk hi hn ⟨cs, rfl, s1, r1⟩ w h hes with ⟨f1, f2⟩ | ⟨j, v, e', f1, f2, f3, f4, f5, f6, f7⟩
            · exact .inl ⟨f1, f2⟩
            · exact .inr ⟨j, v, e', f1, f3, by simpa using f4, f5, f6, f7⟩
        · cases hag
      · cases h

theorem mapOf_sound {m : M} {σ : Store} {w : World} (hS : Sim m σ w) {x : V} {mo : Option (Nat × List Ent × Nat)} (h : mapOf σ x = some mo) {y : Value} (hy : VR m x y) :
    (mo = none ∧ y = .map none) ∨ (∃ b es cl r es', mo = some (b, es, cl) ∧ σ.one b = some (.mp es cl) ∧ m b = some r ∧ y = .map (some r.1) ∧ w.heap[r.1]? = some (.map es' cl) ∧ EntsR m es es'.toList) := by
  unfold mapOf at h
  split at h
  · cases h; exact .inl ⟨rfl, hy⟩
  · rename_i b
    split at h
    · rename_i es cl hb
      cases h
      obtain ⟨r, hr, es', h1, h2⟩ := hS.one b _ hb
      obtain ⟨r', hr', rfl⟩ := hy
      rw [hr] at hr'; cases hr'
      exact .inr ⟨b, es, cl, r, es', rfl, hb, hr, rfl, h1, h2⟩
    · cases h
  · cases h

theorem zeroVal_sound {t : TypeId} {v : V} (h : zeroVal P t = some v) (w : World) : ∃ z, (zeroValue t).run P w = .ok z w ∧ ∀ m, VR m v z := by
  unfold zeroVal at h
  split at h
  · rename_i i hi
    split at h
    · rename_i cs hz
      cases hzv : zeroV P t with
      | none => rw [hzv] at h; cases h
      | some nz =>
        obtain ⟨n, z⟩ := nz
        rw [hzv] at h
        simp only [Option.map_some, Option.some.injEq] at h
        subst h
        obtain ⟨i', v', hi', hv', hs, hc⟩ := zeroV_sound hzv
        rw [hi] at hi'; cases hi'
        rw [hz] at hv'; cases hv'
        exact ⟨_, zeroValue_run hi hz w, fun m => VR.agg_of hs ((hc m).congr fun j hj => canon_eq _ _ _ hj)⟩
    · rename_i v' hne hz
      exact ⟨_, zeroValue_run hi hz w, fun m => (VR.ofConst h).1⟩
    · cases h
  · cases h

theorem okV_sound {m : M} {v : V} {r : Value} (hv : VR m v r) (ok b : Bool) : VR m (okV ok v b) (if ok then .tuple #[r, .bool b] else r) := by
  cases ok with
  | false => exact hv
  | true =>
    refine ⟨#[r, .bool b], rfl, rfl, fun j hj => ?_⟩
    match j, hj with
    | 0, _ => exact hv
    | 1, _ => rfl

theorem lookup_sound {m : M} {σ : Store} {w : World} (hS : Sim m σ w) {t : TypeId} {x ix : V} {ok : Bool} {rs : Rs} (he : evLookup P t x ix ok σ = some rs) {x' ix' : Value} (hx : VR m x x') (hix : VR m ix ix') :
    ∃ v r, rs = ⟨true, some v, σ⟩ ∧ (Instr.lookup t x' ix' ok).run P w = .ok r w ∧ VR m v r := by
  unfold evLookup at he
  split at he
  · rename_i key kd elem mo hkd hmo
    obtain ⟨hu, hk⟩ := mapKd_sound hkd
    cases hf : findK P key kd ix (entsOf mo) with
    | none => simp [hf] at he
    | some q =>
      rw [hf] at he
      have hmiss : ∀ {rs : Rs}, ((zeroVal P elem).map fun v => (⟨true, some (okV ok v false), σ⟩ : Rs)) = some rs → (∀ z, (zeroValue elem).run P w = .ok z w → (Instr.lookup t x' ix' ok).run P w = .ok (if ok then .tuple #[z, .bool false] else z) w) →
          ∃ v r, rs = ⟨true, some v, σ⟩ ∧ (Instr.lookup t x' ix' ok).run P w = .ok r w ∧ VR m v r := by
        intro rs he hr
        cases hz : zeroVal P elem with
        | none => rw [hz] at he; cases he
        | some zv =>
          rw [hz] at he
          cases he
          obtain ⟨z, z1, z2⟩ := zeroVal_sound hz w
          exact ⟨_, _, rfl, hr z z1, okV_sound (z2 m) ok false⟩
      rcases mapOf_sound hS hmo hx with ⟨rfl, rfl⟩ | ⟨b, es, cl, r, es', rfl, _, _, rfl, g3, g4⟩
      · obtain ⟨hck, hh⟩ := findK_sound hk hf hix (es' := []) trivial w
        rcases hh with ⟨rfl, f2⟩ | ⟨j, v, e', rfl, f3, f4, f5, f6, f7⟩
        · refine hmiss he fun z z1 => ?_
          simp only [Instr.lookup, Sem.run_bind, run_underlying hu, Result.andThen_ok, Sem.run_pure, hck, f2, z1]
        · simp at f4
      · obtain ⟨hck, hh⟩ := findK_sound hk hf hix g4 w
        rcases hh with ⟨rfl, f2⟩ | ⟨j, v, e', rfl, f3, f4, f5, f6, f7⟩
        · refine hmiss he fun z z1 => ?_
          simp only [Instr.lookup, Sem.run_bind, run_underlying hu, Result.andThen_ok, Sem.run_pure, Go.MapKept.run_getObj_map g3, hck, f2, z1]
        · cases he
          refine ⟨_, _, rfl, ?_, okV_sound f6 ok true⟩
          simp only [Instr.lookup, Sem.run_bind, run_underlying hu, Result.andThen_ok, Sem.run_pure, Go.MapKept.run_getObj_map g3, hck, f3]
  · cases he

theorem mapUpdate_sound {m : M} {σ : Store} {w : World} (hS : Sim m σ w) {t : TypeId} {x k v : V} {rs : Rs} (he : evMapUpdate P t x k v σ = some rs) {x' k' v' : Value} (hx : VR m x x') (hk : VR m k k') (hv : VR m v v') :
    ∃ w', rs.v = none ∧ rs.c = true ∧ (Instr.mapUpdate t x' k' v').run P w = .ok () w' ∧ Sim m rs.σ w' ∧ Keep m σ w m rs.σ w' := by
  unfold evMapUpdate at he
  split at he
  · rename_i key kd el b es cl hkd hmo
    obtain ⟨hu, hkk⟩ := mapKd_sound hkd
    rcases mapOf_sound hS hmo hx with ⟨h0, _⟩ | ⟨b', es1, cl1, r, es', h0, h1, h2, rfl, g3, g4⟩
    · cases h0
    · cases h0
      cases hf : findK P key kd k es with
      | none => simp [hf] at he
      | some q =>
        rw [hf] at he
        obtain ⟨hck, hh⟩ := findK_sound hkk hf hk g4 w
        rcases hh with ⟨rfl, f2⟩ | ⟨j, u, e', rfl, f3, f4, f5, f6, f7⟩
        · cases he
          obtain ⟨s1, s2⟩ := hS.setOne h1 h2 (x := .mp (es ++ [⟨k, v, cl⟩]) (cl + 1)) (ob := .map (es'.push ⟨k', v', cl⟩) (cl + 1)) ⟨_, rfl, by rw [Array.toList_push]; exact EntsR.push hk hv rfl g4⟩
          refine ⟨_, rfl, rfl, ?_, s1, s2⟩
          simp only [Instr.mapUpdate, Sem.run_bind, run_underlying hu, Result.andThen_ok, Go.MapKept.run_getObj_map g3, hck, f2, Go.MapKept.run_setObj_map _ g3]
        · cases he
          have hj : es'[j]? = some e' := by simpa using f4
          obtain ⟨s1, s2⟩ := hS.setOne h1 h2 (x := .mp (modE es j k v) cl) (ob := .map (es'.modify j fun e => { e with key := k', val := v' }) cl) ⟨_, rfl, by rw [Array.toList_modify]; exact EntsR.mod hk hv g4⟩
          refine ⟨_, rfl, rfl, ?_, s1, s2⟩
          simp only [Instr.mapUpdate, Sem.run_bind, run_underlying hu, Result.andThen_ok, Go.MapKept.run_getObj_map g3, hck, f3, hj, Option.map_some, Option.getD_some, f5, f7, Go.MapKept.run_setObj_map _ g3]
  · cases he

def OptR (m : M) : Option V → Option Value → Prop
  | none, none => True
  | some v, some v' => VR m v v'
  | _, _ => False
theorem makeMap_sound {m : M} {σ : Store} {w : World} (hS : Sim m σ w) {t : TypeId} {r : Option V} {rs : Rs} (he : evMakeMap P t r σ = some rs) {r' : Option Value}
    (hr : OptR m r r') :
    ∃ v u m' w', rs.v = some v ∧ rs.c = true ∧ (Instr.makeMap t r').run P w = .ok u w' ∧ VR m' v u ∧ Sim m' rs.σ w' ∧ Keep m σ w m' rs.σ w' := by
  have key : ∀ {rs : Rs}, some (Rs.mk true (some (.mp (some σ.nx))) (σ.newOne (.mp [] 0))) = some rs → (Instr.makeMap t r').run P w = .ok (.map (some w.heap.size)) { w with heap := w.heap.push (.map #[] 0) } →
      ∃ v u m' w', rs.v = some v ∧ rs.c = true ∧ (Instr.makeMap t r').run P w = .ok u w' ∧ VR m' v u ∧ Sim m' rs.σ w' ∧ Keep m σ w m' rs.σ w' := by
    intro rs he hrun
    cases he
    obtain ⟨s1, s2⟩ := hS.newOne (x := .mp [] 0) (ob := .map #[] 0) ⟨#[], rfl, trivial⟩
    exact ⟨_, _, _, _, rfl, rfl, hrun, ⟨(w.heap.size, 0), by simp [M.put], rfl⟩, s1, s2⟩
  unfold evMakeMap at he
  cases hkd : mapKd P t with
  | none => rw [hkd] at he; cases r <;> simp at he
  | some kde =>
    obtain ⟨key', kd, el⟩ := kde
    obtain ⟨hu, _⟩ := mapKd_sound hkd
    rw [hkd] at he
    cases r with
    | none =>
      cases r' with
      | none => exact key he rfl
      | some _ => exact hr.elim
    | some rv =>
      cases rv <;> first | (simp at he; done) | skip
      cases r' with
      | none => exact hr.elim
      | some v' =>
        simp only [OptR, VR] at hr
        subst hr
        refine key he ?_
        simp only [Instr.makeMap, Sem.run_bind, run_underlying hu, Result.andThen_ok, asInt, asIntOf, Sem.run_pure]
        rfl

theorem range_sound {m : M} {σ : Store} {w : World} (hS : Sim m σ w) {t : TypeId} {x : V} {rs : Rs} (he : evRange P t x σ = some rs) {x' : Value} (hx : VR m x x') :
    ∃ v u m' w', rs.v = some v ∧ rs.c = true ∧ (Instr.range t x').run P w = .ok u w' ∧ VR m' v u ∧ Sim m' rs.σ w' ∧ Keep m σ w m' rs.σ w' := by
  unfold evRange at he
  split at he
  · rename_i kde hkd hmo
    obtain ⟨key', kd, el⟩ := kde
    obtain ⟨hu, _⟩ := mapKd_sound hkd
    cases he
    rcases mapOf_sound hS hmo hx with ⟨_, rfl⟩ | ⟨b', es1, cl1, r, es', h0, _⟩
    · obtain ⟨s1, s2⟩ := hS.newOne (x := .it none 0 [] 0) (ob := .mapIter none 0 #[] 0) rfl
      refine ⟨_, _, _, _, rfl, rfl, ?_, ⟨(w.heap.size, 0), by simp [M.put], rfl⟩, s1, s2⟩
      simp only [Instr.range, Sem.run_bind, run_underlying hu, Result.andThen_ok, Sem.run_pure]
      rfl
    · cases h0
  · rename_i kde b es cl hkd hmo
    obtain ⟨key', kd, el⟩ := kde
    obtain ⟨hu, _⟩ := mapKd_sound hkd
    cases he
    rcases mapOf_sound hS hmo hx with ⟨h0, _⟩ | ⟨b', es1, cl1, r, es', h0, h1, h2, rfl, g3, g4⟩
    · cases h0
    · cases h0
      have hle : (m.put σ.nx (w.heap.size, 0)) b = some r := by
        have := (hS.dom b r h2).1
        unfold M.put
        rw [if_neg (by omega)]; exact h2
      have hS' : ∀ {x : One} {ob : Obj}, OneR (m.put σ.nx (w.heap.size, 0)) x (some ob) → OneR m x (some ob) → Sim (m.put σ.nx (w.heap.size, 0)) (σ.newOne x) { w with heap := w.heap.push ob } ∧ Keep m σ w (m.put σ.nx (w.heap.size, 0)) (σ.newOne x) { w with heap := w.heap.push ob } := fun _ h => hS.newOne h
      obtain ⟨s1, s2⟩ := hS.newOne (x := .it (some b) cl [] cl) (ob := .mapIter (some r.1) cl #[] cl) ⟨r, h2, rfl⟩
      refine ⟨_, _, _, _, rfl, rfl, ?_, ⟨(w.heap.size, 0), by simp [M.put], rfl⟩, s1, s2⟩
      simp only [Instr.range, Sem.run_bind, run_underlying hu, Result.andThen_ok, Sem.run_pure, Go.MapKept.run_getObj_map g3]
      rfl
  · cases he

theorem lastN_sound : ∀ (l : List Nat), lastN l = l.getLast?
  | [] => rfl
  | [a] => rfl
  | a :: b :: l => by
    simp only [lastN]
    rw [lastN_sound (b :: l), List.getLast?_cons_cons]
theorem findBorn_sound {m : M} {n : Nat} : ∀ {es : List Ent} {es' : List MapEntry} {e : Ent}, findBorn n es = some e → EntsR m es es' → ∃ x, es'.find? (fun x => x.born == n) = some x ∧ VR m e.key x.key ∧ VR m e.val x.val
  | [], _, _, h, _ => by cases h
  | _ :: _, [], _, _, h => h.elim
  | e :: es, x :: es', e0, h, ⟨h1, h2, h3, h4⟩ => by
    simp only [findBorn, nbeq, Bool.cond_decide] at h
    by_cases hb : e.born = n
    · rw [if_pos hb] at h; cases h
      exact ⟨x, by rw [List.find?_cons_of_pos]; simp [← h3, hb], h1, h2⟩
    · rw [if_neg hb] at h
      obtain ⟨y, g1, g2⟩ := findBorn_sound h h4
      exact ⟨y, by rw [List.find?_cons_of_neg]; exact g1; simp [← h3, hb], g2⟩

theorem iter_sound {m : M} {σ : Store} {w : World} (hS : Sim m σ w) {a : Pl} {mb since st : Nat} {seen : List Nat} (h : σ.one a.b = some (.it (some mb) since seen st)) {es : List Ent} {cl : Nat} (h2 : σ.one mb = some (.mp es cl)) {y : Value} (hy : VR m (.p (some a)) y) :
    ∃ r q es', m a.b = some r ∧ m mb = some q ∧ y = .pointer (some ⟨r.1, a.o, none⟩) ∧ w.heap[r.1]? = some (.mapIter (some q.1) since seen.toArray st) ∧ w.heap[q.1]? = some (.map es' cl) ∧ EntsR m es es'.toList := by
  obtain ⟨r, hr, q, hq, g1⟩ := hS.one _ _ h
  obtain ⟨q', hq', es', g2, g3⟩ := hS.one _ _ h2
  rw [hq] at hq'; cases hq'
  obtain ⟨r', hr', rfl⟩ := hy
  rw [hr] at hr'; cases hr'
  exact ⟨r, q, es', hr, hq, rfl, g1, g2, g3⟩

theorem getObj_iter {w : World} {r : Nat} {mo : Option Nat} {s : Nat} {se : Array Nat} {st : Nat} (h : w.heap[r]? = some (.mapIter mo s se st)) : (getObj r).run P w = .ok (.mapIter mo s se st) w := by
  simp [getObj, Sem.run, h]
theorem setObj_iter {w : World} {r : Nat} {mo : Option Nat} {s : Nat} {se : Array Nat} {st : Nat} (o : Obj) (h : w.heap[r]? = some (.mapIter mo s se st)) : (setObj r o).run P w = .ok () { w with heap := w.heap.setIfInBounds r o } := by
  simp [setObj, Sem.run, h]

theorem entry_sound {m : M} {σ : Store} {w : World} (hS : Sim m σ w) {x : V} {rs : Rs} (he : evEntry x σ = some rs) {x' : Value} (hx : VR m x x') :
    ∃ v r, rs = ⟨true, some v, σ⟩ ∧ (Instr.entry x').run P w = .ok r w ∧ VR m v r := by
  unfold evEntry at he
  split at he
  · rename_i a
    simp only [nbeq, Bool.cond_decide] at he
    split at he
    · rename_i ho
      split at he
      · rename_i mb since seen st hit
        split at he
        · rename_i es cl stamp hmb hlast
          split at he
          · rename_i e hf
            split at he
            · rename_i hcl
              cases he
              obtain ⟨r, q, es', g1, g2, rfl, g4, g5, g6⟩ := iter_sound hS hit hmb hx
              obtain ⟨y, f1, f2, f3⟩ := findBorn_sound hf g6
              have hback : seen.toArray.back? = some stamp := by rw [List.back?_toArray, ← lastN_sound]; exact hlast
              have hfind : es'.find? (fun x => x.born == stamp) = some y := by rw [← Array.find?_toList]; exact f1
              refine ⟨_, .tuple #[y.key, y.val], rfl, ?_, ⟨#[y.key, y.val], rfl, rfl, fun j hj => ?_⟩⟩
              · rw [ho]
                simp only [Instr.entry, Sem.run_bind, getObj_iter g4, Result.andThen_ok, hback, Go.MapKept.run_getObj_map g5, hcl, bne_self_eq_false, Bool.false_eq_true, if_false, hfind, Sem.run_pure]
              · match j, hj with
                | 0, _ => exact f2
                | 1, _ => exact f3
            · cases he
          · cases he
        · cases he
      · cases he
    · cases he
  · cases he

theorem delete_sound {m : M} {σ : Store} {w : World} (hS : Sim m σ w) {t : TypeId} {x k : V} {rs : Rs} (he : evDelete P t x k σ = some rs) {x' k' : Value} (hx : VR m x x') (hk : VR m k k')
    {ts : Array TypeId} (h0 : ts[0]? = some t) (ty : TypeId) :
    ∃ v r m' w', rs.v = some v ∧ (Builtin.delete_ ts ty #[x', k']).run P w = .ok r w' ∧ VR m' v r ∧ Sim m' rs.σ w' ∧ Keep m σ w m' rs.σ w' := by
  have h2 : (#[x', k'] : Array Value)[0]? = some x' := rfl
  have h3 : (#[x', k'] : Array Value)[1]? = some k' := rfl
  have hnil : ∀ m', VR m' (.tup 0 (ofL [])) (.tuple #[]) := fun m' => ⟨#[], rfl, rfl, fun j hj => by simp at hj⟩
  unfold evDelete at he
  split at he
  · rename_i key kd el mo hkd hmo
    obtain ⟨hu, hkk⟩ := mapKd_sound hkd
    cases hf : findK P key kd k (entsOf mo) with
    | none => simp [hf] at he
    | some q =>
      rw [hf] at he
      rcases mapOf_sound hS hmo hx with ⟨rfl, rfl⟩ | ⟨b, es, cl, r, es', rfl, g1, g2, rfl, g3, g4⟩
      · obtain ⟨hck, _⟩ := findK_sound hkk hf hk (es' := []) trivial w
        cases he
        refine ⟨_, _, m, w, rfl, ?_, hnil m, hS, Keep.refl ..⟩
        simp only [Builtin.delete_, h0, h2, h3, Sem.run_bind, run_underlying hu, Result.andThen_ok, hck, Sem.run_pure]
      · obtain ⟨hck, hh⟩ := findK_sound hkk hf hk g4 w
        rcases hh with ⟨rfl, f2⟩ | ⟨j, u, e', rfl, f3, f4, f5, f6, f7⟩
        · cases he
          obtain ⟨s1, s2⟩ := hS.setOne g1 g2 (x := .mp es cl) (ob := .map es' cl) ⟨_, rfl, g4⟩
          refine ⟨_, _, m, _, rfl, ?_, hnil m, s1, s2⟩
          simp only [Builtin.delete_, h0, h2, h3, Sem.run_bind, run_underlying hu, Result.andThen_ok, Go.MapKept.run_getObj_map g3, hck, f2, Go.MapKept.run_setObj_map _ g3, Sem.run_pure]
        · cases he
          obtain ⟨s1, s2⟩ := hS.setOne g1 g2 (x := .mp (eraseE es j) cl) (ob := .map (es'.eraseIdxIfInBounds j) cl) ⟨_, rfl, by rw [Array.toList_eraseIdxIfInBounds]; exact EntsR.erase g4⟩
          refine ⟨_, _, m, _, rfl, ?_, hnil m, s1, s2⟩
          simp only [Builtin.delete_, h0, h2, h3, Sem.run_bind, run_underlying hu, Result.andThen_ok, Go.MapKept.run_getObj_map g3, hck, f3, Go.MapKept.run_setObj_map _ g3, Sem.run_pure]
  · cases he

theorem clear_sound {m : M} {σ : Store} {w : World} (hS : Sim m σ w) {t : TypeId} {x : V} {rs : Rs} (he : evClear P t x σ = some rs) {x' : Value} (hx : VR m x x')
    {ts : Array TypeId} (h0 : ts[0]? = some t) (ty : TypeId) :
    ∃ v r m' w', rs.v = some v ∧ (Builtin.clear_ ts ty #[x']).run P w = .ok r w' ∧ VR m' v r ∧ Sim m' rs.σ w' ∧ Keep m σ w m' rs.σ w' := by
  have h2 : (#[x'] : Array Value)[0]? = some x' := rfl
  have hnil : ∀ m', VR m' (.tup 0 (ofL [])) (.tuple #[]) := fun m' => ⟨#[], rfl, rfl, fun j hj => by simp at hj⟩
  unfold evClear at he
  split at he
  · rename_i k e hu
    cases he
    simp only [VR] at hx
    subst hx
    refine ⟨_, _, m, w, rfl, ?_, hnil m, hS, Keep.refl ..⟩
    simp only [Builtin.clear_, h0, h2, Sem.run_bind, run_underlying hu, Result.andThen_ok, Sem.run_pure]
  · rename_i k e b hu
    split at he
    · rename_i es cl hb
      cases he
      obtain ⟨r, hr, es', g1, g2⟩ := hS.one _ _ hb
      obtain ⟨r', hr', rfl⟩ := hx
      rw [hr] at hr'; cases hr'
      obtain ⟨s1, s2⟩ := hS.setOne hb hr (x := .mp [] cl) (ob := .map #[] cl) ⟨#[], rfl, trivial⟩
      refine ⟨_, _, m, _, rfl, ?_, hnil m, s1, s2⟩
      simp only [Builtin.clear_, h0, h2, Sem.run_bind, run_underlying hu, Result.andThen_ok, Go.MapKept.run_getObj_map g1, Go.MapKept.run_setObj_map _ g1, Sem.run_pure]
    · cases he
  · rename_i e l c z hu
    cases he
    obtain ⟨rfl, rfl, rfl⟩ := hx
    refine ⟨_, _, m, w, rfl, ?_, hnil m, hS, Keep.refl ..⟩
    simp only [Builtin.clear_, h0, h2, Sem.run_bind, run_underlying hu, Result.andThen_ok, Sem.run_pure]
  · rename_i e a n c z hu
    obtain ⟨r, c', hr, rfl, _⟩ := hx
    simp only [nbeq, Bool.cond_decide] at he
    split at he
    · rename_i hn
      subst hn
      cases he
      refine ⟨_, _, m, w, rfl, ?_, hnil m, hS, Keep.refl ..⟩
      simp only [Builtin.clear_, h0, h2, Sem.run_bind, run_underlying hu, Result.andThen_ok, Sem.run_pure]
    · rename_i hn
      split at he
      · rename_i i sz zf k hi hz hk
        obtain ⟨i', zv, hi', hzv, hsz, hcr⟩ := zeroV_sound hz
        rw [hi] at hi'; cases hi'
        cases hro : k.ro with
        | true => rw [hro] at he; cases he
        | false =>
          rw [hro] at he
          simp only [cond_false] at he
          cases hb : (Nat.beq sz i.size && (Nat.blt 0 sz && Nat.ble (a.o + n * sz) k.n)) with
          | false => simp only [nbeq] at hb; rw [hb] at he; cases he
          | true =>
            simp only [nbeq] at hb
            rw [hb] at he
            simp only [cond_true, Option.some.injEq] at he
            subst he
            simp only [Bool.and_eq_true, nblt, nble, decide_eq_true_eq] at hb
            obtain ⟨h1, h2', h3⟩ := hb
            obtain ⟨q, cs, fz, hq, hh, hs, hkn, hcs, hfz⟩ := hS.cells hk
            rw [hr] at hq; cases hq
            have hzc : CR m (n * sz) (repeatV sz zf) (Builtin.zeroCells zv.cells n).toList := by
              have e1 := repeat_CR (hcr m) hsz h2' (n * sz)
              unfold Builtin.zeroCells
              rw [show n * zv.cells.size = n * sz by rw [hsz]]
              exact e1
            have hlen : (Builtin.zeroCells zv.cells n).toList.length = n * sz := by simp [Builtin.zeroCells, hsz]
            obtain ⟨w', hrun', hw⟩ := storeCells_run (P := P) (Builtin.zeroCells zv.cells n).toList 0 w r.1 a.o cs k.elem fz hh (by rw [hlen]; omega) (by rw [hs]; exact hfz hro) (CR.oneCells hlen hzc)
            have hupd : ∀ j, updN k.get a.o (n * sz) (repeatV sz zf) j = if a.o ≤ j ∧ j < a.o + n * sz then repeatV sz zf (j - a.o) else k.get j := fun j => by
              unfold updN
              rw [nble, nblt]
              by_cases e1 : a.o ≤ j <;> by_cases e2 : j < a.o + n * sz <;> simp [e1, e2]
            have hc' : CR m k.n (updN k.get a.o (n * sz) (repeatV sz zf)) (laid cs a.o (Builtin.zeroCells zv.cells n).toList).toList :=
              CR.laid hcs hlen (by omega) hzc (fun j _ => hupd j)
            rw [Nat.add_zero] at hw
            obtain ⟨s1, s2⟩ := hS.write hk hro hr (o := a.o) (n := n * sz) hw (by rw [laid_size, hs]) (hfz hro) hc' hkn (fun j hj hne => by rw [hupd, if_neg hne])
            refine ⟨_, _, m, w', rfl, ?_, hnil m, s1, s2⟩
            simp only [Builtin.clear_, h0, h2, Sem.run_bind, run_underlying hu, Result.andThen_ok, zeroValue_run hi hzv, hrun', Sem.run_pure]
      · cases he
  · cases he

theorem EntsR.filter {m : M} {p : Ent → Bool} {q : MapEntry → Bool} (h : ∀ e x, e.born = x.born → p e = q x) : ∀ {es : List Ent} {es' : List MapEntry}, EntsR m es es' → EntsR m (es.filter p) (es'.filter q)
  | [], [], _ => trivial
  | [], _ :: _, h => h.elim
  | _ :: _, [], h => h.elim
  | e :: es, x :: es', ⟨h1, h2, h3, h4⟩ => by
    have ih := EntsR.filter h h4
    simp only [List.filter_cons, h e x h3]
    cases q x with
    | false => exact ih
    | true => exact ⟨h1, h2, h3, ih⟩
theorem EntsR.all {m : M} {p : Ent → Bool} {q : MapEntry → Bool} (h : ∀ e x, e.born = x.born → p e = q x) : ∀ {es : List Ent} {es' : List MapEntry}, EntsR m es es' → es.all p = es'.all q
  | [], [], _ => rfl
  | [], _ :: _, h => h.elim
  | _ :: _, [], h => h.elim
  | e :: es, x :: es', ⟨h1, h2, h3, h4⟩ => by
    simp only [List.all_cons, h e x h3, EntsR.all h h4]
theorem EntsR.append {m : M} {fs : List Ent} {fs' : List MapEntry} (hf : EntsR m fs fs') : ∀ {es : List Ent} {es' : List MapEntry}, EntsR m es es' → EntsR m (es ++ fs) (es' ++ fs')
  | [], [], _ => hf
  | [], _ :: _, h => h.elim
  | _ :: _, [], h => h.elim
  | e :: es, x :: es', ⟨h1, h2, h3, h4⟩ => ⟨h1, h2, h3, EntsR.append hf h4⟩
theorem EntsR.isEmpty {m : M} : ∀ {es : List Ent} {es' : List MapEntry}, EntsR m es es' → es.isEmpty = es'.isEmpty
  | [], [], _ => rfl
  | [], _ :: _, h => h.elim
  | _ :: _, [], h => h.elim
  | _ :: _, _ :: _, _ => rfl
def CandR (m : M) : Option Ent → Option MapEntry → Prop
  | none, none => True
  | some e, some x => VR m e.key x.key ∧ VR m e.val x.val ∧ e.born = x.born
  | _, _ => False
def CandsR (m : M) : List (Option Ent) → List (Option MapEntry) → Prop
  | [], [] => True
  | c :: l, c' :: l' => CandR m c c' ∧ CandsR m l l'
  | _, _ => False
theorem EntsR.cands {m : M} : ∀ {es : List Ent} {es' : List MapEntry}, EntsR m es es' → CandsR m (es.map some) (es'.map some)
  | [], [], _ => trivial
  | [], _ :: _, h => h.elim
  | _ :: _, [], h => h.elim
  | e :: es, x :: es', ⟨h1, h2, h3, h4⟩ => ⟨⟨h1, h2, h3⟩, EntsR.cands h4⟩
theorem CandsR.get {m : M} : ∀ {l : List (Option Ent)} {l' : List (Option MapEntry)}, CandsR m l l' → l.length = l'.length ∧ ∀ (i : Nat) (c : Option Ent), l[i]? = some c → ∃ c', l'[i]? = some c' ∧ CandR m c c'
  | [], [], _ => ⟨rfl, fun i c h => by simp at h⟩
  | [], _ :: _, h => h.elim
  | _ :: _, [], h => h.elim
  | c :: l, c' :: l', ⟨h1, h2⟩ => by
    obtain ⟨g1, g2⟩ := CandsR.get h2
    refine ⟨by simp [g1], fun i d hd => ?_⟩
    cases i with
    | zero => simp only [List.getElem?_cons_zero, Option.some.injEq] at hd; subst hd; exact ⟨c', by simp, h1⟩
    | succ i => simp only [List.getElem?_cons_succ] at hd ⊢; exact g2 i d hd
theorem allC_spec {f : Option Ent → Prop} : ∀ {l : List (Option Ent)}, allC f l → l ≠ [] ∧ ∀ (i : Nat) (c : Option Ent), l[i]? = some c → f c
  | [], h => h.elim
  | [c], h => ⟨by simp, fun i d hd => by
      cases i with
      | zero => simp only [List.getElem?_cons_zero, Option.some.injEq] at hd; subst hd; exact h
      | succ i => simp at hd⟩
  | c :: c2 :: l, h => ⟨by simp, fun i d hd => by
      cases i with
      | zero => simp only [List.getElem?_cons_zero, Option.some.injEq] at hd; subst hd; exact h.1
      | succ i => simp only [List.getElem?_cons_succ] at hd; exact (allC_spec h.2).2 i d hd⟩
theorem hasN_eq (l : List Nat) (n : Nat) : hasN l n = l.contains n := by
  unfold hasN
  rw [Bool.eq_iff_iff]
  simp [nbeq]

theorem next_sound {m : M} {σ : Store} {w : World} (hS : Sim m σ w) {x : V} {K : Option V → Store → Prop} (hK : evNext x σ K) {x' : Value} (hx : VR m x x') (ty : TypeId) :
    ∃ v σ' r w', K (some v) σ' ∧ (Instr.next x' false ty).run P w = .ok r w' ∧ VR m v r ∧ Sim m σ' w' ∧ Keep m σ w m σ' w' := by
  have hover : VR m (.tup 1 (ofL [.bo false])) (.tuple #[.bool false]) := ⟨_, rfl, rfl, fun j hj => by match j, hj with | 0, _ => rfl⟩
  unfold evNext at hK
  split at hK
  · rename_i a
    simp only [nbeq] at hK
    by_cases ho : a.o = 0
    · simp only [ho, decide_true, cond_true] at hK
      split at hK
      · rename_i s se st hit
        obtain ⟨r, hr, g1⟩ := hS.one _ _ hit
        obtain ⟨r', hr', rfl⟩ := hx
        rw [hr] at hr'; cases hr'
        refine ⟨_, σ, _, w, hK, ?_, hover, hS, Keep.refl ..⟩
        rw [ho]
        simp only [Instr.next, Sem.run_bind, getObj_iter g1, Result.andThen_ok, Sem.run_pure]
      · rename_i mb since seen last hit
        split at hK
        · rename_i es clock hmb
          obtain ⟨r, q, es', g1, g2, rfl, g4, g5, g6⟩ := iter_sound hS hit hmb hx
          have hall : (!seen.isEmpty && (!es.isEmpty && es.all fun e => Nat.ble last e.born)) = (!seen.toArray.isEmpty && !es'.isEmpty && es'.all fun x => decide (x.born ≥ last)) := by
            rw [EntsR.all (q := fun x => decide (x.born ≥ last)) (fun e x h => by rw [nble, h]) g6, EntsR.isEmpty g6, Array.all_toList, Bool.and_assoc]
            have q1 : es'.toList.isEmpty = es'.isEmpty := by simp
            have q2 : seen.toArray.isEmpty = seen.isEmpty := by simp
            rw [q1, q2]
          cases hb : (!seen.isEmpty && (!es.isEmpty && es.all fun e => Nat.ble last e.born)) with
          | true => rw [hb] at hK; exact hK.elim
          | false =>
            rw [hb] at hK
            simp only [cond_false] at hK
            rw [hb] at hall
            have hC : CandsR m (cands since seen es) (((if ((es'.filter fun e => !seen.toArray.contains e.born).filter fun x => decide (x.born < since)).isEmpty then #[none] else #[]) ++
                (((es'.filter fun e => !seen.toArray.contains e.born).filter fun x => decide (x.born < since)) ++ ((es'.filter fun e => !seen.toArray.contains e.born).filter fun x => decide (x.born ≥ since))).map some : Array (Option MapEntry))).toList := by
              have e0 : EntsR m (es.filter fun e => !hasN seen e.born) (es'.filter fun e => !seen.toArray.contains e.born).toList := by
                rw [Array.toList_filter]
                exact EntsR.filter (fun e x h => by rw [hasN_eq, h]; simp) g6
              have e1 : EntsR m ((es.filter fun e => !hasN seen e.born).filter fun e => Nat.blt e.born since) ((es'.filter fun e => !seen.toArray.contains e.born).filter fun x => decide (x.born < since)).toList := by
                rw [Array.toList_filter]
                exact EntsR.filter (fun e x h => by rw [nblt, h]) e0
              have e2 : EntsR m ((es.filter fun e => !hasN seen e.born).filter fun e => Nat.ble since e.born) ((es'.filter fun e => !seen.toArray.contains e.born).filter fun x => decide (x.born ≥ since)).toList := by
                rw [Array.toList_filter]
                exact EntsR.filter (fun e x h => by rw [nble, h]) e0
              have e3 := EntsR.cands (EntsR.append e2 e1)
              have e4 := EntsR.isEmpty e1
              unfold cands
              simp only
              rw [Array.toList_append, Array.toList_map, Array.toList_append, e4]
              have e5 : ∀ A : Array MapEntry, A.toList.isEmpty = A.isEmpty := fun A => by simp
              rw [e5]
              cases ((es'.filter fun e => !seen.toArray.contains e.born).filter fun x => decide (x.born < since)).isEmpty with
              | true => exact ⟨trivial, e3⟩
              | false => exact e3
            generalize hCeq : ((if ((es'.filter fun e => !seen.toArray.contains e.born).filter fun x => decide (x.born < since)).isEmpty then #[none] else #[]) ++
                (((es'.filter fun e => !seen.toArray.contains e.born).filter fun x => decide (x.born < since)) ++ ((es'.filter fun e => !seen.toArray.contains e.born).filter fun x => decide (x.born ≥ since))).map some : Array (Option MapEntry)) = C at hC
            obtain ⟨c1, c2⟩ := allC_spec hK
            obtain ⟨d1, d2⟩ := hC.get
            have hpos : 0 < C.size := by
              have : 0 < (cands since seen es).length := List.length_pos_iff.2 c1
              have := C.length_toList
              omega
            have hch : ∃ (j : Nat) (w1 : World), j < C.size ∧ (w1 = w ∨ w1 = w.drew) ∧ (choose (Question.mapNext C.size)).run P w = .ok j w1 := by
              by_cases hf : C.size ≤ 1
              · exact ⟨0, w, by omega, .inl rfl, by simp [choose, Sem.run, Question.forced, hf]⟩
              · exact ⟨_, w.drew, Nat.mod_lt _ (by omega), .inr rfl, by
                  simp only [choose, Sem.run, Question.forced, decide_eq_true_eq, hf, if_false, Question.cut]
                  rfl⟩
            obtain ⟨j, w1, hj, hw1, hrun⟩ := hch
            have hjl : j < (cands since seen es).length := by have := C.length_toList; omega
            obtain ⟨c', d3, d4⟩ := d2 j _ (List.getElem?_eq_getElem hjl)
            have hkc := c2 j _ (List.getElem?_eq_getElem hjl)
            have hCj : C[j]? = some c' := by simpa using d3
            have hS1 : Sim m σ w1 := by rcases hw1 with rfl | rfl; exact hS; exact hS.drew
            have hk1 : ∀ {m' σ' w'}, Keep m σ w1 m' σ' w' → Keep m σ w m' σ' w' := fun h => by rcases hw1 with rfl | rfl; exact h; exact h.drew
            have g4' : w1.heap[r.1]? = some (.mapIter (some q.1) since seen.toArray last) := by rcases hw1 with rfl | rfl <;> exact g4
            generalize (cands since seen es)[j] = c at d4 hkc
            have pre : ∀ (v : Value) (w' : World), (match C[j]? with
                | some (some e) => do
                  setObj r.1 (.mapIter (some q.1) since (seen.toArray.push e.born) clock)
                  pure (.tuple #[.bool true, e.key, e.val])
                | some none => pure (.tuple #[.bool false])
                | none => stuck "Next: no such candidate" : Sem Value).run P w1 = .ok v w' → (Instr.next (.pointer (some ⟨r.1, a.o, none⟩)) false ty).run P w = .ok v w' := by
              intro v w' h
              rw [ho]
              simp only [Instr.next, Sem.run_bind, getObj_iter g4, Result.andThen_ok, Go.MapKept.run_getObj_map g5]
              rw [← hall]
              simp only [Bool.false_eq_true, if_false]
              rw [hCeq]
              simp only [Sem.run_bind, hrun, Result.andThen_ok]
              exact h
            cases c with
            | none =>
              cases c' with
              | some _ => exact d4.elim
              | none =>
                refine ⟨_, σ, _, w1, hkc, pre _ _ (by rw [hCj]; rfl), hover, hS1, hk1 (Keep.refl ..)⟩
            | some e =>
              cases c' with
              | none => exact d4.elim
              | some x =>
                obtain ⟨k1, k2, k3⟩ := d4
                obtain ⟨s1, s2⟩ := hS1.setOne hit g1 (x := .it (some mb) since (seen ++ [e.born]) clock) (ob := .mapIter (some q.1) since (seen.toArray.push x.born) clock) ⟨q, g2, by simp [k3]⟩
                refine ⟨_, _, .tuple #[.bool true, x.key, x.val], _, hkc, pre _ _ (by rw [hCj]; simp only [Sem.run_bind, setObj_iter _ g4', Result.andThen_ok, Sem.run_pure]), ⟨_, rfl, rfl, fun i hi => ?_⟩, s1, hk1 s2⟩
                match i, hi with
                | 0, _ => rfl
                | 1, _ => exact k1
                | 2, _ => exact k2
        · exact hK.elim
      · exact hK.elim
    · simp only [ho, decide_false, cond_false] at hK
  · exact hK.elim

theorem byteList_sound {m : M} {g : Nat → V} {c : List Value} {N : Nat} (h : CR m N g c) : ∀ (n o : Nat) (l : List Int), byteList g n o = some l → o + n ≤ N → ∀ j, j < n → ∃ x, l[j]? = some x ∧ c[o + j]? = some (.int .u8 x)
  | 0, o, l, _, _, j, hj => by omega
  | n + 1, o, l, hl, hn, j, hj => by
    simp only [byteList] at hl
    split at hl
    · rename_i x l' hx hl'
      cases hl
      cases j with
      | zero =>
        obtain ⟨u, h1, h2, _⟩ := h o (by omega)
        rw [hx] at h2
        simp only [VR] at h2
        subst h2
        exact ⟨x, by simp, h1⟩
      | succ j =>
        obtain ⟨y, h1, h2⟩ := byteList_sound h n (o + 1) l' hl' (by omega) j (by omega)
        refine ⟨y, by simpa using h1, ?_⟩
        rw [show o + (j + 1) = o + 1 + j by omega]; exact h2
    · cases hl
theorem byteList_len {g : Nat → V} : ∀ (n o : Nat) (l : List Int), byteList g n o = some l → l.length = n
  | 0, o, l, h => by simp only [byteList, Option.some.injEq] at h; subst h; rfl
  | n + 1, o, l, h => by
    simp only [byteList] at h
    split at h
    · rename_i x l' hx hl'
      cases h
      simp [byteList_len n (o + 1) l' hl']
    · cases h

theorem strOf_size (l : List Int) : (strOf l).size = l.length := by
  have key : ∀ (l : List Int) (b : ByteArray), (l.foldl (fun r n => r.push (UInt8.ofNat n.toNat)) b).size = b.size + l.length := by
    intro l
    induction l with
    | nil => intro b; rfl
    | cons x l ih => intro b; rw [List.foldl_cons, ih]; simp only [ByteArray.size_push, List.length_cons]; omega
  unfold strOf
  rw [key]
  simp
theorem cvt_sound {m : M} {σ : Store} {w : World} (hS : Sim m σ w) {src dst : TypeId} {x : V} {rs : Rs} (he : evCvt P src dst x σ = some rs) {x' : Value} (hx : VR m x x') :
    ∃ v r, rs = ⟨true, some v, σ⟩ ∧ (convert src dst x').run P w = .ok r w ∧ VR m v r := by
  unfold evCvt at he
  split at he
  · rename_i e hs hd
    split at he
    · rename_i l c z hu
      cases he
      obtain ⟨rfl, rfl, rfl⟩ := hx
      exact ⟨_, .string .empty, rfl, by rw [run_convert_bytes_string w src dst e none 0 0 hs hu hd]; rfl, rfl⟩
    · rename_i a n c z hu
      split at he
      · rename_i k hk
        cases hb : Nat.ble (a.o + n) k.n with
        | false => rw [hb] at he; cases he
        | true =>
          rw [hb] at he
          rw [nble, decide_eq_true_eq] at hb
          simp only [cond_true] at he
          cases hl : byteList k.get n a.o with
          | none => rw [hl] at he; cases he
          | some l =>
            rw [hl] at he
            cases he
            obtain ⟨r, c', hr, rfl, _⟩ := hx
            obtain ⟨q, cs, fz, hq, hh, hsz, hkn, hcs, _⟩ := hS.cells hk
            rw [hr] at hq; cases hq
            have hload : (loadCells ⟨r.1, a.o, none⟩ n).run P w = .ok (l.map (Value.int .u8)).toArray w := by
              have := run_loadCells (P := P) w ⟨r.1, a.o, none⟩ n (fun j => .int .u8 (l.getD j 0)) (fun j hj => by
                obtain ⟨y, h1, h2⟩ := byteList_sound hcs n a.o l hl hb j hj
                rw [addr_add, cell_at hh, ← Array.getElem?_toList, h2, List.getD_eq_getElem?_getD, h1]; rfl)
              rw [this]
              congr 2
              apply List.ext_getElem?
              intro j
              have hlen := byteList_len n a.o l hl
              by_cases hj : j < n
              · have : j < l.length := by omega
                simp [hj, this]
              · have : ¬ j < l.length := by omega
                simp [hj, this]
            refine ⟨_, .string (strOf l), rfl, ?_, rfl⟩
            rw [run_convert_bytes_string w src dst e (some ⟨r.1, a.o, none⟩) n c' hs hu hd, run_bytesToString w ⟨r.1, a.o, none⟩ n c' l hload]
            rfl
      · cases he
    · rename_i b e' hu
      split at he
      · rename_i k hk
        split at he
        · rename_i e'' hz
          cases hsame : SX.same e' e'' with
          | false => rw [hsame] at he; cases he
          | true =>
            obtain rfl := SX.same_eq hsame
            rw [hsame] at he
            cases he
            obtain ⟨r, hr, rfl, hn⟩ := hx
            obtain ⟨q, hq, cs, fz, hh, hsz, hkn, hcs, _, hzz⟩ := hS.obj b k hk
            rw [hr] at hq; cases hq
            obtain ⟨_, _, hall⟩ := hzz e' hz
            have hload : (loadCells ⟨r.1, 0, none⟩ r.2).run P w = .ok ((List.replicate r.2 (0 : Int)).map (Value.int .u8)).toArray w := by
              have := run_loadCells (P := P) w ⟨r.1, 0, none⟩ r.2 (fun _ => .int .u8 0) (fun j hj => by
                rw [addr_add, cell_at hh, Nat.zero_add, hall j hj])
              rw [this]
              congr 2
              apply List.ext_getElem?
              intro j
              by_cases hj : j < r.2
              · simp [hj]
              · simp [hj]
            refine ⟨_, .string (strOf (List.replicate r.2 (0 : Int))), rfl, ?_, ⟨_, rfl, ?_⟩⟩
            · rw [run_convert_bytes_string w src dst e (some ⟨r.1, 0, none⟩) r.2 r.2 hs hu hd, run_bytesToString w ⟨r.1, 0, none⟩ r.2 r.2 _ hload]
              rfl
            · rw [← hn, strOf_size]; simp
        · cases he
      · cases he
    · cases he
  · cases hv : evConvert P src dst x with
    | none => rw [hv] at he; cases he
    | some v =>
      rw [hv] at he
      cases he
      obtain ⟨r, h1, h2⟩ := evConvert_sound hv hx w
      exact ⟨v, r, rfl, h1, h2⟩

theorem builtin_sound {m : M} {σ : Store} {w : World} (h : Sim m σ w) {b : Builtin} {ts : Array TypeId} {args : List V} {rs : Rs} (he : evBuiltin P b ts.toList args σ = some rs) (hc : rs.c = true)
    {args' : Array Value} (ha : VRs m args args'.toList) (ty : TypeId) (consts : Array Bool) :
    ∃ v r m' w', rs.v = some v ∧ (builtin b ts ty consts args').run P w = .ok (.value r) w' ∧ VR m' v r ∧ Sim m' rs.σ w' ∧ Keep m σ w m' rs.σ w' := by
  unfold evBuiltin at he
  split at he
  · rename_i ts' t rest x hts
    match args', ha with
    | ⟨[a]⟩, ha =>
      have h0 : ts[0]? = some t := by rw [← Array.getElem?_toList, hts]; rfl
      cases hv : evLen P t x with
      | none => simp [hv, valRs] at he
      | some v =>
        simp only [hv, valRs, Option.some.injEq] at he
        subst he
        obtain ⟨r, g1, g2⟩ := len_sound hv ha.1 ty w ts h0
        exact ⟨v, r, m, w, rfl, by simp only [builtin, Sem.run_bind, g1, Result.andThen_ok, Sem.run_pure], g2, h, Keep.refl ..⟩
  · rename_i ts' t u rest s x hts
    match args', ha with
    | ⟨[a, b]⟩, ha =>
      have h0 : ts[0]? = some t := by rw [← Array.getElem?_toList, hts]; rfl
      have h1 : ts[1]? = some u := by rw [← Array.getElem?_toList, hts]; rfl
      obtain ⟨v, r, m', w', g0, g1, g2, g3, g4⟩ := append_sound h he hc ha.1 ha.2.1 h0 h1 ty
      exact ⟨v, r, m', w', g0, by simp only [builtin, Sem.run_bind, g1, Result.andThen_ok, Sem.run_pure], g2, g3, g4⟩
  · rename_i ts' t rest d s hts
    match args', ha with
    | ⟨[a, b]⟩, ha =>
      have h0 : ts[0]? = some t := by rw [← Array.getElem?_toList, hts]; rfl
      obtain ⟨v, r, w', g0, g1, g2, g3, g4⟩ := copy_sound h he hc ha.1 ha.2.1 h0 ty
      exact ⟨v, r, m, w', g0, by simp only [builtin, Sem.run_bind, g1, Result.andThen_ok, Sem.run_pure], g2, g3, g4⟩
  · match args', ha with
    | ⟨[a, b]⟩, ha =>
      obtain ⟨h1, h2, _⟩ := ha
      simp only [VR] at h1 h2
      subst h1; subst h2; cases he
      exact ⟨_, _, m, w, rfl, rfl, by simp only [VR, Bool.cond_decide], h, Keep.refl ..⟩
  · match args', ha with
    | ⟨[a, b]⟩, ha =>
      obtain ⟨h1, h2, _⟩ := ha
      simp only [VR] at h1 h2
      subst h1; subst h2; cases he
      exact ⟨_, _, m, w, rfl, rfl, by simp only [VR, Bool.cond_decide], h, Keep.refl ..⟩
  · rename_i ts' t rest x k hts
    match args', ha with
    | ⟨[a, b]⟩, ha =>
      have h0 : ts[0]? = some t := by rw [← Array.getElem?_toList, hts]; rfl
      obtain ⟨v, r, m', w', g0, g1, g2, g3, g4⟩ := delete_sound h he ha.1 ha.2.1 h0 ty
      exact ⟨v, r, m', w', g0, by simp only [builtin, Sem.run_bind, g1, Result.andThen_ok, Sem.run_pure], g2, g3, g4⟩
  · rename_i ts' t rest x hts
    match args', ha with
    | ⟨[a]⟩, ha =>
      have h0 : ts[0]? = some t := by rw [← Array.getElem?_toList, hts]; rfl
      obtain ⟨v, r, m', w', g0, g1, g2, g3, g4⟩ := clear_sound h he ha.1 h0 ty
      exact ⟨v, r, m', w', g0, by simp only [builtin, Sem.run_bind, g1, Result.andThen_ok, Sem.run_pure], g2, g3, g4⟩
  · cases he
end Go.Ev
