/- Each operation that calls no Go function is sound, continued. -/
import Derived.Test.YtifpmcejajfagaaGreatEv4
set_option linter.all false
namespace Go.Ev
variable [Env]
variable {P : Program}

/-- an operation's run, told by the evaluator -/
def OpOk (m : M) (σ : Store) (w : World) (rs : Rs) (s : Result Next) : Prop :=
  ∃ r m' w', s = (match rs.v with | some _ => .ok (.value r) w' | none => .ok .skip w') ∧ VR m' (rs.v.getD .junk) r ∧ Sim m' rs.σ w' ∧ Keep m σ w m' rs.σ w'

theorem OpOk.pure {m : M} {σ : Store} {w : World} (h : Sim m σ w) {c : Bool} {v : V} {r : Value} (hv : VR m v r) {s : Result Next} (hs : s = .ok (.value r) w) :
    OpOk m σ w ⟨c, some v, σ⟩ s := ⟨r, m, w, hs, hv, h, Keep.refl m σ w⟩

theorem kindEq_eq {k k' : IntKind} : kindEq k k' = true ↔ k = k' := by cases k <;> cases k' <;> simp [kindEq]

theorem binInt_sound {op : BinOp} {k k' : IntKind} {a b : Int} {c : Bool} {v : V} (h : binInt op k a b = some (c, v)) (hc : c = true) (hk : k = k' ∨ op = .shl ∨ op = .shr)
    (t : TypeId) (w : World) : ∃ r, (binOp op t (.int k a) (.int k' b)).run P w = .ok r w ∧ ∀ m, VR m v r := by
  subst hc
  cases op <;> simp only [binInt, Option.some.injEq, Prod.mk.injEq] at h
  case shl =>
    obtain ⟨h1, rfl⟩ := h
    refine ⟨_, ?_, fun m => rfl⟩
    have h0 : ¬ b < 0 := by simpa using h1
    simp only [binOp, Op.shift, if_neg h0, Sem.run_pure, ishl]
  case shr =>
    obtain ⟨h1, rfl⟩ := h
    refine ⟨_, ?_, fun m => rfl⟩
    have h0 : ¬ b < 0 := by simpa using h1
    simp only [binOp, Op.shift, if_neg h0, Sem.run_pure, ishr]
  all_goals
    have hk' : k = k' := by rcases hk with h | h | h <;> first | exact h | cases h
    subst hk'
    obtain ⟨h1, rfl⟩ := h
  case quo =>
    refine ⟨_, ?_, fun m => rfl⟩
    have h0 : ¬ b = 0 := by simpa using h1
    simp only [binOp, ne_eq, not_true, if_false, Op.intDiv, if_neg h0, Sem.run_pure]
  case rem =>
    refine ⟨_, ?_, fun m => rfl⟩
    have h0 : ¬ b = 0 := by simpa using h1
    simp only [binOp, ne_eq, not_true, if_false, Op.intDiv, if_neg h0, Sem.run_pure]
  all_goals exact ⟨_, by simp only [binOp, ne_eq, not_true, if_false, Op.intArith, Op.intBits, Op.intCmp, Sem.run_pure]; try rfl, fun m => rfl⟩

theorem equalIn_nils (w : World) (d : Nat) (t : TypeId) (ty : TypeDesc) (hd : P.underlying t = some ty) :
    ((∃ e, ty = .pointer e) → (∀ p, (Op.equalIn (d + 1) t (.pointer none) (.pointer p)).run P w = .ok p.isNone w) ∧ (∀ p, (Op.equalIn (d + 1) t (.pointer (some p)) (.pointer none)).run P w = .ok false w)) ∧
    ((∃ e, ty = .slice e) → (∀ p l c l' c', (Op.equalIn (d + 1) t (.slice none l c) (.slice p l' c')).run P w = .ok p.isNone w) ∧ (∀ p l c l' c', (Op.equalIn (d + 1) t (.slice (some p) l c) (.slice none l' c')).run P w = .ok false w)) ∧
    ((∃ k e, ty = .map k e) → (∀ p, (Op.equalIn (d + 1) t (.map none) (.map p)).run P w = .ok p.isNone w) ∧ (∀ p, (Op.equalIn (d + 1) t (.map (some p)) (.map none)).run P w = .ok false w)) ∧
    ((∃ x y z, ty = .func x y z) → (Op.equalIn (d + 1) t .nilFunc .nilFunc).run P w = .ok true w ∧ (∀ f x y, (Op.equalIn (d + 1) t .nilFunc (.func f x y)).run P w = .ok false w) ∧
      (∀ f x y, (Op.equalIn (d + 1) t (.func f x y) .nilFunc).run P w = .ok false w)) := by
  refine ⟨?_, ?_, ?_, ?_⟩
  · rintro ⟨e, rfl⟩
    exact ⟨fun p => by simp [Op.equalIn, run_underlying hd], fun p => by simp [Op.equalIn, run_underlying hd]⟩
  · rintro ⟨e, rfl⟩
    exact ⟨fun p l c l' c' => by simp [Op.equalIn, run_underlying hd], fun p l c l' c' => by simp [Op.equalIn, run_underlying hd]⟩
  · rintro ⟨k, e, rfl⟩
    exact ⟨fun p => by simp [Op.equalIn, run_underlying hd], fun p => by simp [Op.equalIn, run_underlying hd]⟩
  · rintro ⟨x, y, z, rfl⟩
    exact ⟨by simp [Op.equalIn, run_underlying hd], fun _ _ _ => by simp [Op.equalIn, run_underlying hd], fun _ _ _ => by simp [Op.equalIn, run_underlying hd]⟩

theorem nil_ptr {m : M} {a b : Option Pl} {x y : Value} (ha : VR m (.p a) x) (hb : VR m (.p b) y) {r : Bool} (hn : nilEq a b = some r) {t e : TypeId}
    (hd : P.underlying t = some (.pointer e)) (w : World) : (Op.equal t x y).run P w = .ok r w := by
  obtain ⟨h1, h2⟩ := (equalIn_nils w 9999 t _ hd).1 ⟨e, rfl⟩
  cases a with
  | none =>
    simp only [VR] at ha; subst ha
    cases b with
    | none => simp only [VR] at hb; subst hb; simp only [nilEq, Option.isNone_none, Option.some.injEq] at hn; subst hn; exact h1 none
    | some b => obtain ⟨_, _, rfl⟩ := hb; simp only [nilEq, Option.isNone_some, Option.some.injEq] at hn; subst hn; exact h1 _
  | some a =>
    obtain ⟨_, _, rfl⟩ := ha
    cases b with
    | none => simp only [VR] at hb; subst hb; simp only [nilEq, Option.some.injEq] at hn; subst hn; exact h2 _
    | some b => simp [nilEq] at hn
theorem nil_map {m : M} {a b : Option Nat} {x y : Value} (ha : VR m (.mp a) x) (hb : VR m (.mp b) y) {r : Bool} (hn : nilEq a b = some r) {t k e : TypeId}
    (hd : P.underlying t = some (.map k e)) (w : World) : (Op.equal t x y).run P w = .ok r w := by
  obtain ⟨h1, h2⟩ := (equalIn_nils w 9999 t _ hd).2.2.1 ⟨k, e, rfl⟩
  cases a with
  | none =>
    simp only [VR] at ha; subst ha
    cases b with
    | none => simp only [VR] at hb; subst hb; simp only [nilEq, Option.isNone_none, Option.some.injEq] at hn; subst hn; exact h1 none
    | some b => obtain ⟨_, _, rfl⟩ := hb; simp only [nilEq, Option.isNone_some, Option.some.injEq] at hn; subst hn; exact h1 _
  | some a =>
    obtain ⟨_, _, rfl⟩ := ha
    cases b with
    | none => simp only [VR] at hb; subst hb; simp only [nilEq, Option.some.injEq] at hn; subst hn; exact h2 _
    | some b => simp [nilEq] at hn
theorem nil_sl {m : M} {a b : Option Pl} {l c z l' c' z' : Nat} {x y : Value} (ha : VR m (.sl a l c z) x) (hb : VR m (.sl b l' c' z') y) {r : Bool} (hn : nilEq a b = some r) {t e : TypeId}
    (hd : P.underlying t = some (.slice e)) (w : World) : (Op.equal t x y).run P w = .ok r w := by
  obtain ⟨h1, h2⟩ := (equalIn_nils w 9999 t _ hd).2.1 ⟨e, rfl⟩
  cases a with
  | none =>
    obtain ⟨_, _, rfl⟩ := ha
    cases b with
    | none => obtain ⟨_, _, rfl⟩ := hb; simp only [nilEq, Option.isNone_none, Option.some.injEq] at hn; subst hn; exact h1 none ..
    | some b => obtain ⟨_, _, _, rfl, _⟩ := hb; simp only [nilEq, Option.isNone_some, Option.some.injEq] at hn; subst hn; exact h1 (some _) ..
  | some a =>
    obtain ⟨_, _, _, rfl, _⟩ := ha
    cases b with
    | none => obtain ⟨_, _, rfl⟩ := hb; simp only [nilEq, Option.some.injEq] at hn; subst hn; exact h2 ..
    | some b => simp [nilEq] at hn

theorem eqRes_sound {m : M} {op : BinOp} {r c : Bool} {v : V} (h : eqRes op r = some (c, v)) {t : TypeId} {a b : Value} {ox oy : Operand} {w : World}
    (hg : ∀ op, eqGuard op t ox oy a b = pure ())
    (hb : binOp .eql t a b = (do pure (.bool (← Op.equal t a b))) ∧ binOp .neq t a b = (do pure (.bool (!(← Op.equal t a b)))))
    (he : (Op.equal t a b).run P w = .ok r w) :
    ∃ x, (do eqGuard op t ox oy a b; binOp op t a b).run P w = .ok x w ∧ VR m v x := by
  unfold eqRes at h
  split at h
  · cases h
    exact ⟨_, by simp only [hg, pure_bind, hb.1, Sem.run_bind, he, Result.andThen_ok, Sem.run_pure], rfl⟩
  · cases h
    exact ⟨_, by simp only [hg, pure_bind, hb.2, Sem.run_bind, he, Result.andThen_ok, Sem.run_pure], rfl⟩
  · cases h

theorem eqT_top {m : M} (t : TypeId) {n : Nat} {f g : Nat → V} {cs ds : Array Value} (hc : (eqT P 10000 t n f g).1 = true) {i : TypeInfo} (hi : P.info? t = some i) (hn : n = i.size)
    {d : TypeDesc} (hd : P.underlying t = some d) (ha : aggD d = true) (s1 : cs.size = n) (s2 : ds.size = n)
    (r1 : ∀ j (h : j < cs.size), VR m (f j) cs[j] ∧ cs[j].oneCell' = true) (r2 : ∀ j (h : j < ds.size), VR m (g j) ds[j] ∧ ds[j].oneCell' = true) (w : World) :
    (Op.equal t (.agg cs) (.agg ds)).run P w = .ok (eqT P 10000 t n f g).2 w := by
  have c1 : CR m n f cs.toList := fun j hj => ⟨cs[j], by simp [s1, hj], (r1 j (by omega)).1, (r1 j (by omega)).2⟩
  have c2 : CR m n g ds.toList := fun j hj => ⟨ds[j], by simp [s2, hj], (r2 j (by omega)).1, (r2 j (by omega)).2⟩
  obtain ⟨a, b, h1, h2, h3⟩ := eqT_ok (P := P) 10000 10000 (Nat.le_refl _) t m n f g i cs ds w hi hc hn c1 c2 s1 s2 0 cs ds (fun j _ => by rw [Nat.zero_add]) (fun j _ => by rw [Nat.zero_add]) (by omega) (by omega)
  rw [part_agg hd ha hi] at h1 h2
  have e1 : cs.extract 0 (0 + i.size) = cs := extract_eq (by omega) (fun j _ => by rw [Nat.zero_add]) (by omega)
  have e2 : ds.extract 0 (0 + i.size) = ds := extract_eq (by omega) (fun j _ => by rw [Nat.zero_add]) (by omega)
  rw [e1] at h1; rw [e2] at h2
  cases h1; cases h2
  exact h3

theorem eqX_int {m : M} {x y : SX} {neg : Bool} {r : Value} (h : VR m (.bo (decide (x.den = y.den) != neg)) r) : VR m (eqX x y neg) r := by
  unfold eqX
  cases hs : SX.same x y with
  | true =>
    obtain rfl := SX.same_eq hs
    simpa using h
  | false =>
    simp only [cond_false]
    split
    · rename_i l1 h1 l2 h2 e1 e2
      cases hc : (decide (h1 < l2) || decide (h2 < l1)) with
      | false => exact h
      | true =>
        have b1 := SX.bnd_sound e1
        have b2 := SX.bnd_sound e2
        simp only [Bool.or_eq_true, decide_eq_true_eq] at hc
        have hne : ¬ x.den = y.den := by omega
        simpa [hne] using h
    · exact h
theorem ltX_int {m : M} {x y : SX} {neg : Bool} {r : Value} (h : VR m (.bo (decide (x.den < y.den) != neg)) r) : VR m (ltX x y neg) r := by
  unfold ltX
  cases hs : SX.same x y with
  | true =>
    obtain rfl := SX.same_eq hs
    simpa using h
  | false =>
    simp only [cond_false]
    split
    · rename_i l1 h1 l2 h2 e1 e2
      have b1 := SX.bnd_sound e1
      have b2 := SX.bnd_sound e2
      by_cases c1 : h1 < l2
      · have hlt : x.den < y.den := by omega
        simpa [c1, hlt] using h
      · by_cases c2 : h2 ≤ l1
        · have hlt : ¬ x.den < y.den := by omega
          simpa [c1, c2, hlt] using h
        · simp only [c1, c2, decide_false, cond_false]; exact h
    · exact h
theorem strEq_empty {s b : ByteArray} (hb : b.size = 0) : strEq s b = decide ((s.size : Int) = 0) := by
  have e : b.data.toList = [] := by
    have : b.data.toList.length = 0 := by rw [Array.length_toList]; exact hb
    exact List.length_eq_zero_iff.1 this
  have e2 : s.size = s.data.toList.length := by rw [Array.length_toList]; rfl
  unfold strEq
  rw [e, e2]
  cases s.data.toList with
  | nil => rfl
  | cons x l => simp; omega
theorem binX_int {op : BinOp} {k : IntKind} {x y : SX} {u : V} (h : binX op k x y = some u) :
    ∃ v, binInt op k x.den y.den = some (true, v) ∧ ∀ m r, VR m v r → VR m u r := by
  cases op <;> simp only [binX, Option.some.injEq] at h <;> first | (cases h; done) | skip
  all_goals subst h
  all_goals refine ⟨_, rfl, fun m r hr => ?_⟩
  all_goals first | exact hr | skip
  · exact eqX_int (Eq.mp (congrArg (fun b => VR m (.bo b) r) (by by_cases h : x.den = y.den <;> simp [h])) hr)
  · exact eqX_int (Eq.mp (congrArg (fun b => VR m (.bo b) r) (by by_cases h : x.den = y.den <;> simp [h, bne])) hr)
  · exact ltX_int (Eq.mp (congrArg (fun b => VR m (.bo b) r) (by by_cases h : x.den < y.den <;> simp [h])) hr)
  · exact ltX_int (Eq.mp (congrArg (fun b => VR m (.bo b) r) (by
      by_cases h : y.den < x.den
      · simp [h]
      · simp [h]; omega)) hr)
  · exact ltX_int (Eq.mp (congrArg (fun b => VR m (.bo b) r) (by by_cases h : y.den < x.den <;> simp [h])) hr)
  · exact ltX_int (Eq.mp (congrArg (fun b => VR m (.bo b) r) (by
      by_cases h : x.den < y.den
      · simp [h]
      · simp [h]; omega)) hr)
theorem binXC_int {op : BinOp} {k : IntKind} {x : SX} {n : Int} {u : V} (h : binXC op k x n = some u) :
    ∃ v, binInt op k x.den n = some (true, v) ∧ ∀ m r, VR m v r → VR m u r := by
  unfold binXC at h
  split at h
  · by_cases hn : n = 0
    · simp [hn] at h
    · simp only [hn, decide_false, cond_false, Option.some.injEq] at h
      subst h
      exact ⟨.i k (k.wrap (x.den.tdiv n)), by simp [binInt, hn], fun m r hr => hr⟩
  · by_cases hn : n = 0
    · simp [hn] at h
    · simp only [hn, decide_false, cond_false, Option.some.injEq] at h
      subst h
      exact ⟨.i k (x.den.tmod n), by simp [binInt, hn], fun m r hr => hr⟩
  · exact binX_int h
theorem shX_int {op : BinOp} {k : IntKind} {x : SX} {n : Int} {u : V} (h : shX op k x n = some u) :
    ∃ v, binInt op k x.den n = some (true, v) ∧ ∀ m r, VR m v r → VR m u r := by
  unfold shX at h
  split at h
  · by_cases hn : 0 ≤ n
    · simp only [hn, decide_true, cond_true, Option.some.injEq] at h
      subst h
      exact ⟨.i k (ishl k x.den n), by simp [binInt, hn], fun m r hr => hr⟩
    · simp [hn] at h
  · by_cases hn : 0 ≤ n
    · simp only [hn, decide_true, cond_true, Option.some.injEq] at h
      subst h
      exact ⟨.i k (ishr k x.den n), by simp [binInt, hn], fun m r hr => hr⟩
    · simp [hn] at h
  · cases h
theorem symInt_sound {m : M} {op : BinOp} {k k' : IntKind} {a b : Int} {u : V} {c : Bool} {o : Option V} (ho : ∀ u, o = some u → ∃ v, binInt op k a b = some (true, v) ∧ ∀ m r, VR m v r → VR m u r)
    (h : (o.map fun v => (true, v)) = some (c, u)) (hk : k = k' ∨ op = .shl ∨ op = .shr) (t : TypeId) (ox oy : Operand) (w : World) :
    ∃ r, (do eqGuard op t ox oy (.int k a) (.int k' b); binOp op t (.int k a) (.int k' b)).run P w = .ok r w ∧ VR m u r := by
  cases o with
  | none => simp at h
  | some u' =>
    simp only [Option.map_some, Option.some.injEq, Prod.mk.injEq] at h
    obtain ⟨rfl, rfl⟩ := h
    obtain ⟨v', h1, h2⟩ := ho _ rfl
    have hg : eqGuard op t ox oy (.int k a) (.int k' b) = pure () := eqGuard_at_int ..
    simp only [hg, pure_bind]
    obtain ⟨r, h3, h4⟩ := binInt_sound (P := P) h1 rfl hk t w
    exact ⟨r, h3, h2 m r (h4 m)⟩
theorem symBool_sound {m : M} {op : BinOp} {t : TypeId} {a b : Bool} {v : V} (hd : P.underlying t = some .bool)
    (hv : (op = .eql ∧ VR m v (.bool (a == b))) ∨ (op = .neq ∧ VR m v (.bool (!(a == b))))) (ox oy : Operand) (w : World) :
    ∃ r, (do eqGuard op t ox oy (.bool a) (.bool b); binOp op t (.bool a) (.bool b)).run P w = .ok r w ∧ VR m v r := by
  have hg : eqGuard op t ox oy (.bool a) (.bool b) = pure () := eqGuard_at_bool ..
  simp only [hg, pure_bind]
  rcases hv with ⟨rfl, hv⟩ | ⟨rfl, hv⟩
  · exact ⟨_, by simp only [binOp, Op.equal, Op.maxDepth, Sem.run_bind, run_equalIn_bool' w 9999 t _ _ hd, Result.andThen_ok, Sem.run_pure], hv⟩
  · exact ⟨_, by simp only [binOp, Op.equal, Op.maxDepth, Sem.run_bind, run_equalIn_bool' w 9999 t _ _ hd, Result.andThen_ok, Sem.run_pure], hv⟩

theorem evBin_sound {m : M} {op : BinOp} {t : TypeId} {x y : V} {c : Bool} {v : V} (h : evBin P op t x y = some (c, v)) (hc : c = true) {a b : Value}
    (ha : VR m x a) (hb : VR m y b) (ox oy : Operand) (w : World) :
    ∃ r, (do eqGuard op t ox oy a b; binOp op t a b).run P w = .ok r w ∧ VR m v r := by
  unfold evBin at h
  split at h
  · rename_i k a' k' b'
    simp only [VR] at ha hb
    subst ha; subst hb
    have hg : eqGuard op t ox oy (.int k a') (.int k' b') = pure () := eqGuard_at_int ..
    simp only [hg, pure_bind]
    have hshape : binInt op k a' b' = some (c, v) ∧ (k = k' ∨ op = .shl ∨ op = .shr) := by
      split at h
      · exact ⟨h, .inr (.inl rfl)⟩
      · exact ⟨h, .inr (.inr rfl)⟩
      · cases hk : kindEq k k' with
        | true => rw [hk] at h; exact ⟨h, .inl (kindEq_eq.1 hk)⟩
        | false => rw [hk] at h; simp at h
    obtain ⟨r, h1, h2⟩ := binInt_sound (P := P) hshape.1 hc hshape.2 t w
    exact ⟨r, h1, h2 m⟩
  · rename_i k a' k' b'
    simp only [VR] at ha hb
    subst ha; subst hb
    split at h
    · exact symInt_sound (fun u hu => shX_int hu) h (.inr (.inl rfl)) t ox oy w
    · exact symInt_sound (fun u hu => shX_int hu) h (.inr (.inr rfl)) t ox oy w
    · cases hk : kindEq k k' with
      | true => rw [hk] at h; exact symInt_sound (fun u hu => binXC_int hu) h (.inl (kindEq_eq.1 hk)) t ox oy w
      | false => rw [hk] at h; simp at h
  · rename_i k a' k' b'
    simp only [VR] at ha hb
    subst ha; subst hb
    cases hk : kindEq k k' with
    | true => rw [hk] at h; exact symInt_sound (fun u hu => binX_int (x := .c a') hu) h (.inl (kindEq_eq.1 hk)) t ox oy w
    | false => rw [hk] at h; simp at h
  · rename_i k a' k' b'
    simp only [VR] at ha hb
    subst ha; subst hb
    cases hk : kindEq k k' with
    | true => rw [hk] at h; exact symInt_sound (fun u hu => binX_int hu) h (.inl (kindEq_eq.1 hk)) t ox oy w
    | false => rw [hk] at h; simp at h
  · rename_i e neg a'
    simp only [VR] at ha hb
    subst ha; subst hb
    split at h
    · rename_i hd
      cases h
      exact symBool_sound hd (.inl ⟨rfl, by simp only [VR]; cases BX.den e <;> cases neg <;> cases a' <;> rfl⟩) ox oy w
    · rename_i hd
      cases h
      exact symBool_sound hd (.inr ⟨rfl, by simp only [VR]; cases BX.den e <;> cases neg <;> cases a' <;> rfl⟩) ox oy w
    · cases h
  · rename_i a' e neg
    simp only [VR] at ha hb
    subst ha; subst hb
    split at h
    · rename_i hd
      cases h
      exact symBool_sound hd (.inl ⟨rfl, by simp only [VR]; cases BX.den e <;> cases neg <;> cases a' <;> rfl⟩) ox oy w
    · rename_i hd
      cases h
      exact symBool_sound hd (.inr ⟨rfl, by simp only [VR]; cases BX.den e <;> cases neg <;> cases a' <;> rfl⟩) ox oy w
    · cases h
  · rename_i a' b'
    simp only [VR] at ha hb
    subst ha; subst hb
    have hg : eqGuard op t ox oy (.bool a') (.bool b') = pure () := eqGuard_at_bool ..
    simp only [hg, pure_bind]
    split at h
    · rename_i hd
      cases h
      exact ⟨.bool (a' == b'), by simp only [binOp, Op.equal, Op.maxDepth, Sem.run_bind, run_equalIn_bool' w 9999 t _ _ hd, Result.andThen_ok, Sem.run_pure], rfl⟩
    · rename_i hd
      cases h
      exact ⟨.bool (!(a' == b')), by simp only [binOp, Op.equal, Op.maxDepth, Sem.run_bind, run_equalIn_bool' w 9999 t _ _ hd, Result.andThen_ok, Sem.run_pure], rfl⟩
    · cases h
  · rename_i a' b'
    simp only [VR] at ha hb
    subst ha; subst hb
    have hg : eqGuard op t ox oy (.string a') (.string b') = pure () := eqGuard_at_string ..
    simp only [hg, pure_bind]
    split at h
    · cases h
      refine ⟨_, ?_, rfl⟩
      have : ¬ ((a'.size + b'.size : Nat) : Int) > IntKind.i64.max := by simpa using hc
      simp only [binOp, Op.stringOp, if_neg this, Sem.run_pure]
    · cases h
      exact ⟨_, by simp only [binOp, Op.stringOp, Sem.run_pure]; rw [← beq_toListBytes, ← strEq_eq], rfl⟩
    · cases h
      exact ⟨_, by simp only [binOp, Op.stringOp, Sem.run_pure]; rw [← beq_toListBytes, ← strEq_eq], rfl⟩
    · cases h
  · rename_i e b'
    obtain ⟨s, rfl, hs⟩ := ha
    simp only [VR] at hb
    subst hb
    have hg : eqGuard op t ox oy (.string s) (.string b') = pure () := eqGuard_at_string ..
    simp only [hg, pure_bind]
    cases hz : Nat.beq b'.size 0 with
    | false => rw [hz] at h; cases h
    | true =>
      rw [hz] at h
      rw [nbeq, decide_eq_true_eq] at hz
      have hse : strEq s b' = decide (e.den = (SX.c 0).den) := by rw [strEq_empty hz, hs]; rfl
      simp only [cond_true] at h
      split at h
      · cases h
        exact ⟨_, by simp only [binOp, Op.stringOp, Sem.run_pure]; rw [← beq_toListBytes, ← strEq_eq], eqX_int (by rw [hse]; simp [VR])⟩
      · cases h
        exact ⟨_, by simp only [binOp, Op.stringOp, Sem.run_pure]; rw [← beq_toListBytes, ← strEq_eq], eqX_int (by rw [hse]; simp [VR])⟩
      · cases h
  · rename_i a' b'
    split at h
    · rename_i e r hd hn
      have hg : (∀ op, eqGuard op t ox oy a b = pure ()) ∧ binOp .eql t a b = (do pure (.bool (← Op.equal t a b))) ∧ binOp .neq t a b = (do pure (.bool (!(← Op.equal t a b)))) := by
        cases a' with
        | none =>
          simp only [VR] at ha; subst ha
          cases b' with
          | none => simp only [VR] at hb; subst hb; exact ⟨fun _ => eqGuard_at_pointer .., rfl, rfl⟩
          | some b' => obtain ⟨_, _, rfl⟩ := hb; exact ⟨fun _ => eqGuard_at_pointer .., rfl, rfl⟩
        | some a' =>
          obtain ⟨_, _, rfl⟩ := ha
          cases b' with
          | none => simp only [VR] at hb; subst hb; exact ⟨fun _ => eqGuard_at_pointer .., rfl, rfl⟩
          | some b' => obtain ⟨_, _, rfl⟩ := hb; exact ⟨fun _ => eqGuard_at_pointer .., rfl, rfl⟩
      exact eqRes_sound h hg.1 hg.2 (nil_ptr ha hb hn hd w)
    · cases h
  · rename_i a' l c z b' l' c' z'
    split at h
    · rename_i e r hd hn
      have hg : (∀ op, eqGuard op t ox oy a b = pure ()) ∧ binOp .eql t a b = (do pure (.bool (← Op.equal t a b))) ∧ binOp .neq t a b = (do pure (.bool (!(← Op.equal t a b)))) := by
        cases a' with
        | none =>
          obtain ⟨_, _, rfl⟩ := ha
          cases b' with
          | none => obtain ⟨_, _, rfl⟩ := hb; exact ⟨fun _ => eqGuard_at_slice .., rfl, rfl⟩
          | some b' => obtain ⟨_, _, _, rfl, _⟩ := hb; exact ⟨fun _ => eqGuard_at_slice .., rfl, rfl⟩
        | some a' =>
          obtain ⟨_, _, _, rfl, _⟩ := ha
          cases b' with
          | none => obtain ⟨_, _, rfl⟩ := hb; exact ⟨fun _ => eqGuard_at_slice .., rfl, rfl⟩
          | some b' => obtain ⟨_, _, _, rfl, _⟩ := hb; exact ⟨fun _ => eqGuard_at_slice .., rfl, rfl⟩
      exact eqRes_sound h hg.1 hg.2 (nil_sl ha hb hn hd w)
    · cases h
  · rename_i a' b'
    split at h
    · rename_i e1 e2 r hd hn
      have hg : (∀ op, eqGuard op t ox oy a b = pure ()) ∧ binOp .eql t a b = (do pure (.bool (← Op.equal t a b))) ∧ binOp .neq t a b = (do pure (.bool (!(← Op.equal t a b)))) := by
        cases a' with
        | none =>
          simp only [VR] at ha; subst ha
          cases b' with
          | none => simp only [VR] at hb; subst hb; exact ⟨fun _ => eqGuard_at_map .., rfl, rfl⟩
          | some b' => obtain ⟨_, _, rfl⟩ := hb; exact ⟨fun _ => eqGuard_at_map .., rfl, rfl⟩
        | some a' =>
          obtain ⟨_, _, rfl⟩ := ha
          cases b' with
          | none => simp only [VR] at hb; subst hb; exact ⟨fun _ => eqGuard_at_map .., rfl, rfl⟩
          | some b' => obtain ⟨_, _, rfl⟩ := hb; exact ⟨fun _ => eqGuard_at_map .., rfl, rfl⟩
      exact eqRes_sound h hg.1 hg.2 (nil_map ha hb hn hd w)
    · cases h
  · split at h
    · rename_i e hd
      obtain ⟨_, _, rfl⟩ := ha
      obtain ⟨_, _, rfl⟩ := hb
      exact eqRes_sound h (fun _ => eqGuard_at_slice ..) ⟨rfl, rfl⟩ (((equalIn_nils w 9999 t _ hd).2.1 ⟨e, rfl⟩).2 ..)
    · cases h
  · split at h
    · rename_i x1 x2 x3 hd
      simp only [VR] at ha hb
      subst ha; subst hb
      exact eqRes_sound h (fun _ => eqGuard_at_nilFunc ..) ⟨rfl, rfl⟩ ((equalIn_nils w 9999 t _ hd).2.2.2 ⟨x1, x2, x3, rfl⟩).1
    · cases h
  · split at h
    · rename_i x1 x2 x3 hd
      simp only [VR] at ha
      obtain ⟨_, rfl, _⟩ := hb
      subst ha
      exact eqRes_sound h (fun _ => eqGuard_at_nilFunc ..) ⟨rfl, rfl⟩ (((equalIn_nils w 9999 t _ hd).2.2.2 ⟨x1, x2, x3, rfl⟩).2.1 ..)
    · cases h
  · split at h
    · rename_i x1 x2 x3 hd
      simp only [VR] at hb
      obtain ⟨_, rfl, _⟩ := ha
      subst hb
      exact eqRes_sound h (fun _ => eqGuard_at_func ..) ⟨rfl, rfl⟩ (((equalIn_nils w 9999 t _ hd).2.2.2 ⟨x1, x2, x3, rfl⟩).2.2 ..)
    · cases h
  · rename_i n f n' g
    cases hgt : P.eqGuardType P.depth t with
    | true => rw [hgt] at h; simp at h
    | false =>
      rw [hgt] at h
      simp only [cond_false] at h
      split at h
      · rename_i d i hd hi
        obtain ⟨cs, rfl, s1, r1⟩ := ha
        obtain ⟨ds, rfl, s2, r2⟩ := hb
        have hkey : (aggD' d && (Nat.beq n i.size && (Nat.beq n n' && (eqT P 10000 t n f g).1))) = true → (Op.equal t (.agg cs) (.agg ds)).run P w = .ok (eqT P 10000 t n f g).2 w := by
          intro hc'
          simp only [Bool.and_eq_true, nbeq, decide_eq_true_eq] at hc'
          obtain ⟨ha', hn', rfl, hc'⟩ := hc'
          exact eqT_top t hc' hi hn' hd (by cases d <;> first | rfl | simp [aggD'] at ha') s1 s2 r1 r2 w
        have hg : ∀ (op : BinOp), ((eqGuard op t ox oy (.agg cs) (.agg ds)) : Sem Unit).run P w = .ok () w := by
          intro op
          cases op <;> first | rfl | simp [eqGuard, hgt]
        split at h
        · cases h
          refine ⟨_, ?_, rfl⟩
          simp only [Sem.run_bind, hg, Result.andThen_ok, binOp, hkey hc, Sem.run_pure]
        · cases h
          refine ⟨_, ?_, rfl⟩
          simp only [Sem.run_bind, hg, Result.andThen_ok, binOp, hkey hc, Sem.run_pure]
        · cases h
      · cases h
  · cases h

end Go.Ev
