/- Each operation that calls no Go function is sound. -/
import Derived.Test.YtifpmcejajfagaaGreatEv3
import Derived.Laws.StructEq
import Derived.Laws.Pointers
import Derived.Laws.Strings
set_option linter.all false
namespace Go.Ev
variable [Env]
variable {P : Program}

theorem strEq_eq (a b : ByteArray) : strEq a b = (a == b) := by
  rw [beq_toListBytes, ByteArray.toList_eq, ByteArray.toList_eq]; rfl

theorem isB_VR {m : M} {v : V} {w : Value} (h : VR m v w) (hb : v.isB = true) : w = .bool v.bool := by
  cases v <;> simp_all [V.isB, VR, V.bool]
theorem isS_VR {m : M} {v : V} {w : Value} (h : VR m v w) (hb : v.isS = true) : w = .string v.str := by
  cases v <;> simp_all [V.isS, VR, V.str]
theorem isI_VR {m : M} {k : IntKind} {v : V} {w : Value} (h : VR m v w) (hb : v.isI k = true) : w = .int k v.int := by
  cases v <;> simp_all [V.isI, VR, V.int]
  rename_i k' n
  cases k <;> cases k' <;> simp_all [kindEq]

/-- two rows of cells told equal or not at a type -/
def EqOk (P : Program) (D : Nat) (eq : Nat → (Nat → V) → (Nat → V) → Bool × Bool) (t : TypeId) : Prop :=
  ∀ (m : M) (N : Nat) (f g : Nat → V) (i : TypeInfo) (x y : Array Value) (w : World), P.info? t = some i → (eq N f g).1 = true → N = i.size →
    CR m N f x.toList → CR m N g y.toList → x.size = N → y.size = N →
    ∀ (off : Nat) (xs ys : Array Value), (∀ j, j < N → xs[off + j]? = x[j]?) → (∀ j, j < N → ys[off + j]? = y[j]?) → off + N ≤ xs.size → off + N ≤ ys.size →
    ∃ a b, (part t xs off).run P w = .ok a w ∧ (part t ys off).run P w = .ok b w ∧ (Op.equalIn D t a b).run P w = .ok (eq N f g).2 w

theorem extract_eq {x xs : Array Value} {off N : Nat} (hx : x.size = N) (h : ∀ j, j < N → xs[off + j]? = x[j]?) (hn : off + N ≤ xs.size) : xs.extract off (off + N) = x := by
  apply Array.ext'
  apply List.ext_getElem?
  intro j
  rw [Array.getElem?_toList, Array.getElem?_toList, Array.getElem?_extract]
  by_cases hj : j < N
  · rw [if_pos (by omega), h j hj]
  · rw [if_neg (by omega), Array.getElem?_eq_none (by omega)]

theorem eqFs_ok {D : Nat} {eq : TypeId → Nat → (Nat → V) → (Nat → V) → Bool × Bool} (heq : ∀ t, EqOk P D (eq t) t) {m : M} {N : Nat} {f g : Nat → V} {x y : Array Value}
    (hx : CR m N f x.toList) (hy : CR m N g y.toList) (sx : x.size = N) (sy : y.size = N) : ∀ (l : List Field), (eqFs P eq N f g l).1 = true → ∀ (w : World),
    (Op.eqFields D x y l).run P w = .ok (eqFs P eq N f g l).2 w
  | [], _, w => by simp [Op.eqFields, eqFs]
  | z :: l, hc, w => by
    cases hi : P.info? z.type with
    | none => simp [eqFs, hi] at hc
    | some i =>
      simp only [eqFs, hi, Bool.and_eq_true, nble, decide_eq_true_eq, Bool.not_eq_true', beq_eq_false_iff_ne] at hc
      obtain ⟨c1, c2, c3, c4⟩ := hc
      obtain ⟨e1, e2⟩ := hx.extract z.offset i.size c2
      obtain ⟨e3, e4⟩ := hy.extract z.offset i.size c2
      obtain ⟨a, b, g1, g2, g3⟩ := heq z.type m i.size _ _ i _ _ w hi c3 rfl e2 e4 e1 e3 z.offset x y
        (fun j hj => by rw [Array.getElem?_extract, if_pos (by omega)]) (fun j hj => by rw [Array.getElem?_extract, if_pos (by omega)]) (by omega) (by omega)
      simp only [Op.eqFields, ne_eq, c1, not_false_eq_true, if_true, Sem.run_bind, g1, Result.andThen_ok, g2, g3, Sem.run_ite, eqFs, hi]
      cases hr : (eq z.type i.size (fun j => f (z.offset + j)) (fun j => g (z.offset + j))).2
      · simp
      · simp only [Bool.not_true, Bool.false_eq_true, if_false, Bool.true_and]
        exact eqFs_ok heq hx hy sx sy l c4 w

/-- the loop over an array's elements -/
theorem arLoop {D : Nat} {e : TypeId} {sz : Nat} {x y : Array Value} (f : Nat → Bool) :
    ∀ (l : List Nat) (w : World), (∀ i ∈ l, ∀ w, ∃ a b, (part e x (i * sz)).run P w = .ok a w ∧ (part e y (i * sz)).run P w = .ok b w ∧ (Op.equalIn D e a b).run P w = .ok (f i) w) →
    ((forIn l ((none : Option Bool), ()) fun i __s => do
            let __do_lift ← part e x (i * sz)
            let __do_lift_1 ← part e y (i * sz)
            let __do_lift ← Op.equalIn D e __do_lift __do_lift_1
            if (!__do_lift) = true then pure (ForInStep.done (some false, ())) else pure (ForInStep.yield (none, ())) : Sem (Option Bool × Unit)).run P w).andThen
      (fun a w' => Sem.run P (match a.fst with
        | some r => pure r
        | none => pure true) w') = .ok (l.all f) w := by
  intro l
  induction l with
  | nil => intro w _; simp
  | cons i l ih =>
    intro w h
    obtain ⟨a, b, g1, g2, g3⟩ := h i (by simp) w
    have ih' := ih w (fun j hj => h j (by simp [hj]))
    simp only [List.forIn_cons, bind_assoc, Sem.run_bind, g1, g2, g3, Result.andThen_ok, List.all_cons]
    cases hc : f i
    · simp
    · simp only [Bool.not_true, Bool.false_eq_true, if_false, pure_bind, Sem.run_bind, Sem.run_pure, Result.andThen_ok, Bool.true_and]
      exact ih'

theorem part_one {t : TypeId} {d : TypeDesc} (hd : P.underlying t = some d) (hs : aggD d = false) {xs : Array Value} {off : Nat} {v : Value}
    (hv : xs[off]? = some v) (w : World) : (part t xs off).run P w = .ok v w := by
  unfold part
  simp only [Sem.run_bind, isAgg_run hd, Result.andThen_ok, hs, Bool.false_eq_true, if_false, hv]
  rfl
theorem part_agg {t : TypeId} {d : TypeDesc} (hd : P.underlying t = some d) (hs : aggD d = true) {i : TypeInfo} (hi : P.info? t = some i) (xs : Array Value) (off : Nat)
    (w : World) : (part t xs off).run P w = .ok (.agg (xs.extract off (off + i.size))) w := by
  unfold part
  simp only [Sem.run_bind, isAgg_run hd, Result.andThen_ok, hs, if_true, sizeOf_run hi, Sem.run_pure]

theorem arR_all (eq : Nat → (Nat → V) → (Nat → V) → Bool × Bool) (sz : Nat) (f g : Nat → V) : ∀ (n i : Nat),
    arR eq sz f g n i = (List.range' i n).all fun k => (eq sz (fun j => f (k * sz + j)) (fun j => g (k * sz + j))).2
  | 0, i => rfl
  | n + 1, i => by simp only [arR, arR_all eq sz f g n (i + 1), List.range'_succ, List.all_cons]
theorem arC_all (eq : Nat → (Nat → V) → (Nat → V) → Bool × Bool) (sz : Nat) (f g : Nat → V) : ∀ (n i : Nat),
    arC eq sz f g n i = (List.range' i n).all fun k => (eq sz (fun j => f (k * sz + j)) (fun j => g (k * sz + j))).1
  | 0, i => rfl
  | n + 1, i => by simp only [arC, arC_all eq sz f g n (i + 1), List.range'_succ, List.all_cons]

theorem eqT_ok : ∀ (d D : Nat), d ≤ D → ∀ t, EqOk P D (eqT P d t) t := by
  intro d
  induction d with
  | zero => intro D _ t m N f g i x y w hi hc; simp [eqT] at hc
  | succ d ih =>
    intro D hD t m N f g i x y w hi hc hN hx hy sx sy off xs ys hxs hys hxs' hys'
    obtain ⟨D, rfl⟩ : ∃ D', D = D' + 1 := ⟨D - 1, by omega⟩
    have ih' := ih D (by omega)
    cases hd : P.underlying t with
    | none => simp [eqT, hd] at hc
    | some ty =>
      cases ty <;> simp only [eqT, hd, Bool.false_eq_true, Bool.and_eq_true, nblt, nble, decide_eq_true_eq, Bool.not_eq_true'] at hc ⊢
      case bool =>
        obtain ⟨h0, h1, h2⟩ := hc
        obtain ⟨u, a1, a2, _⟩ := hx 0 h0
        obtain ⟨v, b1, b2, _⟩ := hy 0 h0
        rw [Array.getElem?_toList] at a1 b1
        refine ⟨u, v, part_one hd rfl (by have := hxs 0 h0; rw [Nat.add_zero] at this; rw [this, a1]) w, part_one hd rfl (by have := hys 0 h0; rw [Nat.add_zero] at this; rw [this, b1]) w, ?_⟩
        rw [isB_VR a2 h1, isB_VR b2 h2, run_equalIn_bool' w D t _ _ hd]
      case int k =>
        obtain ⟨h0, h1, h2⟩ := hc
        obtain ⟨u, a1, a2, _⟩ := hx 0 h0
        obtain ⟨v, b1, b2, _⟩ := hy 0 h0
        rw [Array.getElem?_toList] at a1 b1
        refine ⟨u, v, part_one hd rfl (by have := hxs 0 h0; rw [Nat.add_zero] at this; rw [this, a1]) w, part_one hd rfl (by have := hys 0 h0; rw [Nat.add_zero] at this; rw [this, b1]) w, ?_⟩
        rw [isI_VR a2 h1, isI_VR b2 h2, run_equalIn_int w D t _ _ _ _ hd]
      case string =>
        obtain ⟨h0, h1, h2⟩ := hc
        obtain ⟨u, a1, a2, _⟩ := hx 0 h0
        obtain ⟨v, b1, b2, _⟩ := hy 0 h0
        rw [Array.getElem?_toList] at a1 b1
        refine ⟨u, v, part_one hd rfl (by have := hxs 0 h0; rw [Nat.add_zero] at this; rw [this, a1]) w, part_one hd rfl (by have := hys 0 h0; rw [Nat.add_zero] at this; rw [this, b1]) w, ?_⟩
        rw [isS_VR a2 h1, isS_VR b2 h2, run_equalIn_string w D t _ _ hd, strEq_eq, beq_toListBytes]
      case struct fs =>
        obtain ⟨h0, h1⟩ := hc
        have e1 : xs.extract off (off + i.size) = x := by rw [← hN]; exact extract_eq sx hxs hxs'
        have e2 : ys.extract off (off + i.size) = y := by rw [← hN]; exact extract_eq sy hys hys'
        refine ⟨_, _, part_agg hd rfl hi xs off w, part_agg hd rfl hi ys off w, ?_⟩
        rw [e1, e2]
        have hf : P.fieldsOf t = fs := by simp [Program.fieldsOf, hd]
        rw [run_equalIn_struct w D t x y (by rw [hf]; exact hd) h0, hf]
        exact eqFs_ok ih' hx hy sx sy fs.toList h1 w
      case array n e =>
        have e1 : xs.extract off (off + i.size) = x := by rw [← hN]; exact extract_eq sx hxs hxs'
        have e2 : ys.extract off (off + i.size) = y := by rw [← hN]; exact extract_eq sy hys hys'
        refine ⟨_, _, part_agg hd rfl hi xs off w, part_agg hd rfl hi ys off w, ?_⟩
        rw [e1, e2]
        cases he : P.info? e with
        | none => simp [he] at hc
        | some j =>
          simp only [he, Bool.and_eq_true, nblt, nble, decide_eq_true_eq] at hc ⊢
          obtain ⟨c1, c2, c3⟩ := hc
          rw [arC_all, List.all_eq_true] at c3
          rw [arR_all]
          simp only [Op.equalIn, Sem.run_bind, run_underlying hd, Result.andThen_ok, sizeOf_run he, Std.Legacy.Range.forIn_eq_forIn_range', Std.Legacy.Range.size, Nat.sub_zero, Nat.add_one_sub_one, Nat.div_one]
          have hle : ∀ k, k < n → k * j.size + j.size ≤ N := fun k hk => by
            have : (k + 1) * j.size ≤ n * j.size := Nat.mul_le_mul_right _ hk
            rw [Nat.add_mul, Nat.one_mul] at this
            omega
          have key := arLoop (P := P) (D := D) (e := e) (sz := j.size) (x := x) (y := y) (fun k => (eqT P d e j.size (fun i => f (k * j.size + i)) (fun i => g (k * j.size + i))).2) (List.range' 0 n) w (fun k hk w => by
            have hk' : k < n := by simpa using hk
            obtain ⟨f1, f2⟩ := hx.extract (k * j.size) j.size (hle k hk')
            obtain ⟨f3, f4⟩ := hy.extract (k * j.size) j.size (hle k hk')
            have := hle k hk'
            exact ih' e m j.size _ _ j _ _ w he (c3 k hk) rfl f2 f4 f1 f3 (k * j.size) x y
              (fun i hi' => by rw [Array.getElem?_extract, if_pos (by omega)]) (fun i hi' => by rw [Array.getElem?_extract, if_pos (by omega)]) (by omega) (by omega))
          refine Eq.trans ?_ key
          congr 1
          funext a w'
          obtain ⟨r, _⟩ := a
          cases r <;> rfl

end Go.Ev
