/- Calls that look at no memory: proved once in the empty store, used in every one. -/
import Derived.Test.YtifpmcejajfagaaGreatEv16
set_option linter.all false
namespace Go.Ev
variable [Env]
open Go.RowKit
variable {P : Program}

def allB : Nat → (Nat → Bool) → Bool
  | 0, _ => true
  | n + 1, p => p n && allB n p
theorem allB_spec {p : Nat → Bool} : ∀ {n : Nat}, allB n p = true → ∀ j, j < n → p j = true
  | 0, _, j, h => by omega
  | n + 1, h, j, hj => by
    simp only [allB, Bool.and_eq_true] at h
    by_cases e : j = n
    · subst e; exact h.1
    · exact allB_spec h.2 j (by omega)
/-- no places in it -/
def V.flat : V → Bool
  | .junk | .bo _ | .i _ _ | .s _ | .fl _ _ | .p none | .mp none | .sl none _ _ _ | .nilfn | .nilifc => true
  | .agg n f => allB n fun j => (f j).flat
  | .tup n f => allB n fun j => (f j).flat
  | _ => false
theorem flat_VR {m m' : M} : ∀ {v : V} {w : Value}, v.flat = true → VR m v w → VR m' v w := by
  intro v
  induction v with
  | p a => intro w hf h; cases a with
    | none => exact h
    | some a => simp [V.flat] at hf
  | sl a l c z => intro w hf h; cases a with
    | none => exact h
    | some a => simp [V.flat] at hf
  | mp r => intro w hf h; cases r with
    | none => exact h
    | some a => simp [V.flat] at hf
  | agg n f ih =>
    intro w hf h
    obtain ⟨cs, h1, h2, h3⟩ := h
    simp only [V.flat] at hf
    exact ⟨cs, h1, h2, fun j hj => ⟨ih j (allB_spec hf j (by omega)) (h3 j hj).1, (h3 j hj).2⟩⟩
  | tup n f ih =>
    intro w hf h
    obtain ⟨cs, h1, h2, h3⟩ := h
    simp only [V.flat] at hf
    exact ⟨cs, h1, h2, fun j hj => ih j (allB_spec hf j (by omega)) (h3 j hj)⟩
  | _ => intro w hf h; first | exact h | (simp [V.flat] at hf; done)
theorem flats_VR {m m' : M} : ∀ {l : List V} {l' : List Value}, l.all V.flat = true → VRs m l l' → VRs m' l l'
  | [], [], _, _ => trivial
  | [], _ :: _, _, h => h.elim
  | _ :: _, [], _, h => h.elim
  | v :: l, w :: l', hf, h => by
    simp only [List.all_cons, Bool.and_eq_true] at hf
    exact ⟨flat_VR hf.1 h.1, flats_VR hf.2 h.2⟩

theorem sim_old {m : M} {σ : Store} {w w' : World} (h : Sim m σ w) (hs : w.heap.size ≤ w'.heap.size) (ho : ∀ i, i < w.heap.size → w'.heap[i]? = w.heap[i]?) : Sim m σ w' where
  dom := fun b r hb => ⟨(h.dom b r hb).1, Nat.lt_of_lt_of_le (h.dom b r hb).2 hs⟩
  obj := fun b k hb => let ⟨r, hr, hB⟩ := h.obj b k hb; ⟨r, hr, by rw [ho _ (h.dom b r hr).2]; exact hB⟩
  inj := h.inj
  one := fun b x hb => let ⟨r, hr, hB⟩ := h.one b x hb; ⟨r, hr, by rw [ho _ (h.dom b r hr).2]; exact hB⟩
  oinj := h.oinj
  fact := h.fact

def leS : V → V → Bool
  | .p none, .p none => true
  | .mp none, .mp none => true
  | .sl none l c z, .sl none l' c' z' => Nat.beq l l' && (Nat.beq c c' && Nat.beq z z')
  | .nilfn, .nilfn => true
  | .nilifc, .nilifc => true
  | a, b => match keyEq a b with
    | some x => x
    | none => false
/-- the same, as far as can be seen -/
def leV : V → V → Bool
  | .agg n f, b => match b with
    | .agg n' g => Nat.beq n n' && allB n fun j => leV (f j) (g j)
    | _ => false
  | .tup n f, b => match b with
    | .tup n' g => Nat.beq n n' && allB n fun j => leV (f j) (g j)
    | _ => false
  | a, b => leS a b
def leVs : List V → List V → Bool
  | [], [] => true
  | a :: l, b :: l' => leV a b && leVs l l'
  | _, _ => false
theorem keyEq_eq {a b : V} (h : keyEq a b = some true) : a = b := by
  cases a <;> cases b <;> simp only [keyEq] at h <;> first | (simp at h; done) | skip
  · rename_i p q; cases p <;> cases q <;> simp at h <;> rfl
  · rename_i j p j' q
    cases hj : kindEq j j' with
    | false => rw [hj] at h; cases h
    | true =>
      rw [hj] at h
      simp only [cond_true, Option.some.injEq, decide_eq_true_eq] at h
      rw [kindEq_eq.1 hj, h]
  · rename_i p q
    simp only [Option.some.injEq] at h
    rw [strEq_eq, beq_toListBytes, ByteArray.toList_eq, ByteArray.toList_eq] at h
    have e1 : p.data.toList = q.data.toList := by simpa using h
    have e2 : p = q := by
      cases p; cases q
      simp only [ByteArray.mk.injEq]
      exact Array.toList_inj.1 e1
    rw [e2]
  · rename_i j p j' q
    cases hj : (kindEq j j' && SX.same p q) with
    | false => rw [hj] at h; cases h
    | true =>
      simp only [Bool.and_eq_true] at hj
      rw [kindEq_eq.1 hj.1, SX.same_eq hj.2]
theorem leS_eq {a b : V} (h : leS a b = true) : a = b := by
  unfold leS at h
  split at h
  · rfl
  · rfl
  · simp only [Bool.and_eq_true, nbeq, decide_eq_true_eq] at h
    obtain ⟨rfl, rfl, rfl⟩ := h; rfl
  · rfl
  · rfl
  · split at h
    · rename_i x hx; subst h; exact keyEq_eq hx
    · cases h
theorem leV_VR {m : M} : ∀ {a b : V} {w : Value}, leV a b = true → VR m b w → VR m a w := by
  intro a
  induction a with
  | agg n f ih =>
    intro b w h hb
    cases b with
    | agg n' g =>
      simp only [leV] at h
      simp only [Bool.and_eq_true, nbeq, decide_eq_true_eq] at h
      obtain ⟨rfl, h⟩ := h
      obtain ⟨cs, h1, h2, h3⟩ := hb
      exact ⟨cs, h1, h2, fun j hj => ⟨ih j (allB_spec h j (by omega)) (h3 j hj).1, (h3 j hj).2⟩⟩
    | _ => exact absurd h (by simp [leV])
  | tup n f ih =>
    intro b w h hb
    cases b with
    | tup n' g =>
      simp only [leV] at h
      simp only [Bool.and_eq_true, nbeq, decide_eq_true_eq] at h
      obtain ⟨rfl, h⟩ := h
      obtain ⟨cs, h1, h2, h3⟩ := hb
      exact ⟨cs, h1, h2, fun j hj => ih j (allB_spec h j (by omega)) (h3 j hj)⟩
    | _ => exact absurd h (by simp [leV])
  | _ => intro b w h hb; simp only [leV] at h; rw [leS_eq h]; exact hb
theorem leVs_VR {m : M} : ∀ {a b : List V} {l : List Value}, leVs a b = true → VRs m b l → VRs m a l
  | [], [], _, _, h => h
  | [], _ :: _, _, h, _ => by cases h
  | _ :: _, [], _, h, _ => by cases h
  | a :: l, b :: l', [], _, h => h.elim
  | a :: l, b :: l', w :: ws, h, hb => by
    simp only [leVs, Bool.and_eq_true] at h
    exact ⟨leV_VR h.1 hb.1, leVs_VR h.2 hb.2⟩
theorem pure_call {f : FuncId} {args : List V} {c : V} (h : SemCall P f args s0 fun v _ => leV c v = true) (ha : args.all V.flat = true) (hc : c.flat = true) {σ : Store} {K : V → Store → Prop} (hk : K c σ) : SemCall P f args σ K := by
  intro m w args' hargs hS
  refine (h m0 w args' (flats_VR ha hargs) (sim_s0 w)).mono ?_
  rintro e w' ⟨v, r, m', σ', hv0, rfl, hv, _, hK⟩
  have hb := below_of_keep hK
  exact ⟨_, r, m, σ, hk, rfl, flat_VR hc (leV_VR hv0 hv), sim_old hS hb.size hb.block, ⟨M.le_refl m, hb.os, hb.tape, hb.output, hb.size, fun i hi _ => hb.block i hi, fun _ _ h => h, Nat.le_refl _, fun _ _ => rfl,
    fun b k k' _ h h' => by rw [h] at h'; cases h'; exact ⟨rfl, [], rfl, fun _ _ _ => rfl⟩, fun _ _ h => h, fun _ _ h => h⟩⟩
def memoT : List (List V × V) → List V → Store → (V → Store → Prop) → Prop
  | [], _, _, _ => False
  | (a, c) :: l, args, σ, K => cond (leVs a args) (K c σ) (memoT l args σ K)
def MemoOk (P : Program) (f : FuncId) (tab : List (List V × V)) : Prop :=
  ∀ a c, (a, c) ∈ tab → SemCall P f a s0 (fun v _ => leV c v = true) ∧ a.all V.flat = true ∧ c.flat = true
theorem memo_sound {f : FuncId} : ∀ {tab : List (List V × V)} {args : List V} {σ : Store} {K : V → Store → Prop}, MemoOk P f tab → memoT tab args σ K → SemCall P f args σ K
  | [], _, _, _, _, h => h.elim
  | (a, c) :: l, args, σ, K, hok, h => by
    simp only [memoT] at h
    cases he : leVs a args with
    | true =>
      rw [he] at h
      obtain ⟨h1, h2, h3⟩ := hok a c (List.mem_cons_self ..)
      intro m w args' hargs hS
      exact pure_call h1 h2 h3 h m w args' (leVs_VR he hargs) hS
    | false => rw [he] at h; exact memo_sound (fun a c hm => hok a c (List.mem_cons_of_mem _ hm)) h
end Go.Ev
