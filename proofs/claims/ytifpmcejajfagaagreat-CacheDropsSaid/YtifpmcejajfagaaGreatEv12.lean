/- A region whose order is open: its edges, its order, its temporaries. -/
import Derived.Test.YtifpmcejajfagaaGreatEv11
set_option linter.all false
namespace Go.Ev
variable [Env]

def Pre (ops : List Oper) (i j : Nat) : Prop := ∃ o, ops[i]? = some o ∧ j ∈ predsOf o
inductive Reach (ops : List Oper) : Nat → Nat → Prop
  | one {i j} : Pre ops i j → Reach ops i j
  | step {i d j} : Pre ops i d → Reach ops d j → Reach ops i j

theorem Reach.mem {ops : List Oper} {S : Nat → Prop} (hS : ∀ i j, S i → Pre ops i j → S j) {i j : Nat} (h : Reach ops i j) : (∀ j, Pre ops i j → S j) → S j := by
  induction h with
  | one h => intro hp; exact hp _ h
  | step h _ ih => intro hp; exact ih fun j hj => hS _ _ (hp _ h) hj

theorem bit1 (d j : Nat) : (1 <<< d).testBit j = decide (d = j) := by rw [Nat.one_shiftLeft, Nat.testBit_two_pow]

theorem maskOf_spec {masks : List Nat} : ∀ {l : List Nat} {j : Nat}, (maskOf masks l).testBit j = true → ∃ d ∈ l, j = d ∨ (masks.getD d 0).testBit j = true
  | [], j, h => by simp [maskOf] at h
  | d :: l, j, h => by
    simp only [maskOf, Nat.testBit_or, Bool.or_eq_true] at h
    rcases h with h | h | h
    · rw [bit1, decide_eq_true_eq] at h; exact ⟨d, by simp, .inl h.symm⟩
    · exact ⟨d, by simp, .inr h⟩
    · obtain ⟨d', h1, h2⟩ := maskOf_spec h; exact ⟨d', by simp [h1], h2⟩

theorem masksOf_spec {ops : List Oper} : ∀ (l : List Oper) (acc : List Nat) (pre : List Oper), ops = pre ++ l → acc.length = pre.length →
    (∀ i j, (acc.getD i 0).testBit j = true → Reach ops i j) → ∀ i j, ((masksOf l acc).getD i 0).testBit j = true → Reach ops i j
  | [], acc, pre, _, _, h3, i, j, h => h3 i j h
  | o :: l, acc, pre, h1, h2, h3, i, j, h => by
    simp only [masksOf] at h
    refine masksOf_spec l _ (pre ++ [o]) (by simp [h1]) (by simp [h2]) ?_ i j h
    intro i j hij
    rw [List.getD_eq_getElem?_getD] at hij
    by_cases e1 : i < acc.length
    · rw [List.getElem?_append_left e1, ← List.getD_eq_getElem?_getD] at hij; exact h3 i j hij
    · rw [List.getElem?_append_right (by omega)] at hij
      by_cases e2 : i - acc.length = 0
      · rw [e2] at hij
        simp only [List.getElem?_cons_zero, Option.getD_some] at hij
        obtain ⟨d, h4, h5⟩ := maskOf_spec hij
        have ho : ops[i]? = some o := by
          rw [h1, List.getElem?_append_right (by omega)]
          have : i - pre.length = 0 := by omega
          rw [this]; rfl
        rcases h5 with rfl | h5
        · exact .one ⟨o, ho, h4⟩
        · exact .step ⟨o, ho, h4⟩ (h3 _ _ h5)
      · have : ([maskOf acc (predsOf o)] : List Nat)[i - acc.length]? = none := by
          rw [List.getElem?_eq_none_iff]; simp; omega
        rw [this] at hij
        simp at hij
theorem masks_reach {ops : List Oper} {i j : Nat} (h : ((masksOf ops []).getD i 0).testBit j = true) : Reach ops i j :=
  masksOf_spec ops [] [] rfl rfl (by simp) i j h

theorem ordOk_cons {P : Program} {ops : List Oper} {masks : List Nat} {i : Nat} {l : List Nat} {seen : Nat} (h : ordOk P ops masks (i :: l) seen = true) :
    ∃ o, ops[i]? = some o ∧ seen.testBit i = false ∧ (∀ j, (masks.getD i 0).testBit j = true → seen.testBit j = true) ∧ (isEff P o = true → ∀ j ∈ l, (masks.getD j 0).testBit i = true) ∧
      ordOk P ops masks l (seen ||| (1 <<< i)) = true := by
  simp only [ordOk] at h
  cases ho : ops[i]? with
  | none => rw [ho] at h; cases h
  | some o =>
    rw [ho] at h
    simp only [Bool.and_eq_true, Bool.not_eq_true', Bool.or_eq_true, List.all_eq_true, nbeq, decide_eq_true_eq] at h
    obtain ⟨h1, h2, h3, h4⟩ := h
    refine ⟨o, rfl, h1, fun j hj => ?_, fun he j hj => ?_, h4⟩
    · rw [← h2, Nat.testBit_and, Bool.and_eq_true] at hj; exact hj.2
    · rcases h3 with h3 | h3
      · rw [he] at h3; cases h3
      · exact h3 j hj

theorem seen_or {seen i j : Nat} : (seen ||| (1 <<< i)).testBit j = true ↔ seen.testBit j = true ∨ j = i := by
  rw [Nat.testBit_or, bit1, Bool.or_eq_true, decide_eq_true_eq]
  constructor
  · rintro (h | h); exact .inl h; exact .inr h.symm
  · rintro (h | h); exact .inl h; exact .inr h.symm
theorem ordOk_all {P : Program} {ops : List Oper} {masks : List Nat} : ∀ {l : List Nat} {seen : Nat}, ordOk P ops masks l seen = true → ∀ i, i < ops.length → seen.testBit i = true ∨ i ∈ l
  | [], seen, h, i, hi => by
    simp only [ordOk, nbeq, decide_eq_true_eq] at h
    left; rw [h, Nat.testBit_two_pow_sub_one]; simpa using hi
  | j :: l, seen, h, i, hi => by
    obtain ⟨o, _, _, _, _, h5⟩ := ordOk_cons h
    rcases ordOk_all h5 i hi with h6 | h6
    · rcases seen_or.1 h6 with h7 | rfl
      · exact .inl h7
      · exact .inr (by simp)
    · exact .inr (by simp [h6])
theorem tmpsApart_spec {ops : List Oper} {masks : List Nat} {i : Nat} {d : Tmp} : ∀ {l : List Oper} {n : Nat}, tmpsApart ops masks i d l n = true → ∀ k o, l[k]? = some o → n + k ≠ i →
    o.dst ≠ some d ∧ (d ∈ looks ops o → (masks.getD (n + k) 0).testBit i = true ∨ (masks.getD i 0).testBit (n + k) = true)
  | [], _, _, k, o, hk, _ => by simp at hk
  | x :: l, n, h, k, o, hk, hne => by
    simp only [tmpsApart, Bool.and_eq_true, Bool.or_eq_true, nbeq, decide_eq_true_eq, Bool.not_eq_true'] at h
    obtain ⟨h1, h2⟩ := h
    cases k with
    | zero =>
      simp only [List.getElem?_cons_zero, Option.some.injEq] at hk
      subst hk
      rcases h1 with h1 | ⟨h1, h3⟩
      · exact absurd h1.symm hne
      · refine ⟨by simpa using h1, fun hl => ?_⟩
        rcases h3 with h3 | h3
        · have : (looks ops x).contains d = true := by simpa using hl
          rw [this] at h3; cases h3
        · exact h3
    | succ k =>
      simp only [List.getElem?_cons_succ] at hk
      have := tmpsApart_spec h2 k o hk (by omega)
      rw [show n + (k + 1) = n + 1 + k by omega]
      exact this
theorem tmpsOk_spec {ops : List Oper} {masks : List Nat} : ∀ {l : List Oper} {n : Nat}, tmpsOk ops masks l n = true → ∀ k o d, l[k]? = some o → o.dst = some d →
    tmpsApart ops masks (n + k) d ops 0 = true ∧ d ∉ looks ops o
  | [], _, _, k, o, d, hk, _ => by simp at hk
  | x :: l, n, h, k, o, d, hk, hd => by
    simp only [tmpsOk, Bool.and_eq_true] at h
    obtain ⟨h1, h2⟩ := h
    cases k with
    | zero =>
      simp only [List.getElem?_cons_zero, Option.some.injEq] at hk
      subst hk
      rw [hd] at h1
      simp only [Bool.and_eq_true, Bool.not_eq_true'] at h1
      exact ⟨h1.1, fun hl => by
        have : (looks ops x).contains d = true := by simpa using hl
        rw [this] at h1; exact absurd h1.2 (by simp)⟩
    | succ k =>
      simp only [List.getElem?_cons_succ] at hk
      have := tmpsOk_spec h2 k o d hk hd
      rw [show n + (k + 1) = n + 1 + k by omega]
      exact this

def dstOf (ops : List Oper) (i : Nat) : Option Tmp := (ops[i]?).bind (·.dst)
structure Tmps (ops : List Oper) (masks : List Nat) : Prop where
  one : ∀ i j d, dstOf ops i = some d → dstOf ops j = some d → i = j
  looks : ∀ i j o d, dstOf ops i = some d → ops[j]? = some o → d ∈ looks ops o → (masks.getD j 0).testBit i = true ∨ (masks.getD i 0).testBit j = true
theorem tmps_of {ops : List Oper} {masks : List Nat} (h : tmpsOk ops masks ops 0 = true) : Tmps ops masks := by
  have dst : ∀ i d, dstOf ops i = some d → ∃ o, ops[i]? = some o ∧ o.dst = some d := fun i d hd => by
    unfold dstOf at hd
    cases ho : ops[i]? with
    | none => rw [ho] at hd; cases hd
    | some o => rw [ho] at hd; exact ⟨o, rfl, hd⟩
  have apart : ∀ i d, dstOf ops i = some d → tmpsApart ops masks i d ops 0 = true ∧ ∀ o, ops[i]? = some o → d ∉ Ev.looks ops o := fun i d hd => by
    obtain ⟨o, h1, h2⟩ := dst i d hd
    have := tmpsOk_spec h i o d h1 h2
    rw [Nat.zero_add] at this
    exact ⟨this.1, fun o' ho' => by rw [h1] at ho'; cases ho'; exact this.2⟩
  constructor
  · intro i j d hi hj
    by_cases e : j = i
    · exact e.symm
    · obtain ⟨o, h1, h2⟩ := dst j d hj
      exact absurd h2 (tmpsApart_spec (apart i d hi).1 j o h1 (by omega)).1
  · intro i j o d hi ho hl
    by_cases e : j = i
    · subst e; exact absurd hl ((apart j d hi).2 o ho)
    · have := (tmpsApart_spec (apart i d hi).1 j o ho (by omega)).2 hl
      rw [Nat.zero_add] at this; exact this

theorem backOk_spec : ∀ {l : List Oper} {n : Nat}, backOk l n = true → ∀ k o d, l[k]? = some o → d ∈ predsOf o → d < n + k
  | [], _, _, k, o, d, hk, _ => by simp at hk
  | x :: l, n, h, k, o, d, hk, hd => by
    simp only [backOk, Bool.and_eq_true, List.all_eq_true] at h
    obtain ⟨h1, h2⟩ := h
    cases k with
    | zero =>
      simp only [List.getElem?_cons_zero, Option.some.injEq] at hk
      subst hk
      have := h1 d hd
      rw [nblt, decide_eq_true_eq] at this; exact this
    | succ k =>
      simp only [List.getElem?_cons_succ] at hk
      have := backOk_spec h2 k o d hk hd
      omega

theorem mem_of_clsP {P : Program} {op : Op} (h : clsP P op = .mem) : clsOf op = .mem := by
  unfold clsP at h
  cases hc : isCvt P op with
  | false => rw [hc] at h; exact h
  | true => rw [hc] at h; cases h
/-- the names of new blocks -/
theorem memNo_le : ∀ (l : List Oper) (i : Nat), memNo l i ≤ memNo l l.length
  | [], i => by cases i <;> simp [memNo]
  | o :: l, 0 => by simp [memNo]
  | o :: l, i + 1 => by
    have := memNo_le l i
    simp only [memNo, List.length_cons]
    cases isMemOp o <;> simp <;> omega
theorem memNo_lt : ∀ (l : List Oper) (i j : Nat) (o : Oper), l[i]? = some o → isMemOp o = true → i < j → memNo l i < memNo l j
  | [], i, j, o, h, _, _ => by simp at h
  | x :: l, i, j, o, h, hm, hij => by
    cases j with
    | zero => omega
    | succ j =>
      cases i with
      | zero =>
        simp only [List.getElem?_cons_zero, Option.some.injEq] at h
        subst h
        simp only [memNo, hm, cond_true]; omega
      | succ i =>
        simp only [List.getElem?_cons_succ] at h
        have := memNo_lt l i j o h hm (by omega)
        simp only [memNo]
        cases isMemOp x <;> simp <;> omega
def MemAt (ops : List Oper) (i : Nat) : Prop := ∃ o, ops[i]? = some o ∧ isMemOp o = true
theorem memNo_inj {ops : List Oper} {i j : Nat} (hi : MemAt ops i) (hj : MemAt ops j) (h : memNo ops i = memNo ops j) : i = j := by
  obtain ⟨o, h1, h2⟩ := hi
  obtain ⟨o', h3, h4⟩ := hj
  rcases Nat.lt_trichotomy i j with e | e | e
  · have := memNo_lt ops i j o h1 h2 e; omega
  · exact e
  · have := memNo_lt ops j i o' h3 h4 e; omega
theorem memNo_len {ops : List Oper} {i : Nat} (hi : MemAt ops i) : memNo ops i < memNo ops ops.length := by
  obtain ⟨o, h1, h2⟩ := hi
  exact memNo_lt ops i _ o h1 h2 (List.getElem?_eq_some_iff.1 h1).1

/-- ready: what it needs is listed -/
theorem pre_ready {ops : List Oper} {listed : Array Bool} {i : Nat} (h : i ∈ Region.ready .any ops.toArray listed) :
    listed.getD i true = false ∧ (∃ o, ops[i]? = some o) ∧ ∀ j, Pre ops i j → listed.getD j false = true := by
  obtain ⟨h1, o, h2, h3⟩ := mem_ready.1 h
  have h2' : ops[i]? = some o := by simpa using h2
  refine ⟨h1, ⟨o, h2'⟩, ?_⟩
  rintro j ⟨o', h4, h5⟩
  rw [h2'] at h4; cases h4
  unfold predsOf at h5
  obtain ⟨e, h6, h7⟩ := List.mem_filterMap.1 h5
  cases hb : bindsAny e with
  | false => rw [hb] at h7; cases h7
  | true =>
    rw [hb] at h7
    simp only [cond_true, Option.some.injEq] at h7
    subst h7
    refine h3 e (Array.mem_toList_iff.1 h6) ?_
    unfold bindsAny at hb
    unfold Region.binds
    cases hg : e.ground <;> rw [hg] at hb <;> simp_all
theorem ready_pre {ops : List Oper} {listed : Array Bool} {i : Nat} {o : Oper} (h1 : listed.getD i true = false) (h2 : ops[i]? = some o) (h3 : ∀ j ∈ predsOf o, listed.getD j false = true) :
    i ∈ Region.ready .any ops.toArray listed := by
  refine mem_ready.2 ⟨h1, o, by simpa using h2, fun e he hb => h3 e.on ?_⟩
  unfold predsOf
  refine List.mem_filterMap.2 ⟨e, Array.mem_toList_iff.2 he, ?_⟩
  have : bindsAny e = true := by
    unfold Region.binds at hb
    unfold bindsAny
    cases hg : e.ground <;> rw [hg] at hb <;> simp_all
  rw [this]; rfl
theorem all_listed {ops : List Oper} {listed : Array Bool} (hb : backOk ops 0 = true) (hs : listed.size = ops.length) (hr : Region.ready .any ops.toArray listed = []) : ∀ i, i < ops.length → listed.getD i false = true := by
  intro i
  induction i using Nat.strongRecOn with
  | ind i ih =>
    intro hi
    cases hl : listed.getD i true with
    | true =>
      rw [Array.getD_eq_getD_getElem?] at hl ⊢
      have : i < listed.size := by omega
      simp_all
    | false =>
      have hm : i ∈ Region.ready .any ops.toArray listed := by
        refine ready_pre hl (o := ops[i]) (by simp [hi]) fun j hj => ?_
        have := backOk_spec hb i ops[i] j (by simp [hi]) hj
        exact ih j (by omega) (by omega)
      rw [hr] at hm; simp at hm
end Go.Ev
