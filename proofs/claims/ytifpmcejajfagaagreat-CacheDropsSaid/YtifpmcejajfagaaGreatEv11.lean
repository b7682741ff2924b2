/- What an operation looks at; values that no store makes; new blocks; loads that stay. -/
import Derived.Test.YtifpmcejajfagaaGreatEv10
import Derived.Orders
set_option linter.all false
namespace Go.Ev
variable [Env]
variable {P : Program} {X : Xt} {call : Cl}

theorem opds_congr {ρ ρ' : Operand → Option V} : ∀ {l : List Operand}, (∀ x ∈ l, ρ x = ρ' x) → opds ρ l = opds ρ' l
  | [], _ => rfl
  | x :: l, h => by
    simp only [opds]
    rw [h x (by simp), opds_congr (l := l) fun y hy => h y (by simp [hy])]
theorem opdParts_congr {ρ ρ' : Operand → Option V} : ∀ {l : List (Nat × Operand)}, (∀ x ∈ l.map (·.2), ρ x = ρ' x) → opdParts ρ l = opdParts ρ' l
  | [], _ => rfl
  | (i, x) :: l, h => by
    simp only [opdParts]
    rw [h x (by simp), opdParts_congr (l := l) fun y hy => h y (by simp [hy])]
theorem opdO_congr {ρ ρ' : Operand → Option V} {x : Option Operand} (h : ∀ y ∈ x.toArray, ρ y = ρ' y) : opdO ρ x = opdO ρ' x := by
  cases x with
  | none => rfl
  | some x => simp only [opdO]; rw [h x (by simp)]
theorem evOp_congr {ρ ρ' : Operand → Option V} {σ : Store} {op : Op} (h : ∀ x ∈ op.operands, ρ x = ρ' x) : evOp P ρ σ op = evOp P ρ' σ op := by
  cases op <;> simp only [Op.operands] at h <;> simp only [evOp]
  case build t ps => rw [opdParts_congr fun x hx => h x (by simpa using hx)]
  case buildSlice t n ps => rw [opdParts_congr fun x hx => h x (by simpa using hx)]
  case makeFunc fn first captured => rw [opds_congr fun x hx => h x (by simpa using Or.inr hx)]
  case makeMap t r => rw [opdO_congr (x := r) fun y hy => h y hy]
  case slice t x lo hi mx =>
    cases mx with
    | some m => rfl
    | none =>
      rw [h x (by simp), opdO_congr (x := lo) fun y hy => h y (by simp at hy ⊢; simp [hy]), opdO_congr (x := hi) fun y hy => h y (by simp at hy ⊢; simp [hy])]
  all_goals (first | rfl | (simp_all; done))
theorem target_congr {ρ ρ' : Operand → Option V} {c : Call} (h : ∀ x ∈ c.operands, ρ x = ρ' x) : target ρ c = target ρ' c := by
  unfold target
  cases hc : c.callee with
  | value f =>
    simp only
    rw [h f (by simp [Call.operands, hc]), opds_congr (l := c.args.toList) fun x hx => h x (by simp [Call.operands, hc, Array.mem_toList_iff.1 hx])]
  | _ => rfl
theorem evOper_congr {ρ ρ' : Operand → Option V} {σ : Store} {o : Oper} {K : Option V → Store → Prop} (h : ∀ x ∈ o.op.operands, ρ x = ρ' x) :
    evOper P X call o ρ σ K → evOper P X call o ρ' σ K := by
  intro hK
  unfold evOper at hK ⊢
  split
  · rename_i c ho
    rw [ho] at h hK
    simp only [Op.operands] at h
    simp only at hK
    split
    · rename_i b hb
      simp only [hb] at hK
      rw [← opds_congr (l := c.args.toList) fun x hx => h x (by simp [Call.operands, Array.mem_toList_iff.1 hx])]
      exact hK
    · rename_i hnb
      rw [← target_congr h]
      split at hK
      · rename_i b hb; exact absurd hb (hnb b)
      · exact hK
  · rename_i c x y ho
    rw [ho] at h hK
    simp only [Op.operands] at h
    simp only at hK
    rw [← h c (by simp), ← h x (by simp), ← h y (by simp)]
    exact hK
  · rename_i x b ho
    rw [ho] at h hK
    simp only [Op.operands] at h
    simp only at hK
    rw [← h x (by simp)]
    exact hK
  · rename_i h1 h2 h3
    split at hK
    · rename_i c ho; exact absurd ho (h1 c)
    · rename_i c x y ho; exact absurd ho (h2 c x y)
    · rename_i x b ho; exact absurd ho (h3 x b)
    · rw [← evOp_congr h]; exact hK
theorem evGuard_congr {ops : List Oper} {o : Oper} {fr fr' : Fr} {yes yes' : Prop} {no no' : Fr → Prop} (hnt : fr.nt = fr'.nt) (h : ∀ t ∈ looks ops o, fr.t.get t = fr'.t.get t)
    (hg : evGuard ops o fr yes no) (hy : yes → yes') (hno : ∀ fr1, fr.put o.dst none = some fr1 → no fr1 → ∀ fr2, fr'.put o.dst none = some fr2 → no' fr2) : evGuard ops o fr' yes' no' := by
  have hput : putK fr o.dst none no → putK fr' o.dst none no' := by
    intro hk
    obtain ⟨fr1, h1, h2⟩ := putK_sound hk
    have : ∃ fr2, fr'.put o.dst none = some fr2 := by
      unfold Fr.put at h1 ⊢
      cases hd : o.dst with
      | none => exact ⟨_, rfl⟩
      | some d =>
        rw [hd] at h1
        simp only at h1 ⊢
        rw [← hnt]
        cases hb : Nat.blt d fr.nt with
        | false => rw [hb] at h1; cases h1
        | true => exact ⟨_, rfl⟩
    obtain ⟨fr2, h3⟩ := this
    unfold putK
    rw [h3]
    exact hno fr1 h1 h2 fr2 h3
  unfold evGuard at hg ⊢
  cases hgu : o.guard with
  | none => rw [hgu] at hg; exact hy hg
  | some jw =>
    obtain ⟨j, want⟩ := jw
    rw [hgu] at hg
    simp only at hg ⊢
    have hyl : yieldedV ops fr' j = yieldedV ops fr j := by
      unfold yieldedV
      cases hd : (ops[j]?).bind (·.dst) with
      | none => rfl
      | some d => simp only [Option.bind_some]; rw [h d (by unfold looks; simp [hgu, hd])]
    rw [hyl]
    split at hg
    · rename_i x hx
      cases hb : (x == want) with
      | true => rw [hb] at hg; exact hy hg
      | false => rw [hb] at hg; exact hput hg
    · exact hput hg
    · exact hg.elim

theorem valRs_extract {x : Option V} {σ : Store} {K : Option V → Store → Prop} (h : rsK (valRs σ x) K) : ∃ v, K (some v) σ ∧ ∀ σ' (K' : Option V → Store → Prop), K' (some v) σ' → rsK (valRs σ' x) K' := by
  cases x with
  | none => exact h.elim
  | some v => exact ⟨v, h, fun σ' K' hk => hk⟩
theorem pureRs_extract {x : Option (Bool × V)} {σ : Store} {K : Option V → Store → Prop} (h : rsK (pureRs σ x) K) : ∃ v, K (some v) σ ∧ ∀ σ' (K' : Option V → Store → Prop), K' (some v) σ' → rsK (pureRs σ' x) K' := by
  cases x with
  | none => exact h.elim
  | some cv =>
    obtain ⟨c, v⟩ := cv
    cases c with
    | false => exact h.elim
    | true => exact ⟨v, h, fun σ' K' hk => hk⟩

theorem pure_extract {o : Oper} {ρ : Operand → Option V} {σ : Store} {K : Option V → Store → Prop} (hp : (match clsP P o.op with | .pure => true | _ => false) = true) (hK : evOper P X call o ρ σ K) :
    ∃ v, K (some v) σ ∧ ∀ σ' (K' : Option V → Store → Prop), K' (some v) σ' → evOper P X call o ρ σ' K' := by
  have hcv : isCvt P o.op = false := by
    cases hc : isCvt P o.op with
    | false => rfl
    | true => unfold clsP at hp; rw [hc] at hp; simp at hp
  have hp : (match clsOf o.op with | .pure => true | _ => false) = true := by
    unfold clsP at hp; rw [hcv] at hp; exact hp
  obtain ⟨dst, op, type, pos, after, guard⟩ := o
  cases op with
  | convert src dst x =>
    unfold evOper at hK ⊢
    simp only [evOp] at hK ⊢
    split at hK
    · rename_i v hv
      have e : ∀ σ, evCvt P src dst v σ = valRs σ (evConvert P src dst v) := fun σ => by
        unfold evCvt
        split
        · rename_i e1 h1 h2
          simp only [isCvt, h1, h2] at hcv
          cases hcv
        · rfl
      simp only [e] at hK ⊢
      exact valRs_extract hK
    · exact hK.elim
  | call c =>
    obtain ⟨callee, args, ats⟩ := c
    cases callee with
    | value f => simp [clsOf] at hp
    | invoke r m => simp [clsOf] at hp
    | builtin b =>
      unfold evOper at hK ⊢
      simp only at hK ⊢
      cases hl : opds ρ args.toList with
      | none => simp only [hl] at hK
      | some l =>
        simp only [hl] at hK ⊢
        generalize ats.toList = ts at hK ⊢
        cases b <;> first | (simp [clsOf] at hp; done) | skip
        case len =>
          rcases ts with _ | ⟨t, ts⟩
          · exact False.elim hK
          · rcases l with _ | ⟨x, _ | ⟨y, l⟩⟩
            · exact False.elim hK
            · exact valRs_extract hK
            · exact False.elim hK
        all_goals
          rcases l with _ | ⟨x, _ | ⟨y, _ | ⟨z, l⟩⟩⟩
          · exact False.elim hK
          · cases x <;> exact False.elim hK
          · cases x <;> first | exact False.elim hK | (cases y <;> first | exact False.elim hK | exact ⟨_, hK, fun _ _ h => h⟩)
          · cases x <;> first | exact False.elim hK | (cases y <;> exact False.elim hK)
  | pick c a b =>
    unfold evOper at hK ⊢
    simp only at hK ⊢
    split at hK
    · rename_i x hx
      cases x with
      | true =>
        simp only [cond_true] at hK ⊢
        split at hK
        · rename_i v hv; exact ⟨v, hK, fun _ _ h => h⟩
        · exact hK.elim
      | false =>
        simp only [cond_false] at hK ⊢
        split at hK
        · rename_i v hv; exact ⟨v, hK, fun _ _ h => h⟩
        · exact hK.elim
    · exact hK.elim
  | makeFunc f first cap =>
    unfold evOper at hK ⊢
    simp only [evOp] at hK ⊢
    cases hb : first.isEmpty with
    | false => rw [hb] at hK; exact hK.elim
    | true =>
      rw [hb] at hK
      simp only [cond_true] at hK ⊢
      split at hK
      · exact ⟨_, hK, fun _ _ h => h⟩
      · exact hK.elim
  | extract t ix =>
    unfold evOper at hK ⊢
    simp only [evOp] at hK ⊢
    split at hK
    · rename_i n f hx
      cases hb : Nat.blt ix n with
      | false => rw [hb] at hK; exact hK.elim
      | true => rw [hb] at hK; exact ⟨_, hK, fun _ _ h => h⟩
    · exact hK.elim
  | _ =>
    first
    | (simp [clsOf] at hp; done)
    | (unfold evOper at hK ⊢
       simp only [evOp] at hK ⊢
       first
       | exact valRs_extract hK
       | (split at hK <;> first | exact hK.elim | exact valRs_extract hK | exact pureRs_extract hK | exact ⟨_, hK, fun _ _ h => h⟩)
       | skip)

theorem alloc_raw {m : M} {w : World} {t : TypeId} {n : Nat} {z : Nat → V} (hz : zeroV P t = some (n, z)) :
    ∃ c : Array Value, (Instr.alloc t true (.tuple #[])).run P w = .ok (.pointer (some ⟨w.heap.size, 0, none⟩)) { w with heap := w.heap.push (.cells c t) } ∧ CR m n (canon n z) c.toList ∧ n ≤ c.size := by
  obtain ⟨i, v, hi, hv, hs, hc⟩ := zeroV_sound hz
  refine ⟨v.cells, ?_, (hc m).congr fun j hj => canon_eq _ _ _ hj, by simp [hs]⟩
  simp only [Instr.alloc, Sem.run_bind, zeroValue_run hi hv, Result.andThen_ok, newVar, newRow_run, Sem.run_pure]
theorem box_raw {m : M} {w : World} {t : TypeId} {v : V} (hs : 0 < v.size) {x : Value} (hx : VR m v x) :
    ∃ c : Array Value, (Instr.box t x).run P w = .ok (.pointer (some ⟨w.heap.size, 0, none⟩)) { w with heap := w.heap.push (.cells c t) } ∧ CR m v.size (canon v.size v.cell) c.toList ∧ v.size ≤ c.size := by
  obtain ⟨e1, e2⟩ := hx.cells hs
  refine ⟨x.cells, ?_, e2.congr fun j hj => canon_eq _ _ _ hj, by simp [e1]⟩
  simp only [Instr.box, Sem.run_bind, newVar, newRow_run, Result.andThen_ok, Sem.run_pure]
/-- what a row's making comes to, in a store that has a name free -/
def RawRow (P : Program) (m : M) (w : World) (σ : Store) (rs : Rs) (run : Sem Value) : Prop :=
  ∃ (k : Blk) (v : V) (r : Value) (c : Array Value), rs = ⟨rs.c, some v, σ.new k⟩ ∧ k.ro = false ∧ run.run P w = .ok r { w with heap := w.heap.push (.cells c k.elem) } ∧ CR m k.n k.get c.toList ∧ k.n ≤ c.size ∧ ZOk k c ∧
    ∀ m' : M, m' σ.nx = some (w.heap.size, c.size) → VR m' v r
theorem buildSlice_raw {m : M} {σ : Store} {w : World} {t : TypeId} {len : Nat} {ps : List (Nat × V)} {rs : Rs} (he : evBuildSlice P t len ps σ = some rs)
    {ps' : Array (Nat × Value)} (hp : PRs m ps ps'.toList) : rs.c = true ∧ RawRow P m w σ rs (Instr.buildSlice t len ps') := by
  unfold evBuildSlice at he
  split at he
  · rename_i e hd
    split at he
    · rename_i i sz z hi hz
      obtain ⟨i', zv, hi', hzv, hsz, hcr⟩ := zeroV_sound hz
      rw [hi] at hi'; cases hi'
      cases hb : (Nat.beq sz i.size && Nat.ble (len * sz) 16777216 && Nat.blt 0 sz) with
      | false => rw [hb] at he; simp at he
      | true =>
        rw [hb] at he
        simp only [cond_true] at he
        simp only [Bool.and_eq_true, nblt, nbeq, nble, decide_eq_true_eq] at hb
        obtain ⟨⟨rfl, h2⟩, h0⟩ := hb
        split at he
        · rename_i g hg
          cases he
          have hzero : ∃ zc : Array Value, (if len * i.size = 0 then pure #[] else do pure (← zeroValue e).cells : Sem (Array Value)).run P w = .ok zc w ∧
              CR m (len * i.size) (repeatV i.size z) ((Array.range (len * i.size)).map (zc[· % zc.size]!)).toList := by
            by_cases hl : len * i.size = 0
            · exact ⟨#[], by rw [if_pos hl]; rfl, fun j hj => by omega⟩
            · exact ⟨zv.cells, by rw [if_neg hl]; simp only [Sem.run_bind, zeroValue_run hi hzv, Result.andThen_ok, Sem.run_pure], repeat_CR (hcr m) hsz h0 _⟩
          obtain ⟨zc, g1, g2⟩ := hzero
          obtain ⟨c', f1, f2, f3⟩ := fill_sound hg hp g2 (by simp)
          refine ⟨rfl, ⟨len * i.size, canon (len * i.size) g, e, false, [], [], none⟩, _, .slice (some ⟨w.heap.size, 0, none⟩) len len, c', rfl, rfl, ?_, f3.congr fun j hj => canon_eq _ _ _ hj, by simp [f2], fun _ hh => (by cases hh), ?_⟩
          · simp only [Instr.buildSlice, Sem.run_bind, run_underlying hd, Result.andThen_ok, sizeOf_run hi]
            rw [if_neg (by omega)]
            by_cases hl : len * i.size = 0
            · rw [if_pos hl] at g1 ⊢
              cases g1
              simp only [Sem.run_bind, Sem.run_pure, Result.andThen_ok, f1, newRow_run]
            · rw [if_neg hl] at g1 ⊢
              simp only [Sem.run_bind, zeroValue_run hi hzv, Result.andThen_ok, Sem.run_pure] at g1
              cases g1
              simp only [Sem.run_bind, zeroValue_run hi hzv, Sem.run_pure, Result.andThen_ok, f1, newRow_run]
          · intro m' hm'
            exact ⟨_, len, hm', rfl, Nat.le_refl _, Nat.le_refl _, fun _ => rfl, fun h => absurd rfl h⟩
        · cases he
    · cases he
  · cases he
theorem makeSlice_raw {m : M} {σ : Store} {w : World} {t : TypeId} {l c : V} {rs : Rs} (he : evMakeSlice P t l c σ = some rs) (hc : rs.c = true)
    {x y : Value} (hx : VR m l x) (hy : VR m c y) : RawRow P m w σ rs (Instr.makeSlice t x y) := by
  unfold evMakeSlice at he
  split at he
  · rename_i e kl l kc c hd
    simp only [VR] at hx hy; subst hx; subst hy
    split at he
    · rename_i i sz z hi hz
      obtain ⟨i', zv, hi', hzv, hsz, hcr⟩ := zeroV_sound hz
      rw [hi] at hi'; cases hi'
      cases hb : (Nat.beq sz i.size && Nat.blt 0 sz) with
      | false => rw [hb] at he; simp at he
      | true =>
        rw [hb] at he
        simp only [cond_true] at he
        simp only [Bool.and_eq_true, nblt, nbeq, nble, decide_eq_true_eq] at hb
        obtain ⟨rfl, h0⟩ := hb
        simp only [Option.some.injEq] at he
        subst he
        simp only [Bool.and_eq_true, decide_eq_true_eq] at hc
        obtain ⟨c0, c1, c2, c3⟩ := hc
        have hwl : IntKind.i64.wrap l = l := by unfold IntKind.wrap; simp [IntKind.bits, IntKind.signed]; omega
        have hwc : IntKind.i64.wrap c = c := by unfold IntKind.wrap; simp [IntKind.bits, IntKind.signed]; omega
        refine ⟨⟨c.toNat * i.size, repeatV i.size z, e, false, [], [], none⟩, _, .slice (some ⟨w.heap.size, 0, none⟩) l.toNat c.toNat,
          (Array.range (c.toNat * i.size)).map ((if c.toNat * i.size = 0 then #[] else zv.cells)[· % (if c.toNat * i.size = 0 then (#[] : Array Value) else zv.cells).size]!), rfl, rfl, ?_, ?_, by simp, fun _ hh => (by cases hh), ?_⟩
        · simp only [Instr.makeSlice, Sem.run_bind, run_underlying hd, Result.andThen_ok, asInt, asIntOf, Sem.run_pure, typeInfo_run hi, sizeOf_run hi, hwl, hwc, run_askRoom]
          have htl : (decide (c < 0) || decide ((i.bytes : Int) * c > 2 ^ 48)) = false := by
            have : (i.bytes : Int) * c = c * i.bytes := Int.mul_comm _ _
            simp only [Bool.or_eq_false_iff, decide_eq_false_iff_not]
            omega
          have hcond : (decide (c < 0) || decide ((i.bytes : Int) * c > 2 ^ 48) || decide (l < 0) || decide (l > c)) = false := by
            rw [htl]; simp; omega
          rw [hcond]
          simp only [Bool.false_eq_true, if_false, Sem.run_bind, run_askRoom, Result.andThen_ok, sizeOf_run hi]
          by_cases hl : c.toNat * i.size = 0
          · simp only [if_pos hl, Sem.run_bind, Sem.run_pure, Result.andThen_ok, newRow_run]
          · simp only [if_neg hl, Sem.run_bind, zeroValue_run hi hzv, Sem.run_pure, Result.andThen_ok, newRow_run]
        · by_cases hl : c.toNat * i.size = 0
          · intro j hj; simp only at hj; omega
          · rw [if_neg hl]; exact repeat_CR (hcr m) hsz h0 _
        · intro m' hm'
          exact ⟨_, c.toNat, hm', rfl, by omega, Nat.le_refl _, fun _ => rfl, fun h => absurd rfl h⟩
    · cases he
  · rename_i e l c hd
    simp only [VR] at hx hy; subst hx; subst hy
    cases hsame : SX.same l c with
    | false => rw [hsame] at he; cases he
    | true =>
      obtain rfl := SX.same_eq hsame
      rw [hsame] at he
      simp only [cond_true] at he
      split at he
      · rename_i i z lo hi hu hi' hz hbnd
        split at he
        · rename_i hz0
          cases hs : Nat.beq i.size 1 with
          | false => rw [hs] at he; cases he
          | true =>
            rw [hs] at he
            rw [nbeq, decide_eq_true_eq] at hs
            simp only [cond_true, Option.some.injEq] at he
            subst he
            simp only [Bool.and_eq_true, decide_eq_true_eq] at hc
            obtain ⟨c0, c1, c2⟩ := hc
            have hb := SX.bnd_sound hbnd
            obtain ⟨cs, r1, r2, r3⟩ := makeSym (w := w) hd hi' hz hz0 hs hb.1 hb.2 c0 c1 c2
            refine ⟨⟨0, fun _ => .junk, e, false, [], [], some l⟩, _, _, cs, rfl, rfl, r1, fun j hj => by simp only at hj; omega, by simp only; omega,
              fun e' he' => (by cases he'; exact ⟨rfl, by omega, r3⟩), fun m' hm' => ⟨_, hm', ?_, by simp only; omega⟩⟩
            simp only [r2]
        · cases he
      · cases he
  · cases he

/-- an operation that makes a block -/
theorem mem_raw {m : M} {w : World} {ρ : Operand → Option V} {a : Act} (hf : RR m ρ a) {name : Nat} {o : Oper} {k : Blk} {v : V} (h : memV P ρ name o.op = some (true, k, v)) :
    ∃ (c : Array Value) (r : Value), (execOp a.eval o).run P w = .ok (.value r) { w with heap := w.heap.push (.cells c k.elem) } ∧ CR m k.n k.get c.toList ∧ k.n ≤ c.size ∧ k.ro = false ∧ ZOk k c ∧
      ∀ m' : M, m' name = some (w.heap.size, c.size) → VR m' v r := by
  obtain ⟨dst, op, type, pos, after, guard⟩ := o
  cases op <;> simp only [memV] at h <;> first | exact absurd h (by simp) | skip
  case alloc t =>
    split at h
    · rename_i n z hz
      cases h
      obtain ⟨c, g1, g2, g3⟩ := alloc_raw (P := P) (m := m) (w := w) hz
      exact ⟨c, _, by simp only [execOp, Sem.run_bind, g1, Result.andThen_ok, Sem.run_pure], g2, g3, rfl, fun _ hh => (by cases hh), fun m' hm' => ⟨_, hm', rfl⟩⟩
    · cases h
  case box t x =>
    split at h
    · rename_i v hv
      cases hs : Nat.blt 0 v.size with
      | false => rw [hs] at h; simp at h
      | true =>
        rw [hs] at h
        simp only [cond_true] at h
        cases h
        obtain ⟨c, g1, g2, g3⟩ := box_raw (P := P) (m := m) (w := w) (t := t) (by simpa [nblt] using hs) (hf _ _ hv)
        exact ⟨c, _, by simp only [execOp, Sem.run_bind, g1, Result.andThen_ok, Sem.run_pure], g2, g3, rfl, fun _ hh => (by cases hh), fun m' hm' => ⟨_, hm', rfl⟩⟩
    · cases h
  case buildSlice t len parts =>
    split at h
    · rename_i ps hps
      split at h
      · rename_i c0 v0 σ0 he
        obtain ⟨hc, k', v', r, c, g0, g1, g2, g3, g4, g6, g5⟩ := buildSlice_raw (w := w) he (ps' := parts.map fun (i, x) => (i, a.eval x)) (by simpa using opdParts_sound hf hps)
        injection g0 with e1 e2 e3
        simp only [Option.some.injEq] at e2
        subst e3
        rw [blk_new] at h
        simp only [if_true, Option.map_some, Option.some.injEq, Prod.mk.injEq] at h
        obtain ⟨_, rfl, rfl⟩ := h
        subst e2
        exact ⟨c, r, by simp only [execOp, Sem.run_bind, g2, Result.andThen_ok, Sem.run_pure], g3, g4, g1, g6, g5⟩
      · cases h
    · cases h
  case makeSlice t l c =>
    split at h
    · rename_i u1 u2 hu1 hu2
      split at h
      · rename_i c0 v0 σ0 he
        have hc0 : c0 = true := by
          cases hb : (σ0.blk name) with
          | none => rw [hb] at h; cases h
          | some kk => rw [hb] at h; simp only [Option.map_some, Option.some.injEq, Prod.mk.injEq] at h; exact h.1
        obtain ⟨k', v', r, c, g0, g1, g2, g3, g4, g6, g5⟩ := makeSlice_raw (w := w) he hc0 (hf _ _ hu1) (hf _ _ hu2)
        injection g0 with e1 e2 e3
        simp only [Option.some.injEq] at e2
        subst e3
        rw [blk_new] at h
        simp only [if_true, Option.map_some, Option.some.injEq, Prod.mk.injEq] at h
        obtain ⟨_, rfl, rfl⟩ := h
        subst e2
        exact ⟨c, r, by simp only [execOp, Sem.run_bind, g2, Result.andThen_ok, Sem.run_pure], g3, g4, g1, g6, g5⟩
      · cases h
    · cases h

def LdOk (P : Program) (t : TypeId) (a v : V) (σ : Store) : Prop :=
  ∃ rs v', evLoad P t a σ = some rs ∧ rs.c = true ∧ rs.v = some v' ∧ ∀ (m : M) u, VR m v' u → VR m v u

theorem partV_congr {t : TypeId} {i : TypeInfo} (hi : P.info? t = some i) {f g : Nat → V} {o : Nat} {c : Bool} {v : V} (h0 : 0 < i.size) (hfg : ∀ j, j < i.size → g (o + j) = f (o + j))
    (h : partV P t f o = some (c, v)) : ∃ v', partV P t g o = some (c, v') ∧ ∀ (m : M) u, VR m v' u → VR m v u := by
  have hone : g o = f o := hfg 0 h0
  have hagg : ∀ (m : M) u, VR m (.agg i.size (canon i.size fun j => g (o + j))) u → VR m (.agg i.size (canon i.size fun j => f (o + j))) u := by
    rintro m u ⟨cs, e1, e2, e3⟩
    refine ⟨cs, e1, e2, fun j hj => ⟨?_, (e3 j hj).2⟩⟩
    have := (e3 j hj).1
    rw [canon_eq _ _ _ (by omega)] at this ⊢
    rw [← hfg j (by omega)]; exact this
  unfold partV at h ⊢
  rw [hi] at h ⊢
  cases hd : P.underlying t with
  | none => rw [hd] at h; simp at h
  | some d =>
    rw [hd] at h
    cases d <;> simp only [hone] at h ⊢ <;> first | exact ⟨v, h, fun _ _ h => h⟩ | (cases h; exact ⟨_, rfl, hagg⟩)

theorem LdOk.untouched {t : TypeId} {a v : V} {m m' : M} {σ σ' : Store} {w w' : World} (h : LdOk P t a v σ) (hS : Sim m σ w) (hk : Keep m σ w m' σ' w') (hu : untouchedV P σ σ' t a = true) : LdOk P t a v σ' := by
  obtain ⟨rs, v', e1, e2, e3, e4⟩ := h
  unfold evLoad at e1
  split at e1
  · rename_i a
    split at e1
    · rename_i k i hkb hi
      cases hp : partV P t k.get a.o with
      | none => rw [hp] at e1; simp at e1
      | some cv =>
        obtain ⟨c, v0⟩ := cv
        rw [hp] at e1
        simp only [Option.map_some, Option.some.injEq] at e1
        subst e1
        simp only [Bool.and_eq_true, nble, nblt, decide_eq_true_eq] at e2
        obtain ⟨hpos, hn, hc⟩ := e2
        simp only [Option.some.injEq] at e3
        subst e3
        unfold untouchedV at hu
        simp only [hi] at hu
        unfold Ev.untouched at hu
        rw [hkb] at hu
        cases hkb' : σ'.blk a.b with
        | none => rw [hkb'] at hu; simp at hu
        | some k' =>
          rw [hkb'] at hu
          simp only at hu
          obtain ⟨r, hr, _⟩ := hS.obj _ _ hkb
          obtain ⟨en, ext, el, eg⟩ := hk.log _ _ _ (hS.dom _ _ hr).1 hkb hkb'
          have hext : (k'.log.take (k'.log.length - k.log.length)) = ext := by
            rw [el]; simp
          rw [hext, List.all_eq_true] at hu
          obtain ⟨v2, g1, g2⟩ := partV_congr hi (f := k.get) (g := k'.get) hpos (fun j hj => eg (a.o + j) (by omega) fun x hx => by
            have := hu x hx
            simp only [nble, Bool.or_eq_true, decide_eq_true_eq] at this
            omega) hp
          refine ⟨⟨Nat.blt 0 i.size && (Nat.ble (a.o + i.size) k'.n && c), some v2, σ'⟩, v2, by simp only [evLoad, hkb', hi, g1, Option.map_some], ?_, rfl, fun m u hv => e4 m u (g2 m u hv)⟩
          simp only [Bool.and_eq_true, nble, nblt, decide_eq_true_eq]
          exact ⟨hpos, by omega, hc⟩
    · cases e1
  · cases e1

theorem LdOk.run {t : TypeId} {a v : V} {m : M} {σ : Store} {w : World} (h : LdOk P t a v σ) (hS : Sim m σ w) {x : Value} (hx : VR m a x) : ∃ r, (Instr.loadAt t x).run P w = .ok r w ∧ VR m v r := by
  obtain ⟨rs, v', e1, e2, e3, e4⟩ := h
  obtain ⟨r, v2, g1, _, g2, g3⟩ := load_sound hS e1 e2 hx
  rw [e3] at g1; cases g1
  exact ⟨r, g2, e4 m r g3⟩

theorem LdOk.of_blk {t : TypeId} {a v : V} {σ σ' : Store} (h : LdOk P t a v σ) (hb : ∀ b k, σ.blk b = some k → σ'.blk b = some k) : LdOk P t a v σ' := by
  obtain ⟨rs, v', e1, e2, e3, e4⟩ := h
  unfold evLoad at e1
  split at e1
  · rename_i a
    split at e1
    · rename_i k i hkb hi
      refine ⟨⟨rs.c, rs.v, σ'⟩, v', ?_, e2, e3, e4⟩
      simp only [evLoad, hb _ _ hkb, hi]
      cases hp : partV P t k.get a.o with
      | none => rw [hp] at e1; simp at e1
      | some cv =>
        rw [hp] at e1
        simp only [Option.map_some, Option.some.injEq] at e1 ⊢
        subst e1; rfl
    · cases e1
  · cases e1
end Go.Ev
