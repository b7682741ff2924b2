/- The evaluator for the kernel: operations, code, functions; it is the evaluator. -/
import Derived.Test.YtifpmcejajfagaaGreatEv18
set_option linter.all false
namespace Go.Ev
variable (P : Program)

theorem le_bits {k : IntKind} {m : Nat} (h : m ≤ intMaxN k) : m < 2 ^ k.bits := by
  cases k <;> simp only [intMaxN] at h <;> simp only [IntKind.bits] <;> omega
theorem wrap_small {k : IntKind} {m : Nat} (h : m ≤ intMaxN k) : k.wrap (m : Int) = m := by
  have := wrapF_eq k (.ofNat m)
  simp only [wrapF, nble, h, decide_true, cond_true] at this
  exact this.symm
theorem ofInt_toNat {n m : Nat} (h : m < 2 ^ n) : (BitVec.ofInt n (m : Int)).toNat = m := by
  rw [BitVec.ofInt_natCast, BitVec.toNat_ofNat, Nat.mod_eq_of_lt h]
def andF (k : IntKind) (a b : Int) : Int :=
  match a, b with
  | .ofNat a, .ofNat b => bif Nat.ble a (intMaxN k) && Nat.ble b (intMaxN k) then .ofNat (Nat.land a b) else iand k (.ofNat a) (.ofNat b)
  | a, b => iand k a b
def orF (k : IntKind) (a b : Int) : Int :=
  match a, b with
  | .ofNat a, .ofNat b => bif Nat.ble a (intMaxN k) && (Nat.ble b (intMaxN k) && Nat.ble (Nat.lor a b) (intMaxN k)) then .ofNat (Nat.lor a b) else ior k (.ofNat a) (.ofNat b)
  | a, b => ior k a b
def shlF (k : IntKind) (a b : Int) : Int :=
  match a, b with
  | .ofNat a, .ofNat b => wrapF k (.ofNat (Nat.mul a (Nat.pow 2 (bif Nat.ble b k.bits then b else k.bits))))
  | a, b => ishl k a b
def shrF (k : IntKind) (a b : Int) : Int :=
  match a, b with
  | .ofNat a, .ofNat b => .ofNat (Nat.div a (Nat.pow 2 (bif Nat.ble b k.bits then b else k.bits)))
  | a, b => ishr k a b
theorem andF_eq (k : IntKind) (a b : Int) : andF k a b = iand k a b := by
  cases a with
  | negSucc a => rfl
  | ofNat a => cases b with
    | negSucc b => rfl
    | ofNat b =>
      simp only [andF]
      cases hc : (Nat.ble a (intMaxN k) && Nat.ble b (intMaxN k)) with
      | false => rfl
      | true =>
        simp only [Bool.and_eq_true, nble, decide_eq_true_eq] at hc
        simp only [cond_true, iand, Int.ofNat_eq_natCast]
        rw [BitVec.toNat_and, ofInt_toNat (le_bits hc.1), ofInt_toNat (le_bits hc.2)]
        have : a &&& b ≤ intMaxN k := Nat.le_trans Nat.and_le_left hc.1
        exact (wrap_small this).symm
theorem orF_eq (k : IntKind) (a b : Int) : orF k a b = ior k a b := by
  cases a with
  | negSucc a => rfl
  | ofNat a => cases b with
    | negSucc b => rfl
    | ofNat b =>
      simp only [orF]
      cases hc : (Nat.ble a (intMaxN k) && (Nat.ble b (intMaxN k) && Nat.ble (Nat.lor a b) (intMaxN k))) with
      | false => rfl
      | true =>
        simp only [Bool.and_eq_true, nble, decide_eq_true_eq] at hc
        simp only [cond_true, ior, Int.ofNat_eq_natCast]
        rw [BitVec.toNat_or, ofInt_toNat (le_bits hc.1), ofInt_toNat (le_bits hc.2.1)]
        exact (wrap_small hc.2.2).symm
theorem min_bits (b n : Nat) : (bif Nat.ble b n then b else n) = min b n := by
  simp only [nble]
  by_cases h : b ≤ n
  · simp [h]
  · simp [h]; omega
theorem shlF_eq (k : IntKind) (a b : Int) : shlF k a b = ishl k a b := by
  cases a with
  | negSucc a => rfl
  | ofNat a => cases b with
    | negSucc b => rfl
    | ofNat b =>
      simp only [shlF, ishl, wrapF_eq, min_bits]
      congr 1
theorem shrF_eq (k : IntKind) (a b : Int) : shrF k a b = ishr k a b := by
  cases a with
  | negSucc a => rfl
  | ofNat a => cases b with
    | negSucc b => rfl
    | ofNat b =>
      simp only [shrF, ishr, min_bits]
      show Int.ofNat (a / 2 ^ min b k.bits) = Int.fdiv (a : Int) (2 ^ min b k.bits)
      rw [Int.fdiv_eq_ediv_of_nonneg _ (by exact Int.pow_nonneg (by omega))]
      norm_cast

theorem not_lt_dec (a b : Int) : (!decide (a < b)) = decide (b ≤ a) := by
  by_cases h : a < b
  · simp [h]
  · simp [h]; omega
/-- an operation of two, where both are numbers; else as before -/
noncomputable def binG (op : BinOp) (t : TypeId) (f : IntKind → Int → Int → V) (x y : CV) : CO :=
  ⟨fun fr σ K => match x.get fr with
    | some (.i k a) => (match y.get fr with
      | some (.i k' b) => cond (kindEq k k') (K (some (f k a b)) σ) False
      | some y => rsK (pureRs σ (evBin P op t (.i k a) y)) K
      | none => False)
    | some x => (match y.get fr with
      | some y => rsK (pureRs σ (evBin P op t x y)) K
      | none => False)
    | none => False⟩
noncomputable def binS (op : BinOp) (t : TypeId) (f : IntKind → Int → Int → V) (x y : CV) : CO :=
  ⟨fun fr σ K => match x.get fr with
    | some (.i k a) => (match y.get fr with
      | some (.i k' b) => cond (ltF b 0) False (K (some (f k a b)) σ)
      | some y => rsK (pureRs σ (evBin P op t (.i k a) y)) K
      | none => False)
    | some x => (match y.get fr with
      | some y => rsK (pureRs σ (evBin P op t x y)) K
      | none => False)
    | none => False⟩
noncomputable def binO (op : BinOp) (t : TypeId) (x y : CV) : CO :=
  ⟨fun fr σ K => match x.get fr with
    | some x => (match y.get fr with
      | some y => rsK (pureRs σ (evBin P op t x y)) K
      | none => False)
    | none => False⟩
noncomputable def binF (op : BinOp) (t : TypeId) (x y : CV) : CO :=
  match op with
  | .add => binG P .add t (fun k a b => .i k (wrapF k (addF a b))) x y
  | .sub => binG P .sub t (fun k a b => .i k (wrapF k (subF a b))) x y
  | .and => binG P .and t (fun k a b => .i k (andF k a b)) x y
  | .or => binG P .or t (fun k a b => .i k (orF k a b)) x y
  | .eql => binG P .eql t (fun _ a b => .bo (eqF a b)) x y
  | .neq => binG P .neq t (fun _ a b => .bo (!(eqF a b))) x y
  | .lss => binG P .lss t (fun _ a b => .bo (ltF a b)) x y
  | .leq => binG P .leq t (fun _ a b => .bo (!(ltF b a))) x y
  | .gtr => binG P .gtr t (fun _ a b => .bo (ltF b a)) x y
  | .geq => binG P .geq t (fun _ a b => .bo (!(ltF a b))) x y
  | .shl => binS P .shl t (fun k a b => .i k (shlF k a b)) x y
  | .shr => binS P .shr t (fun k a b => .i k (shrF k a b)) x y
  | op => binO P op t x y
theorem binO_eq (op : BinOp) (t : TypeId) (x y : CV) (fr : Fr) (σ : Store) (K : Option V → Store → Prop) :
    (binO P op t x y).run fr σ K = rsK (match x.get fr, y.get fr with | some x, some y => pureRs σ (evBin P op t x y) | _, _ => none) K := by
  unfold binO
  simp only [CO.run_mk]
  cases hx : x.get fr <;> cases hy : y.get fr <;> simp only [hx, hy, rsK]
theorem binG_eq {op : BinOp} {t : TypeId} {f : IntKind → Int → Int → V} (hf : ∀ k k' a b, evBin P op t (.i k a) (.i k' b) = bif kindEq k k' then some (true, f k a b) else none) (x y : CV) (fr : Fr) (σ : Store) (K : Option V → Store → Prop) :
    (binG P op t f x y).run fr σ K = rsK (match x.get fr, y.get fr with | some x, some y => pureRs σ (evBin P op t x y) | _, _ => none) K := by
  unfold binG
  simp only [CO.run_mk]
  cases hx : x.get fr with
  | none => simp only [hx]; cases hy : y.get fr <;> simp only [rsK]
  | some vx =>
    cases hy : y.get fr with
    | none => simp only [hx, hy]; cases vx <;> simp only [rsK]
    | some vy =>
      simp only [hx, hy]
      cases vx <;> simp only
      cases vy <;> simp only
      rw [hf]
      rename_i k a k' b
      cases kindEq k k' <;> rfl
theorem binS_eq {op : BinOp} {t : TypeId} {f : IntKind → Int → Int → V} (hf : ∀ k k' a b, evBin P op t (.i k a) (.i k' b) = some (decide (0 ≤ b), f k a b)) (x y : CV) (fr : Fr) (σ : Store) (K : Option V → Store → Prop) :
    (binS P op t f x y).run fr σ K = rsK (match x.get fr, y.get fr with | some x, some y => pureRs σ (evBin P op t x y) | _, _ => none) K := by
  unfold binS
  simp only [CO.run_mk]
  cases hx : x.get fr with
  | none => simp only [hx]; cases hy : y.get fr <;> simp only [rsK]
  | some vx =>
    cases hy : y.get fr with
    | none => simp only [hx, hy]; cases vx <;> simp only [rsK]
    | some vy =>
      simp only [hx, hy]
      cases vx <;> simp only
      cases vy <;> simp only
      rw [hf]
      rename_i k a k' b
      rw [ltF_eq]
      by_cases hb : b < 0
      · have : ¬ 0 ≤ b := by omega
        simp [hb, this, pureRs, rsK]
      · have : 0 ≤ b := by omega
        simp [hb, this, pureRs, rsK]
theorem binF_eq (op : BinOp) (t : TypeId) (x y : CV) (fr : Fr) (σ : Store) (K : Option V → Store → Prop) :
    (binF P op t x y).run fr σ K = rsK (match x.get fr, y.get fr with | some x, some y => pureRs σ (evBin P op t x y) | _, _ => none) K := by
  cases op with
  | add => exact binG_eq P (fun k k' a b => by simp only [evBin, binInt, wrapF_eq, addF_eq, subF_eq, andF_eq, orF_eq]) x y fr σ K
  | sub => exact binG_eq P (fun k k' a b => by simp only [evBin, binInt, wrapF_eq, addF_eq, subF_eq, andF_eq, orF_eq]) x y fr σ K
  | and => exact binG_eq P (fun k k' a b => by simp only [evBin, binInt, wrapF_eq, addF_eq, subF_eq, andF_eq, orF_eq]) x y fr σ K
  | or => exact binG_eq P (fun k k' a b => by simp only [evBin, binInt, wrapF_eq, addF_eq, subF_eq, andF_eq, orF_eq]) x y fr σ K
  | eql => exact binG_eq P (fun k k' a b => by simp only [evBin, binInt, eqF_eq]) x y fr σ K
  | neq => exact binG_eq P (fun k k' a b => by simp only [evBin, binInt, eqF_eq, bne]) x y fr σ K
  | lss => exact binG_eq P (fun k k' a b => by simp only [evBin, binInt, ltF_eq]) x y fr σ K
  | gtr => exact binG_eq P (fun k k' a b => by simp only [evBin, binInt, ltF_eq, gt_iff_lt]) x y fr σ K
  | leq => exact binG_eq P (fun k k' a b => by simp only [evBin, binInt, ltF_eq, not_lt_dec]) x y fr σ K
  | geq => exact binG_eq P (fun k k' a b => by simp only [evBin, binInt, ltF_eq, not_lt_dec, ge_iff_le]) x y fr σ K
  | shl => exact binS_eq P (fun k k' a b => by simp only [evBin, binInt, shlF_eq, shrF_eq]) x y fr σ K
  | shr => exact binS_eq P (fun k k' a b => by simp only [evBin, binInt, shlF_eq, shrF_eq]) x y fr σ K
  | _ => exact binO_eq P _ t x y fr σ K
end Go.Ev
