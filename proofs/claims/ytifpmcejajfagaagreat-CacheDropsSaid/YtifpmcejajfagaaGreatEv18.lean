/- The evaluator once more, for the kernel: the same, step by step, with what hangs on the text alone reckoned once. -/
import Derived.Test.YtifpmcejajfagaaGreatEv17
set_option linter.all false
namespace Go.Ev

inductive Pth where
  | here
  | l (p : Pth)
  | r (p : Pth)
def pthF : Nat → Nat → Pth
  | 0, _ => .here
  | f + 1, k => bif Nat.beq k 0 then .here else bif Nat.beq (Nat.mod k 2) 1 then .l (pthF f (Nat.div k 2)) else .r (pthF f (Nat.sub (Nat.div k 2) 1))
def pth (k : Nat) : Pth := pthF (k + 1) k
noncomputable def getP {α : Type} (p : Pth) : T α → Option α :=
  @Pth.rec (fun _ => T α → Option α)
    (fun t => @T.casesOn α (fun _ => Option α) t none fun _ v _ => v)
    (fun _ ih t => @T.casesOn α (fun _ => Option α) t none fun l _ _ => ih l)
    (fun _ ih t => @T.casesOn α (fun _ => Option α) t none fun _ _ r => ih r) p
noncomputable def setP {α : Type} (p : Pth) (x : Option α) : T α → T α :=
  @Pth.rec (fun _ => T α → T α)
    (fun t => @T.casesOn α (fun _ => T α) t (.n .e x .e) fun l _ r => .n l x r)
    (fun _ ih t => @T.casesOn α (fun _ => T α) t (.n (ih .e) none .e) fun l v r => .n (ih l) v r)
    (fun _ ih t => @T.casesOn α (fun _ => T α) t (.n .e none (ih .e)) fun l v r => .n l v (ih r)) p
theorem getP_eq {α : Type} : ∀ (f k : Nat) (t : T α), k < f → getP (pthF f k) t = t.get k := by
  intro f
  induction f with
  | zero => intro k t h; omega
  | succ f ih =>
    intro k t h
    cases t with
    | e =>
      simp only [pthF, T.get]
      cases hb : Nat.beq k 0 with
      | true => rfl
      | false => cases hc : Nat.beq (Nat.mod k 2) 1 <;> rfl
    | n l v r =>
      simp only [pthF, T.get]
      cases hb : Nat.beq k 0 with
      | true => rfl
      | false =>
        have hk : k ≠ 0 := Nat.ne_of_beq_eq_false hb
        have e1 : Nat.mod k 2 = k % 2 := rfl
        cases hc : Nat.beq (k % 2) 1 with
        | true => exact ih (k / 2) l (by omega)
        | false => exact ih (k / 2 - 1) r (by omega)
theorem setP_eq {α : Type} (x : Option α) : ∀ (f k : Nat) (t : T α), k < f → setP (pthF f k) x t = T.setF f t k x := by
  intro f
  induction f with
  | zero => intro k t h; omega
  | succ f ih =>
    intro k t h
    have e1 : Nat.mod k 2 = k % 2 := rfl
    cases t with
    | e =>
      simp only [pthF, T.setF]
      cases hb : Nat.beq k 0 with
      | true => rfl
      | false =>
        have hk : k ≠ 0 := Nat.ne_of_beq_eq_false hb
        cases hc : Nat.beq (k % 2) 1 with
        | true => exact congrArg (fun a => T.n a none T.e) (ih (k / 2) .e (by omega))
        | false => exact congrArg (fun a => T.n T.e none a) (ih (k / 2 - 1) .e (by omega))
    | n l v r =>
      simp only [pthF, T.setF]
      cases hb : Nat.beq k 0 with
      | true => rfl
      | false =>
        have hk : k ≠ 0 := Nat.ne_of_beq_eq_false hb
        cases hc : Nat.beq (k % 2) 1 with
        | true => exact congrArg (fun a => T.n a v r) (ih (k / 2) l (by omega))
        | false => exact congrArg (fun a => T.n l v a) (ih (k / 2 - 1) r (by omega))
theorem getP_pth {α : Type} (k : Nat) (t : T α) : getP (pth k) t = t.get k := getP_eq _ _ _ (by omega)
theorem setP_pth {α : Type} (k : Nat) (x : Option α) (t : T α) : setP (pth k) x t = t.put k x := setP_eq _ _ _ _ (by omega)

structure CG (α : Type) where
  run : N8 α → α
inductive CM (α : Type) where
  | mk (f : (α → (α → Prop) → Prop) → N8 α → (N8 α → Prop) → Prop)
noncomputable def CM.run {α : Type} (c : CM α) : (α → (α → Prop) → Prop) → N8 α → (N8 α → Prop) → Prop := @CM.rec α (fun _ => (α → (α → Prop) → Prop) → N8 α → (N8 α → Prop) → Prop) (fun f => f) c
theorem CM.run_mk {α : Type} (f : (α → (α → Prop) → Prop) → N8 α → (N8 α → Prop) → Prop) : (CM.mk f).run = f := rfl
noncomputable def getD {α : Type} : Nat → CG α
  | 0 => ⟨fun n => @N8.casesOn α (fun _ => α) n fun a _ _ _ _ _ _ _ => a⟩
  | 1 => ⟨fun n => @N8.casesOn α (fun _ => α) n fun _ a _ _ _ _ _ _ => a⟩
  | 2 => ⟨fun n => @N8.casesOn α (fun _ => α) n fun _ _ a _ _ _ _ _ => a⟩
  | 3 => ⟨fun n => @N8.casesOn α (fun _ => α) n fun _ _ _ a _ _ _ _ => a⟩
  | 4 => ⟨fun n => @N8.casesOn α (fun _ => α) n fun _ _ _ _ a _ _ _ => a⟩
  | 5 => ⟨fun n => @N8.casesOn α (fun _ => α) n fun _ _ _ _ _ a _ _ => a⟩
  | 6 => ⟨fun n => @N8.casesOn α (fun _ => α) n fun _ _ _ _ _ _ a _ => a⟩
  | _ => ⟨fun n => @N8.casesOn α (fun _ => α) n fun _ _ _ _ _ _ _ a => a⟩
noncomputable def modD {α : Type} : Nat → CM α
  | 0 => ⟨fun x n K => @N8.casesOn α (fun _ => Prop) n fun a b c d e f g h => x a fun a' => K ⟨a', b, c, d, e, f, g, h⟩⟩
  | 1 => ⟨fun x n K => @N8.casesOn α (fun _ => Prop) n fun a b c d e f g h => x b fun b' => K ⟨a, b', c, d, e, f, g, h⟩⟩
  | 2 => ⟨fun x n K => @N8.casesOn α (fun _ => Prop) n fun a b c d e f g h => x c fun c' => K ⟨a, b, c', d, e, f, g, h⟩⟩
  | 3 => ⟨fun x n K => @N8.casesOn α (fun _ => Prop) n fun a b c d e f g h => x d fun d' => K ⟨a, b, c, d', e, f, g, h⟩⟩
  | 4 => ⟨fun x n K => @N8.casesOn α (fun _ => Prop) n fun a b c d e f g h => x e fun e' => K ⟨a, b, c, d, e', f, g, h⟩⟩
  | 5 => ⟨fun x n K => @N8.casesOn α (fun _ => Prop) n fun a b c d e f g h => x f fun f' => K ⟨a, b, c, d, e, f', g, h⟩⟩
  | 6 => ⟨fun x n K => @N8.casesOn α (fun _ => Prop) n fun a b c d e f g h => x g fun g' => K ⟨a, b, c, d, e, f, g', h⟩⟩
  | _ => ⟨fun x n K => @N8.casesOn α (fun _ => Prop) n fun a b c d e f g h => x h fun h' => K ⟨a, b, c, d, e, f, g, h'⟩⟩
theorem getD_eq {α : Type} : ∀ (d : Nat) (n : N8 α), (getD d).run n = n.get d
  | 0, _ => rfl | 1, _ => rfl | 2, _ => rfl | 3, _ => rfl | 4, _ => rfl | 5, _ => rfl | 6, _ => rfl | _ + 7, _ => rfl
theorem modD_eq {α : Type} (x : α → (α → Prop) → Prop) (y : α → α) (hx : ∀ a K, x a K = K (y a)) : ∀ (d : Nat) (n : N8 α) (K : N8 α → Prop), (modD d).run x n K = K (n.mod y d)
  | 0, _, _ => hx _ _ | 1, _, _ => hx _ _ | 2, _, _ => hx _ _ | 3, _, _ => hx _ _ | 4, _, _ => hx _ _ | 5, _, _ => hx _ _ | 6, _, _ => hx _ _ | _ + 7, _, _ => hx _ _
structure CW where
  get : W V → Option V
inductive CS where
  | mk (f : Option V → W V → (W V → Prop) → Prop)
noncomputable def CS.put (c : CS) : Option V → W V → (W V → Prop) → Prop := @CS.rec (fun _ => Option V → W V → (W V → Prop) → Prop) (fun f => f) c
theorem CS.put_mk (f : Option V → W V → (W V → Prop) → Prop) : (CS.mk f).put = f := rfl
noncomputable def getW (k : Nat) : CW :=
  match Nat.blt k 512 with
  | true => (match @getD (N8 (N8 (Option V))) (k / 64) with
    | ⟨g1⟩ => (match @getD (N8 (Option V)) (k / 8 % 8) with
      | ⟨g2⟩ => (match @getD (Option V) (k % 8) with
        | ⟨g3⟩ => ⟨fun t => @W.casesOn V (fun _ => Option V) t fun w _ => g3 (g2 (g1 w))⟩)))
  | false => ⟨fun t => t.get k⟩
noncomputable def putW (k : Nat) : CS :=
  match Nat.blt k 512 with
  | true => (match @modD (N8 (N8 (Option V))) (k / 64) with
    | ⟨g1⟩ => (match @modD (N8 (Option V)) (k / 8 % 8) with
      | ⟨g2⟩ => (match @modD (Option V) (k % 8) with
        | ⟨g3⟩ => ⟨fun x t K => @W.casesOn V (fun _ => Prop) t fun w more => g1 (fun n K => g2 (fun n K => g3 (fun _ K => K x) n K) n K) w fun w => K ⟨w, more⟩⟩)))
  | false => ⟨fun x t K => K (t.put k x)⟩
theorem getW_eq (k : Nat) (t : W V) : (getW k).get t = t.get k := by
  unfold getW W.get
  cases Nat.blt k 512 with
  | false => rfl
  | true =>
    simp only [cond_true, ← getD_eq]
theorem putW_eq (k : Nat) (x : Option V) (t : W V) (K : W V → Prop) : (putW k).put x t K = K (t.put k x) := by
  unfold putW W.put
  cases Nat.blt k 512 with
  | false => rfl
  | true =>
    simp only [cond_true]
    cases t with
    | mk w more =>
      show (modD (k / 64)).run (fun n K => (modD (k / 8 % 8)).run (fun n K => (modD (k % 8)).run (fun _ K => K x) n K) n K) w (fun w => K ⟨w, more⟩) = _
      rw [modD_eq _ (fun n => n.mod (fun n => n.mod (fun _ => x) (k % 8)) (k / 8 % 8))]
      intro a K'
      show (modD (k / 8 % 8)).run (fun n K => (modD (k % 8)).run (fun _ K => K x) n K) a K' = _
      rw [modD_eq _ (fun n => n.mod (fun _ => x) (k % 8))]
      intro a K'
      show (modD (k % 8)).run (fun _ K => K x) a K' = _
      rw [modD_eq _ (fun _ => x)]
      intro a K'
      rfl

def forceN (n : Nat) (K : Nat → Prop) : Prop := @Nat.casesOn (fun _ => Prop) n (K 0) fun m => K (Nat.succ m)
theorem forceN_eq (n : Nat) (K : Nat → Prop) : forceN n K = K n := by cases n <;> rfl
noncomputable def forceP {α : Type} (p : Pth) : T α → (T α → Prop) → Prop :=
  @Pth.rec (fun _ => T α → (T α → Prop) → Prop)
    (fun t K => @T.casesOn α (fun _ => Prop) t (K .e) fun l v r => K (.n l v r))
    (fun _ ih t K => @T.casesOn α (fun _ => Prop) t (K .e) fun l v r => ih l fun l => K (.n l v r))
    (fun _ ih t K => @T.casesOn α (fun _ => Prop) t (K .e) fun l v r => ih r fun r => K (.n l v r)) p
theorem forceP_eq {α : Type} : ∀ (p : Pth) (t : T α) (K : T α → Prop), forceP p t K = K t
  | .here, t, K => by cases t <;> rfl
  | .l p, t, K => by
    cases t with
    | e => rfl
    | n l v r => exact forceP_eq p l _
  | .r p, t, K => by
    cases t with
    | e => rfl
    | n l v r => exact forceP_eq p r _
/-- the way to a block -/
noncomputable def forceAt (b : Nat) (σ : Store) (K : Store → Prop) : Prop :=
  @Store.casesOn (fun _ => Prop) σ fun nx t Γ => forceN nx fun nx => forceN b fun b => forceP (pth b) t fun t => K ⟨nx, t, Γ⟩
theorem forceAt_eq (b : Nat) (σ : Store) (K : Store → Prop) : forceAt b σ K = K σ := by
  cases σ with
  | mk nx t Γ =>
    show forceN nx (fun nx => forceN b fun b => forceP (pth b) t fun t => K ⟨nx, t, Γ⟩) = _
    rw [forceN_eq, forceN_eq, forceP_eq]

structure CV where
  get : Fr → Option V
inductive CO where
  | mk (f : Fr → Store → (Option V → Store → Prop) → Prop)
noncomputable def CO.run (c : CO) : Fr → Store → (Option V → Store → Prop) → Prop := @CO.rec (fun _ => Fr → Store → (Option V → Store → Prop) → Prop) (fun f => f) c
theorem CO.run_mk (f : Fr → Store → (Option V → Store → Prop) → Prop) : (CO.mk f).run = f := rfl
inductive CF where
  | mk (f : Fr → Store → (Fr → Store → Prop) → Prop)
noncomputable def CF.run (c : CF) : Fr → Store → (Fr → Store → Prop) → Prop := @CF.rec (fun _ => Fr → Store → (Fr → Store → Prop) → Prop) (fun f => f) c
theorem CF.run_mk (f : Fr → Store → (Fr → Store → Prop) → Prop) : (CF.mk f).run = f := rfl
inductive CC where
  | mk (f : Fr → Store → (Ex → Fr → Store → Prop) → Prop)
noncomputable def CC.run (c : CC) : Fr → Store → (Ex → Fr → Store → Prop) → Prop := @CC.rec (fun _ => Fr → Store → (Ex → Fr → Store → Prop) → Prop) (fun f => f) c
theorem CC.run_mk (f : Fr → Store → (Ex → Fr → Store → Prop) → Prop) : (CC.mk f).run = f := rfl
inductive CB where
  | mk (f : List V → Store → (V → Store → Prop) → Prop)
noncomputable def CB.run (c : CB) : List V → Store → (V → Store → Prop) → Prop := @CB.rec (fun _ => List V → Store → (V → Store → Prop) → Prop) (fun f => f) c
theorem CB.run_mk (f : List V → Store → (V → Store → Prop) → Prop) : (CB.mk f).run = f := rfl
inductive CP where
  | mk (f : Option V → Fr → (Fr → Prop) → Prop)
noncomputable def CP.run (c : CP) : Option V → Fr → (Fr → Prop) → Prop := @CP.rec (fun _ => Option V → Fr → (Fr → Prop) → Prop) (fun f => f) c
theorem CP.run_mk (f : Option V → Fr → (Fr → Prop) → Prop) : (CP.mk f).run = f := rfl

noncomputable def opdF : Operand → CV
  | .tmp t => (match getW t with
    | ⟨g⟩ => ⟨fun fr => @Fr.casesOn (fun _ => Option V) fr fun _ w => g w⟩)
  | .const v => match ofConst v with
    | some c => ⟨fun _ => some c⟩
    | none => ⟨fun _ => none⟩
  | .global _ => ⟨fun _ => none⟩
  | .func f => ⟨fun _ => some (.fn (.func f) 0 (ofL []))⟩
theorem opdF_eq (x : Operand) (fr : Fr) : (opdF x).get fr = fr.opd x := by
  cases x with
  | tmp t =>
    show (getW t).get fr.t = fr.t.get t
    exact getW_eq _ _
  | const v =>
    simp only [opdF, Fr.opd]
    cases ofConst v <;> rfl
  | global g => rfl
  | func f => rfl

noncomputable def putF : Option Tmp → CP
  | none => ⟨fun _ fr K => K fr⟩
  | some d => (match putW d with
    | ⟨p⟩ => ⟨fun v fr K => @Fr.casesOn (fun _ => Prop) fr fun nt w => cond (Nat.blt d nt) (p (some (v.getD .junk)) w fun w => K ⟨nt, w⟩) False⟩)
theorem putF_eq (d : Option Tmp) (v : Option V) (fr : Fr) (K : Fr → Prop) : (putF d).run v fr K = putK fr d v K := by
  cases d with
  | none => rfl
  | some d =>
    obtain ⟨nt, w⟩ := fr
    show cond (Nat.blt d nt) ((putW d).put (some (v.getD .junk)) w fun w => K ⟨nt, w⟩) False = _
    simp only [putK, Fr.put, putW_eq]
    cases Nat.blt d nt with
    | true => simp only [cond_true]
    | false => rfl

def intMaxN : IntKind → Nat
  | .i8 => 127 | .i16 => 32767 | .i32 => 2147483647 | .i64 => 9223372036854775807
  | .u8 => 255 | .u16 => 65535 | .u32 => 4294967295 | .u64 => 18446744073709551615
def wrapF (k : IntKind) (n : Int) : Int :=
  match n with
  | .ofNat m => bif Nat.ble m (intMaxN k) then .ofNat m else k.wrap (.ofNat m)
  | .negSucc m => k.wrap (.negSucc m)
theorem wrapF_eq (k : IntKind) (n : Int) : wrapF k n = k.wrap n := by
  cases n with
  | negSucc m => rfl
  | ofNat m =>
    simp only [wrapF, nble]
    by_cases h : m ≤ intMaxN k
    · simp only [h, decide_true, cond_true]
      cases k <;> simp only [intMaxN] at h <;> simp [IntKind.wrap, IntKind.bits, IntKind.signed] <;> omega
    · simp [h]
def addF (a b : Int) : Int :=
  match a, b with
  | .ofNat a, .ofNat b => .ofNat (Nat.add a b)
  | a, b => a + b
def subF (a b : Int) : Int :=
  match a, b with
  | .ofNat a, .ofNat b => bif Nat.ble b a then .ofNat (Nat.sub a b) else .negSucc (Nat.sub (Nat.sub b a) 1)
  | a, b => a - b
def ltF (a b : Int) : Bool :=
  match a, b with
  | .ofNat a, .ofNat b => Nat.blt a b
  | .negSucc _, .ofNat _ => true
  | .ofNat _, .negSucc _ => false
  | .negSucc a, .negSucc b => Nat.blt b a
def eqF (a b : Int) : Bool :=
  match a, b with
  | .ofNat a, .ofNat b => Nat.beq a b
  | .negSucc a, .negSucc b => Nat.beq a b
  | _, _ => false
theorem addF_eq (a b : Int) : addF a b = a + b := by cases a <;> cases b <;> rfl
theorem subF_eq (a b : Int) : subF a b = a - b := by
  cases a with
  | negSucc a => rfl
  | ofNat a => cases b with
    | negSucc b => rfl
    | ofNat b =>
      simp only [subF, nble]
      by_cases h : b ≤ a
      · simp only [h, decide_true, cond_true]; show Int.ofNat (a - b) = _; simp only [Int.ofNat_eq_natCast]; omega
      · simp only [h, decide_false, cond_false]; show Int.negSucc (b - a - 1) = _; simp only [Int.ofNat_eq_natCast]; omega
theorem ltF_eq (a b : Int) : ltF a b = decide (a < b) := by
  have h : ltF a b = true ↔ a < b := by
    cases a <;> cases b <;> simp only [ltF, nblt, decide_eq_true_eq, Int.ofNat_eq_natCast, Int.negSucc_eq] <;> first | omega | (simp <;> omega)
  by_cases hb : a < b
  · rw [h.2 hb]; simp [hb]
  · have : ltF a b = false := by cases hc : ltF a b; · rfl
                                 · exact absurd (h.1 hc) hb
    rw [this]; simp [hb]
theorem eqF_eq (a b : Int) : eqF a b = (a == b) := by
  have h : eqF a b = true ↔ a = b := by
    cases a <;> cases b <;> simp only [eqF, nbeq, decide_eq_true_eq, Int.ofNat_eq_natCast, Int.negSucc_eq] <;> first | omega | (simp <;> omega)
  by_cases hb : a = b
  · rw [h.2 hb]; simp [hb]
  · have : eqF a b = false := by cases hc : eqF a b; · rfl
                                 · exact absurd (h.1 hc) hb
    rw [this]; simp [hb]
end Go.Ev
