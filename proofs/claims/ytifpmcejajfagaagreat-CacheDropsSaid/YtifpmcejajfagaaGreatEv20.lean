/- The evaluator for the kernel: rows of operations, code, functions; it is the evaluator. -/
import Derived.Test.YtifpmcejajfagaaGreatEv19
set_option linter.all false
namespace Go.Ev
variable (P : Program)

structure CL where
  get : Fr → Option (List V)
noncomputable def opdsF (l : List Operand) : CL :=
  @List.rec Operand (fun _ => CL) ⟨fun _ => some []⟩
    (fun x _ ih => ⟨fun fr => match (opdF x).get fr with
      | some v => (match ih.get fr with
        | some r => some (v :: r)
        | none => none)
      | none => none⟩) l
theorem opdsF_eq : ∀ (l : List Operand) (fr : Fr), (opdsF l).get fr = opds fr.opd l
  | [], fr => rfl
  | x :: l, fr => by
    show (match (opdF x).get fr with
      | some v => (match (opdsF l).get fr with
        | some r => some (v :: r)
        | none => none)
      | none => none) = _
    rw [opdF_eq, opdsF_eq l]
    simp only [opds]
    cases fr.opd x <;> cases opds fr.opd l <;> rfl

/-- a value told: written out; what is known by its name: told apart -/
def concF (v : Option V) (σ : Store) (K : Option V → Store → Prop) : Prop :=
  match v with
  | some (.i k n) => (match n with
    | .ofNat m => forceN m fun m => K (some (.i k (.ofNat m))) σ
    | .negSucc m => forceN m fun m => K (some (.i k (.negSucc m))) σ)
  | some (.bo b) => cond b (K (some (.bo true)) σ) (K (some (.bo false)) σ)
  | some (.symb b neg) => forkB b σ fun r σ => K (some (.bo (r != neg))) σ
  | some (.sym k e) => (match rangeX e σ.Γ.r with
    | some (lo, hi) => allZ (fun n => K (some (.i k n)) (σ.tell (.eq e (.c n)) true)) (hi + 1 - lo).toNat lo
    | none => K (some (.sym k e)) σ)
  | v => K v σ
theorem concF_eq (v : Option V) (σ : Store) (K : Option V → Store → Prop) : concF v σ K = concK v σ K := by
  cases v with
  | none => rfl
  | some v =>
    cases v with
    | i k n =>
      cases n with
      | ofNat m => exact forceN_eq m fun m => K (some (.i k (.ofNat m))) σ
      | negSucc m => exact forceN_eq m fun m => K (some (.i k (.negSucc m))) σ
    | bo b => cases b <;> rfl
    | _ => rfl

noncomputable def loadF (t : TypeId) (a : CV) : CO :=
  ⟨fun fr σ K => match a.get fr with
    | some a => rsK (evLoad P t a σ) K
    | none => False⟩
noncomputable def storeF (t : TypeId) (a x : CV) : CO :=
  ⟨fun fr σ K => match a.get fr with
    | some a => (match x.get fr with
      | some x => rsK (evStore P t a x σ) fun v σ => (match a with
        | .p (some a) => forceAt a.b σ fun σ => K v σ
        | _ => K v σ)
      | none => False)
    | none => False⟩
theorem storeF_K (a : V) (r : Option Rs) (K : Option V → Store → Prop) : (rsK r fun v σ => (match a with
        | .p (some a) => forceAt a.b σ fun σ => K v σ
        | _ => K v σ)) = rsK r K := by
  congr 1
  funext v σ
  split
  · exact forceAt_eq _ _ _
  · rfl
/-- behind an operation that makes a block -/
noncomputable def newF (o : CO) : CO := ⟨fun fr σ K => o.run fr σ fun v σ => forceAt (Nat.pred σ.nx) σ fun σ => K v σ⟩
theorem newF_eq (o : CO) (fr : Fr) (σ : Store) (K : Option V → Store → Prop) : (newF o).run fr σ K = o.run fr σ K := by
  show o.run fr σ _ = _
  congr 1
  funext v σ
  exact forceAt_eq _ _ _
noncomputable def fieldAddrF (t : TypeId) (x : CV) (f : Nat) : CO :=
  ⟨fun fr σ K => match x.get fr with
    | some x => rsK (valRs σ (evFieldAddr P t x f)) K
    | none => False⟩
noncomputable def fieldF (t : TypeId) (x : CV) (f : Nat) : CO :=
  ⟨fun fr σ K => match x.get fr with
    | some x => rsK (pureRs σ (evField P t x f)) K
    | none => False⟩
noncomputable def indexAddrF (t : TypeId) (x ix : CV) : CO :=
  ⟨fun fr σ K => match x.get fr with
    | some x => (match ix.get fr with
      | some ix => rsK (pureRs σ (evIndexAddr P t x ix)) K
      | none => False)
    | none => False⟩
noncomputable def indexF (t : TypeId) (x ix : CV) : CO :=
  ⟨fun fr σ K => match x.get fr with
    | some x => (match ix.get fr with
      | some ix => rsK (pureRs σ (evIndex P t x ix)) K
      | none => False)
    | none => False⟩
noncomputable def moveF (x : CV) : CO :=
  ⟨fun fr σ K => match x.get fr with
    | some v => K (some v) σ
    | none => False⟩
noncomputable def convertF (s d : TypeId) (x : CV) : CO :=
  ⟨fun fr σ K => match x.get fr with
    | some x => rsK (evCvt P s d x σ) K
    | none => False⟩
/-- between kinds of numbers -/
noncomputable def convI (s d : TypeId) (k : IntKind) (x : CV) : CO :=
  ⟨fun fr σ K => match x.get fr with
    | some (.i _ n) => K (some (.i k (wrapF k n))) σ
    | some x => rsK (evCvt P s d x σ) K
    | none => False⟩
noncomputable def convF (s d : TypeId) (x : CV) : CO :=
  match P.underlying s, P.underlying d with
  | some (.int _), some (.int k) => convI P s d k x
  | _, _ => convertF P s d x

variable (X : Xt)
noncomputable def callF (call : Cl) (f : FuncId) (args : CL) : CO :=
  ⟨fun fr σ K => match args.get fr with
    | some l => call f l σ fun v σ => K (some v) σ
    | none => False⟩
noncomputable def builtinF (b : Builtin) (ts : List TypeId) (args : CL) : CO :=
  ⟨fun fr σ K => match args.get fr with
    | some l => rsK (evBuiltin P b ts l σ) K
    | none => False⟩
noncomputable def slowF (call : Cl) (o : Oper) : CO := ⟨fun fr σ K => evOper P X call o fr.opd σ K⟩
noncomputable def operF (call : Cl) (o : Oper) : CO :=
  match o.op with
  | .move x | .assign x => moveF (opdF x)
  | .binOp op t x y _ => binF P op t (opdF x) (opdF y)
  | .load t a => loadF P t (opdF a)
  | .store t a x => storeF P t (opdF a) (opdF x)
  | .fieldAddr t x f => fieldAddrF P t (opdF x) f
  | .field t x f => fieldF P t (opdF x) f
  | .indexAddr t x ix => indexAddrF P t (opdF x) (opdF ix)
  | .index t x ix => indexF P t (opdF x) (opdF ix)
  | .convert s d x => convF P s d (opdF x)
  | .call c => (match c.callee with
    | .builtin b => newF (builtinF P b c.argTypes.toList (opdsF c.args.toList))
    | .value (.func f) => cond (enters P f) (callF call f (opdsF c.args.toList)) (slowF P X call o)
    | _ => slowF P X call o)
  | _ => newF (slowF P X call o)
theorem operF_eq (call : Cl) (o : Oper) (fr : Fr) (σ : Store) (K : Option V → Store → Prop) :
    (operF P X call o).run fr σ K = evOper P X call o fr.opd σ K := by
  obtain ⟨dst, op, type, pos, after, guard⟩ := o
  unfold operF
  cases op with
  | move x =>
    simp only [CO.run_mk, CF.run_mk, CC.run_mk, CB.run_mk, CP.run_mk, moveF, opdF_eq, evOper, evOp]
    cases fr.opd x <;> simp [valRs, rsK]
  | assign x =>
    simp only [CO.run_mk, CF.run_mk, CC.run_mk, CB.run_mk, CP.run_mk, moveF, opdF_eq, evOper, evOp]
    cases fr.opd x <;> simp [valRs, rsK]
  | binOp op t x y p =>
    simp only [CO.run_mk, CF.run_mk, CC.run_mk, CB.run_mk, CP.run_mk, binF_eq, opdF_eq, evOper, evOp]
    cases fr.opd x <;> cases fr.opd y <;> rfl
  | load t a =>
    simp only [CO.run_mk, CF.run_mk, CC.run_mk, CB.run_mk, CP.run_mk, loadF, opdF_eq, evOper, evOp]
    cases fr.opd a <;> simp [rsK]
  | store t a x =>
    simp only [CO.run_mk, CF.run_mk, CC.run_mk, CB.run_mk, CP.run_mk, storeF, opdF_eq, evOper, evOp]
    cases fr.opd a <;> cases fr.opd x <;> simp only [CO.run_mk, CF.run_mk, CC.run_mk, CB.run_mk, CP.run_mk, storeF_K] <;> simp [rsK]
  | fieldAddr t x f =>
    simp only [CO.run_mk, CF.run_mk, CC.run_mk, CB.run_mk, CP.run_mk, fieldAddrF, opdF_eq, evOper, evOp]
    cases fr.opd x <;> simp [rsK]
  | field t x f =>
    simp only [CO.run_mk, CF.run_mk, CC.run_mk, CB.run_mk, CP.run_mk, fieldF, opdF_eq, evOper, evOp]
    cases fr.opd x <;> simp [rsK]
  | indexAddr t x ix =>
    simp only [CO.run_mk, CF.run_mk, CC.run_mk, CB.run_mk, CP.run_mk, indexAddrF, opdF_eq, evOper, evOp]
    cases fr.opd x <;> cases fr.opd ix <;> simp [rsK]
  | index t x ix =>
    simp only [CO.run_mk, CF.run_mk, CC.run_mk, CB.run_mk, CP.run_mk, indexF, opdF_eq, evOper, evOp]
    cases fr.opd x <;> cases fr.opd ix <;> simp [rsK]
  | convert s d x =>
    have hslow : (convertF P s d (opdF x)).run fr σ K = rsK (match fr.opd x with | some x => evCvt P s d x σ | none => none) K := by
      simp only [CO.run_mk, CF.run_mk, CC.run_mk, CB.run_mk, CP.run_mk, convertF, opdF_eq]
      cases fr.opd x <;> simp [rsK]
    simp only [CO.run_mk, CF.run_mk, CC.run_mk, CB.run_mk, CP.run_mk, convF, evOper, evOp]
    split
    · rename_i k k' h1 h2
      simp only [CO.run_mk, CF.run_mk, CC.run_mk, CB.run_mk, CP.run_mk, convI, opdF_eq]
      cases hx : fr.opd x with
      | none => simp [rsK]
      | some v =>
        cases v with
        | i k0 n => simp only [CO.run_mk, CF.run_mk, CC.run_mk, CB.run_mk, CP.run_mk, evCvt, h1, h2, evConvert, valRs, rsK, cond_true, wrapF_eq]
        | _ => rfl
    · exact hslow
  | call c =>
    obtain ⟨callee, args, argTypes⟩ := c
    cases callee with
    | builtin b =>
      simp only [CO.run_mk, CF.run_mk, CC.run_mk, CB.run_mk, CP.run_mk, newF_eq, builtinF, opdsF_eq, evOper]
      cases opds fr.opd args.toList <;> rfl
    | value f =>
      cases f with
      | func f =>
        simp only
        cases he : enters P f with
        | false => rfl
        | true =>
          simp only [CO.run_mk, CF.run_mk, CC.run_mk, CB.run_mk, CP.run_mk, cond_true, callF, opdsF_eq, evOper, target, Fr.opd]
          cases hl : opds fr.opd args.toList with
          | none => rfl
          | some l => simp only [CO.run_mk, CF.run_mk, CC.run_mk, CB.run_mk, CP.run_mk, tab, List.append_nil, he, cond_true]
      | _ => rfl
    | _ => rfl
  | _ => exact newF_eq _ _ _ _

noncomputable def guardF (ops : List Oper) (o : Oper) (yes no : CF) : CF :=
  match o.guard with
  | none => yes
  | some (j, want) => match (ops[j]?).bind (·.dst) with
    | some d => ⟨fun fr σ K => match (getW d).get fr.t with
      | some (.bo x) => cond (x == want) (yes.run fr σ K) ((putF o.dst).run none fr fun fr => no.run fr σ K)
      | some .junk => (putF o.dst).run none fr fun fr => no.run fr σ K
      | _ => False⟩
    | none => ⟨fun _ _ _ => False⟩
noncomputable def stepF (o : CO) (p : CP) (next : CF) : CF :=
  ⟨fun fr σ K => o.run fr σ fun v σ => concF v σ fun v σ => p.run v fr fun fr => next.run fr σ K⟩
noncomputable def opsF (call : Cl) (ops l : List Oper) : CF :=
  @List.rec Oper (fun _ => CF) ⟨fun fr σ K => K fr σ⟩ (fun o _ ih => guardF ops o (stepF (operF P X call o) (putF o.dst) ih) ih) l
theorem opsF_eq (call : Cl) (ops : List Oper) : ∀ (l : List Oper) (fr : Fr) (σ : Store) (K : Fr → Store → Prop), (opsF P X call ops l).run fr σ K = evOps P X call ops l fr σ K
  | [], fr, σ, K => rfl
  | o :: l, fr, σ, K => by
    have ih := opsF_eq call ops l
    show (guardF ops o (stepF (operF P X call o) (putF o.dst) (opsF P X call ops l)) (opsF P X call ops l)).run fr σ K = _
    have hs : ∀ fr σ K, (stepF (operF P X call o) (putF o.dst) (opsF P X call ops l)).run fr σ K = evOper P X call o fr.opd σ fun v σ => concK v σ fun v σ => putK fr o.dst v fun fr => evOps P X call ops l fr σ K := by
      intro fr σ K
      simp only [CO.run_mk, CF.run_mk, CC.run_mk, CB.run_mk, CP.run_mk, stepF, operF_eq]
      congr 1
      funext v σ
      rw [concF_eq]
      congr 1
      funext v σ
      rw [putF_eq]
      congr 1
      funext fr
      exact ih fr σ K
    simp only [CO.run_mk, CF.run_mk, CC.run_mk, CB.run_mk, CP.run_mk, evOps, evGuard, guardF]
    cases hg : o.guard with
    | none => exact hs fr σ K
    | some jw =>
      obtain ⟨j, want⟩ := jw
      simp only [CO.run_mk, CF.run_mk, CC.run_mk, CB.run_mk, CP.run_mk, yieldedV]
      cases hd : (ops[j]?).bind (·.dst) with
      | none => rfl
      | some d =>
        simp only [CO.run_mk, CF.run_mk, CC.run_mk, CB.run_mk, CP.run_mk, Option.bind_some, getW_eq, putF_eq, hs, ih]
        cases fr.t.get d with
        | none => rfl
        | some v => cases v <;> rfl

inductive CD where
  | mk (f : Nat → DSt → (Fr → Store → Prop) → Prop)
noncomputable def CD.run (c : CD) : Nat → DSt → (Fr → Store → Prop) → Prop := @CD.rec (fun _ => Nat → DSt → (Fr → Store → Prop) → Prop) (fun f => f) c
theorem CD.run_mk (f : Nat → DSt → (Fr → Store → Prop) → Prop) : (CD.mk f).run = f := rfl
noncomputable def guardD (ops : List Oper) (o : Oper) (yes no : CD) : CD :=
  match o.guard with
  | none => yes
  | some (j, want) => match (ops[j]?).bind (·.dst) with
    | some t => ⟨fun base d K => match (getW t).get d.fr.t with
      | some (.bo x) => cond (x == want) (yes.run base d K) ((putF o.dst).run none d.fr fun fr => no.run base ⟨fr, d.σ, d.pend, d.opens⟩ K)
      | some .junk => (putF o.dst).run none d.fr fun fr => no.run base ⟨fr, d.σ, d.pend, d.opens⟩ K
      | _ => False⟩
    | none => ⟨fun _ _ _ => False⟩
noncomputable def stepD (call : Cl) (ops : List Oper) (masks : List Nat) (i : Nat) (o : Oper) (ih : CD) : CD :=
  match clsP P o.op with
  | .eff => ⟨fun base d K =>
      (operF P X call o).run d.fr (bring d.σ (d.pend.filter fun p => (masks.getD i 0).testBit p.at_)) fun v σ2 => (putF o.dst).run v d.fr fun fr =>
        cond (opensOk P (masks.getD i 0) (bring d.σ (d.pend.filter fun p => (masks.getD i 0).testBit p.at_)) σ2 d.opens)
          (ih.run base ⟨fr, σ2, d.pend.filter (fun p => !(masks.getD i 0).testBit p.at_), d.opens.filter fun x => !(masks.getD i 0).testBit x.at_⟩ K) False⟩
  | .mem => ⟨fun base d K => match memV P d.fr.opd (base + memNo ops i) o.op with
      | some (c, k, v) => (putF o.dst).run (some v) d.fr fun fr => cond c (ih.run base ⟨fr, d.σ, ⟨i, base + memNo ops i, k⟩ :: d.pend, d.opens⟩ K) False
      | none => False⟩
  | .load => match o.op with
    | .load t a => ⟨fun base d K => match (opdF a).get d.fr with
      | some a => (match evLoad P t a d.σ with
        | some rs => (putF o.dst).run rs.v d.fr fun fr => cond rs.c (ih.run base ⟨fr, d.σ, d.pend, ⟨i, t, a, rs.v.getD .junk⟩ :: d.opens⟩ K) False
        | none => False)
      | none => False⟩
    | _ => ⟨fun _ _ _ => False⟩
  | .pure => ⟨fun base d K => (operF P X call o).run d.fr d.σ fun v _ => (putF o.dst).run v d.fr fun fr => ih.run base ⟨fr, d.σ, d.pend, d.opens⟩ K⟩
noncomputable def dF (call : Cl) (ops : List Oper) (masks rest : List Nat) : CD :=
  @List.rec Nat (fun _ => CD) ⟨fun _ d K => K d.fr (bring d.σ d.pend)⟩
    (fun i _ ih => match ops[i]? with
      | none => ⟨fun _ _ _ => False⟩
      | some o => guardD ops o (stepD P X call ops masks i o ih) ih) rest
theorem guardD_eq (ops : List Oper) (o : Oper) (yes no : CD) (base : Nat) (d : DSt) (K : Fr → Store → Prop) :
    (guardD ops o yes no).run base d K = evGuard ops o d.fr (yes.run base d K) fun fr => no.run base ⟨fr, d.σ, d.pend, d.opens⟩ K := by
  simp only [CO.run_mk, CF.run_mk, CC.run_mk, CB.run_mk, CP.run_mk, CD.run_mk, evGuard, guardD]
  cases hg : o.guard with
  | none => rfl
  | some jw =>
    obtain ⟨j, want⟩ := jw
    simp only [CO.run_mk, CF.run_mk, CC.run_mk, CB.run_mk, CP.run_mk, CD.run_mk, yieldedV]
    cases hd : (ops[j]?).bind (·.dst) with
    | none => rfl
    | some t =>
      simp only [CO.run_mk, CF.run_mk, CC.run_mk, CB.run_mk, CP.run_mk, CD.run_mk, Option.bind_some, getW_eq, putF_eq]
      cases d.fr.t.get t with
      | none => rfl
      | some v => cases v <;> rfl
theorem dF_eq (call : Cl) (ops : List Oper) (masks : List Nat) : ∀ (rest : List Nat) (base : Nat) (d : DSt) (K : Fr → Store → Prop), (dF P X call ops masks rest).run base d K = evD P X call ops masks base rest d K
  | [], base, d, K => rfl
  | i :: rest, base, d, K => by
    have ih := dF_eq call ops masks rest
    show (match ops[i]? with
      | none => (⟨fun _ _ _ => False⟩ : CD)
      | some o => guardD ops o (stepD P X call ops masks i o (dF P X call ops masks rest)) (dF P X call ops masks rest)).run base d K = _
    simp only [CO.run_mk, CF.run_mk, CC.run_mk, CB.run_mk, CP.run_mk, CD.run_mk, evD]
    cases ops[i]? with
    | none => rfl
    | some o =>
      simp only [CO.run_mk, CF.run_mk, CC.run_mk, CB.run_mk, CP.run_mk, CD.run_mk, guardD_eq, ih]
      congr 1
      unfold stepD
      cases clsP P o.op with
      | eff => simp only [CO.run_mk, CF.run_mk, CC.run_mk, CB.run_mk, CP.run_mk, CD.run_mk, operF_eq, putF_eq, evStep, ih]
      | mem =>
        simp only [CO.run_mk, CF.run_mk, CC.run_mk, CB.run_mk, CP.run_mk, CD.run_mk, putF_eq, ih]
        cases memV P d.fr.opd (base + memNo ops i) o.op with
        | none => rfl
        | some x => obtain ⟨c, k, v⟩ := x; rfl
      | load =>
        simp only
        cases o.op <;> try rfl
        rename_i t a
        simp only [CO.run_mk, CF.run_mk, CC.run_mk, CB.run_mk, CP.run_mk, CD.run_mk, opdF_eq, putF_eq, ih]
        cases d.fr.opd a with
        | none => rfl
        | some a => cases evLoad P t a d.σ <;> rfl
      | pure => simp only [CO.run_mk, CF.run_mk, CC.run_mk, CB.run_mk, CP.run_mk, CD.run_mk, operF_eq, putF_eq, evStep, ih]
/-- rows of numbers, reckoned at once -/
noncomputable def forceNt {β : Type} (n : Nat) (K : Nat → β) : β := @Nat.casesOn (fun _ => β) n (K 0) fun m => K (Nat.succ m)
noncomputable def forceLt {β : Type} (l : List Nat) : (List Nat → β) → β :=
  @List.rec Nat (fun _ => (List Nat → β) → β) (fun K => K []) (fun a _ ih K => forceNt a fun a => ih fun l => K (a :: l)) l
theorem forceNt_eq {β : Type} (n : Nat) (K : Nat → β) : forceNt n K = K n := by cases n <;> rfl
theorem forceLt_eq {β : Type} : ∀ (l : List Nat) (K : List Nat → β), forceLt l K = K l
  | [], K => rfl
  | a :: l, K => by
    show (forceNt a fun a => forceLt l fun l => K (a :: l)) = _
    rw [forceNt_eq, forceLt_eq]
inductive CG' where
  | mk (f : Fr → Store → (Fr → Store → Prop) → Prop)
noncomputable def CG'.run (c : CG') : Fr → Store → (Fr → Store → Prop) → Prop := @CG'.rec (fun _ => Fr → Store → (Fr → Store → Prop) → Prop) (fun f => f) c
theorem CG'.run_mk (f : Fr → Store → (Fr → Store → Prop) → Prop) : (CG'.mk f).run = f := rfl
noncomputable def drawF (call : Cl) (ops : List Oper) : CG' :=
  forceLt (masksOf ops []) fun masks => forceLt (effs P ops 0) fun es => forceLt (orderFrom P ops masks es es 0) fun ord =>
    match backOk ops 0 && (ordOk P ops masks ord 0 && tmpsOk ops masks ops 0) with
    | true => (match dF P X call ops masks ord with
      | ⟨g⟩ => ⟨fun fr σ K => forceN σ.nx fun nx => g nx ⟨fr, ⟨nx + memNo ops ops.length, σ.t, σ.Γ⟩, [], []⟩ K⟩)
    | false => ⟨fun _ _ _ => False⟩
theorem drawF_eq (call : Cl) (ops : List Oper) (fr : Fr) (σ : Store) (K : Fr → Store → Prop) : (drawF P X call ops).run fr σ K = evRegionD P X call ops fr σ K := by
  unfold drawF
  simp only [CO.run_mk, CF.run_mk, CC.run_mk, CB.run_mk, CP.run_mk, CD.run_mk, forceLt_eq, evRegionD]
  cases backOk ops 0 && (ordOk P ops (masksOf ops []) (orderFrom P ops (masksOf ops []) (effs P ops 0) (effs P ops 0) 0) 0 && tmpsOk ops (masksOf ops []) ops 0) with
  | false => rfl
  | true =>
    rw [← dF_eq]
    cases dF P X call ops (masksOf ops []) (orderFrom P ops (masksOf ops []) (effs P ops 0) (effs P ops 0) 0) with
    | mk g => exact forceN_eq σ.nx fun nx => g nx ⟨fr, ⟨nx + memNo ops ops.length, σ.t, σ.Γ⟩, [], []⟩ K

noncomputable def condF (c : CV) (a b : CC) : CC :=
  ⟨fun fr σ K => match c.get fr with
    | some (.bo x) => cond x (a.run fr σ K) (b.run fr σ K)
    | some (.symb e neg) => forkB e σ fun r σ => cond (r != neg) (a.run fr σ K) (b.run fr σ K)
    | _ => False⟩
noncomputable def seqF (a b : CC) : CC :=
  ⟨fun fr σ K => a.run fr σ fun e fr σ => match e with
    | .normal => b.run fr σ K
    | e => K e fr σ⟩
noncomputable def blockF (id : Nat) (c : CC) : CC :=
  ⟨fun fr σ K => c.run fr σ fun e fr σ => match e with
    | .exit id' => bif Nat.beq id' id then K .normal fr σ else K (.exit id') fr σ
    | e => K e fr σ⟩
noncomputable def loopF (L : Nat) (c : CC) : CC := ⟨fun fr σ K => loopN L (fun K fr σ => c.run fr σ K) fr σ K⟩
noncomputable def regF (call : Cl) (ops : List Oper) (draw : Bool) : CC :=
  match draw with
  | true => (match drawF P X call ops with
    | ⟨g⟩ => ⟨fun fr σ K => g fr σ fun fr σ => K .normal fr σ⟩)
  | false => ⟨fun fr σ K => (opsF P X call ops ops).run fr σ fun fr σ => K .normal fr σ⟩
noncomputable def codeF (L : Nat) (call : Cl) (c : Code) : CC :=
  @Code.rec (fun _ => CC)
    ⟨fun fr σ K => K .normal fr σ⟩
    (fun _ ops draw => regF P X call ops.toList draw)
    (fun _ _ a b => seqF a b)
    (fun c _ _ a b => condF (opdF c) a b)
    (fun id _ c => blockF id c)
    (fun _ c => loopF L c)
    (fun _ _ _ _ _ _ => ⟨fun _ _ _ => False⟩)
    (fun id => ⟨fun fr σ K => K (.exit id) fr σ⟩)
    (fun _ c => c)
    (fun _ => ⟨fun fr σ K => K .normal fr σ⟩)
    (fun _ => ⟨fun _ _ _ => False⟩)
    ⟨fun fr σ K => K .ret fr σ⟩
    (fun _ => ⟨fun _ _ _ => False⟩) c
theorem codeF_eq (L : Nat) (call : Cl) : ∀ (c : Code) (fr : Fr) (σ : Store) (K : Ex → Fr → Store → Prop), (codeF P X L call c).run fr σ K = evCode P X L call c fr σ K := by
  intro c
  induction c with
  | skip => intro fr σ K; rfl
  | label l => intro fr σ K; rfl
  | exit id => intro fr σ K; rfl
  | ret => intro fr σ K; rfl
  | goto l => intro fr σ K; rfl
  | refuse w => intro fr σ K; rfl
  | rangeFunc f ps a b iha ihb => intro fr σ K; rfl
  | scope c ih => intro fr σ K; exact ih fr σ K
  | seq a b iha ihb =>
    intro fr σ K
    show (codeF P X L call a).run fr σ (fun e fr σ => match e with
      | .normal => (codeF P X L call b).run fr σ K
      | e => K e fr σ) = _
    rw [iha]
    simp only [CO.run_mk, CF.run_mk, CC.run_mk, CB.run_mk, CP.run_mk, CD.run_mk, evCode]
    congr 1
    funext e fr σ
    cases e with
    | normal => exact ihb fr σ K
    | _ => rfl
  | cond c a b iha ihb =>
    intro fr σ K
    show (condF (opdF c) (codeF P X L call a) (codeF P X L call b)).run fr σ K = _
    simp only [CO.run_mk, CF.run_mk, CC.run_mk, CB.run_mk, CP.run_mk, CD.run_mk, condF, opdF_eq, evCode, iha, ihb]
    cases fr.opd c with
    | none => rfl
    | some v => cases v <;> rfl
  | block id c ih =>
    intro fr σ K
    show (codeF P X L call c).run fr σ (fun e fr σ => match e with
      | .exit id' => bif Nat.beq id' id then K .normal fr σ else K (.exit id') fr σ
      | e => K e fr σ) = _
    rw [ih]
    simp only [CO.run_mk, CF.run_mk, CC.run_mk, CB.run_mk, CP.run_mk, CD.run_mk, evCode]
    congr 1
  | loop c ih =>
    intro fr σ K
    show loopN L (fun K fr σ => (codeF P X L call c).run fr σ K) fr σ K = _
    simp only [CO.run_mk, CF.run_mk, CC.run_mk, CB.run_mk, CP.run_mk, CD.run_mk, evCode]
    congr 1
    funext K fr σ
    exact ih fr σ K
  | region id ops draw =>
    intro fr σ K
    show (regF P X call ops.toList draw).run fr σ K = _
    simp only [CO.run_mk, CF.run_mk, CC.run_mk, CB.run_mk, CP.run_mk, CD.run_mk, evCode, regF]
    cases draw with
    | true => exact drawF_eq P X call _ _ _ _
    | false => exact opsF_eq P X call _ _ _ _ _

noncomputable def bodyF (L : Nat) (call : Cl) (f : FuncId) : CB :=
  match P.funcs[f]? with
  | some fn => (match fn.body with
    | some c => ⟨fun args σ K => cond (Nat.ble args.length fn.ntmps) ((codeF P X L call c).run ⟨fn.ntmps, argFr args 0 .e⟩ σ (endK P fn K)) False⟩
    | none => ⟨fun _ _ _ => False⟩)
  | none => ⟨fun _ _ _ => False⟩
theorem bodyF_eq (L : Nat) (call : Cl) (f : FuncId) (args : List V) (σ : Store) (K : V → Store → Prop) : (bodyF P X L call f).run args σ K = evBody P X L call f args σ K := by
  unfold bodyF evBody
  cases P.funcs[f]? with
  | none => rfl
  | some fn =>
    simp only
    cases fn.body with
    | none => rfl
    | some c =>
      simp only [CO.run_mk, CF.run_mk, CC.run_mk, CB.run_mk, CP.run_mk, CD.run_mk, codeF_eq]
noncomputable def fnF (S : Sums) (L : Nat) (d : Nat) : Cl :=
  @Nat.rec (fun _ => Cl) (fun _ _ _ _ => False)
    (fun _ ih f args σ K => match S f with
      | some T => T args σ K
      | none => (bodyF P X L ih f).run args σ K) d
theorem fnF_eq (S : Sums) (L : Nat) : ∀ (d : Nat), fnF P X S L d = evFn P X S L d
  | 0 => rfl
  | d + 1 => by
    funext f args σ K
    show (match S f with
      | some T => T args σ K
      | none => (bodyF P X L (fnF P X S L d) f).run args σ K) = _
    rw [fnF_eq S L d, bodyF_eq]
    rfl
theorem fnF_ev {S : Sums} {L d : Nat} {f : FuncId} {args : List V} {σ : Store} {K : V → Store → Prop} (h : fnF P X S L d f args σ K) : evFn P X S L d f args σ K := by
  rw [← fnF_eq]; exact h
end Go.Ev
