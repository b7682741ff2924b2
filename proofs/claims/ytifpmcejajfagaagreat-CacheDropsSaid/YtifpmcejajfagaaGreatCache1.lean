/- What the evaluator is told of (block).pages and slices.Contains in the law CacheDrops. -/
import Derived.Test.YtifpmcejajfagaaGreatEv21
import Derived.Test.YtifpmcejajfagaaGreatPages
set_option linter.all false
namespace Go.Proofs
open Go.Ev Go.RowKit

def atE : SX := .w .u32 (.b .rem .u16 (.v 0 .u16) (.c 15000))
def nE : SX := .b .add .i64 (.w .i64 (.b .rem .u8 (.v 1 .u8) (.c 120))) (.c 1)
def szE : SX := .w .u32 nE
def fE : SX := .w .i64 (.b .quo .u32 atE (.c 256))
def lE : SX := .w .i64 (.b .quo .u32 (.b .sub .u32 (.b .add .u32 atE szE) (.c 1)) (.c 256))
def cE : SX := .b .add .i64 (.b .sub .i64 lE fE) (.c 1)

section den
variable [Env]
theorem atE_bnd : 0 ≤ atE.den ∧ atE.den ≤ 14999 := SX.bnd_sound (x := atE) (by decide)
theorem nE_bnd : 1 ≤ nE.den ∧ nE.den ≤ 120 := SX.bnd_sound (x := nE) (by decide)
theorem szE_den : szE.den = nE.den := by
  have := nE_bnd
  show IntKind.u32.wrap nE.den = nE.den
  exact wrap_id (by simp only [intMin]; omega) (by simp only [intMax]; omega)
theorem fE_den : fE.den = atE.den / 256 := by
  have := atE_bnd
  show IntKind.i64.wrap (IntKind.u32.wrap (atE.den.tdiv 256)) = _
  rw [Int.tdiv_eq_ediv_of_nonneg (by omega), wrap_id (k := .u32) (by simp only [intMin]; omega) (by simp only [intMax]; omega), wrap_id (by simp only [intMin]; omega) (by simp only [intMax]; omega)]
theorem lE_den : lE.den = (atE.den + nE.den - 1) / 256 := by
  have h1 := atE_bnd
  have h2 := nE_bnd
  show IntKind.i64.wrap (IntKind.u32.wrap ((IntKind.u32.wrap (IntKind.u32.wrap (atE.den + szE.den) - 1)).tdiv 256)) = _
  rw [szE_den, wrap_id (k := .u32) (n := atE.den + nE.den) (by simp only [intMin]; omega) (by simp only [intMax]; omega),
    wrap_id (k := .u32) (n := atE.den + nE.den - 1) (by simp only [intMin]; omega) (by simp only [intMax]; omega),
    Int.tdiv_eq_ediv_of_nonneg (by omega), wrap_id (k := .u32) (by simp only [intMin]; omega) (by simp only [intMax]; omega), wrap_id (by simp only [intMin]; omega) (by simp only [intMax]; omega)]
theorem cE_den : cE.den = lE.den - fE.den + 1 := by
  have h1 := atE_bnd
  have h2 := nE_bnd
  have h3 := fE_den
  have h4 := lE_den
  show IntKind.i64.wrap (IntKind.i64.wrap (lE.den - fE.den) + 1) = _
  rw [wrap_id (k := .i64) (n := lE.den - fE.den) (by simp only [intMin]; omega) (by simp only [intMax]; omega), wrap_id (by simp only [intMin]; omega) (by simp only [intMax]; omega)]
end den

/-- pages of the law's block: one, or two -/
def T44 (args : List V) (σ : Store) (K : V → Store → Prop) : Prop :=
  match args with
  | [.agg 8 f] => match f 0, f 1 with
    | .sym .u32 a, .sym .u32 n => cond (SX.same a atE && SX.same n szE)
        (forkB (.eq lE fE) σ fun r σ => cond r
          (K (.sl (some ⟨σ.nx, 0⟩) 1 1 1) ((σ.new ⟨1, ofL [.sym .i64 fE], 3, false, [], [], none⟩).tells [(.eq (.c 1) cE, true)]))
          (K (.sl (some ⟨σ.nx, 0⟩) 2 2 1) ((σ.new ⟨2, ofL [.sym .i64 fE, .sym .i64 lE], 3, false, [], [], none⟩).tells [(.eq (.c 2) cE, true), (.lt lE fE, false)]))) False
    | _, _ => False
  | _ => False
theorem T44_ok [Env] {args : List V} {σ : Store} {K : V → Store → Prop} (h : T44 args σ K) : SemCall Tryz.prog 44 args σ K := by
  intro m w args' hargs hS
  unfold T44 at h
  split at h
  · rename_i f
    split at h
    · rename_i a n ha hn
      cases hs : (SX.same a atE && SX.same n szE) with
      | false => rw [hs] at h; exact h.elim
      | true =>
        rw [hs] at h
        simp only [Bool.and_eq_true] at hs
        obtain rfl := SX.same_eq hs.1
        obtain rfl := SX.same_eq hs.2
        simp only [cond_true] at h
        obtain ⟨σ0, h, hS0, hk0⟩ := forkB_sound hS h
        match hl : args'.toList, hargs with
        | [], hargs => exact hargs.elim
        | [x], ⟨hx, _⟩ =>
          obtain ⟨cs, rfl, hsz, hcs⟩ := hx
          have e0 : cs[0]? = some (.int .u32 atE.den) := by
            have := (hcs 0 (by omega)).1
            rw [ha] at this
            simp only [VR] at this
            rw [Array.getElem?_eq_getElem (by omega), this]
          have e1 : cs[1]? = some (.int .u32 nE.den) := by
            have := (hcs 1 (by omega)).1
            rw [hn] at this
            simp only [VR] at this
            rw [Array.getElem?_eq_getElem (by omega), this, szE_den]
          have b1 := atE_bnd
          have b2 := nE_bnd
          have hargs' : args' = #[.agg #[.int .u32 atE.den, .int .u32 (nE.den.toNat : Int), cs[2], cs[3], cs[4], cs[5], cs[6], cs[7]]] := by
            apply Array.toList_inj.1
            rw [hl]
            congr 2
            apply Array.ext
            · simp [hsz]
            · intro i h1 h2
              have e : ((nE.den.toNat : Nat) : Int) = nE.den := by omega
              have hi : i = 0 ∨ i = 1 ∨ i = 2 ∨ i = 3 ∨ i = 4 ∨ i = 5 ∨ i = 6 ∨ i = 7 := by omega
              rw [Array.getElem?_eq_getElem (by omega), Option.some.injEq] at e0 e1
              rcases hi with rfl | rfl | rfl | rfl | rfl | rfl | rfl | rfl <;> simp [e0, e1, e]
          rw [hargs']
          refine (pages_walk atE.den nE.den.toNat (by omega) (by omega) (by omega) (by omega) _ _ _ _ _ _ w).mono ?_
          rintro e w' ⟨g, cap, cur, rfl, hg, hh, hle, hcap, hcur, hbel⟩
          rw [compact_two _ _ (by omega)] at *
          have hnn : ((nE.den.toNat : Nat) : Int) = nE.den := by omega
          have htwo : two atE.den nE.den.toNat = if lE.den = fE.den then [fE.den] else [fE.den, lE.den] := by
            unfold two
            rw [if_neg (by omega), hnn, ← lE_den, ← fE_den]
          have hput : ∀ n : Nat, (m.put n (g, cur.size)) n = some (g, cur.size) := fun n => by simp [M.put]
          have hce := cE_den
          have hfe := fE_den
          have hle' := lE_den
          by_cases hlf : lE.den = fE.den
          · rw [if_pos hlf] at htwo
            rw [htwo] at hle hcur ⊢
            have hb : (BX.eq lE fE).den = true := by simp [BX.den, hlf]
            rw [hb] at h
            simp only [cond_true] at h
            have hle1 : 1 ≤ cap := hle
            have hcr : CR m 1 (ofL [.sym .i64 fE]) cur.toList := fun j hj => by
              obtain rfl : j = 0 := by omega
              refine ⟨.int .i64 fE.den, ?_, rfl, rfl⟩
              rw [Array.getElem?_toList]; exact hcur 0 (by simp)
            obtain ⟨s1, k1⟩ := Sim.newAt (k := ⟨1, ofL [.sym .i64 fE], 3, false, [], [], none⟩) hS0 hbel hg hh hcr (by rw [hcap]; exact hle1) (fun j hj hx => Nat.not_lt_zero _ hx.2) (fun _ hh => by cases hh)
            refine ⟨_, _, _, _, h, rfl, ⟨(g, cur.size), cap, hput _, rfl, Nat.le_refl _, hle1, fun e => (by cases e), fun _ => (by simp [hcap])⟩, s1.tells ?_, (hk0.trans k1).trans (Keep.tells ..)⟩
            · intro b r hm
              simp only [List.mem_singleton, Prod.mk.injEq] at hm
              obtain ⟨rfl, rfl⟩ := hm
              exact decide_eq_true (show (1 : Int) = cE.den by omega)
          · rw [if_neg hlf] at htwo
            rw [htwo] at hle hcur ⊢
            have hb : (BX.eq lE fE).den = false := by simp [BX.den, hlf]
            rw [hb] at h
            simp only [cond_false] at h
            have hle1 : 2 ≤ cap := hle
            have hcr : CR m 2 (ofL [.sym .i64 fE, .sym .i64 lE]) cur.toList := fun j hj => by
              have hj' : j = 0 ∨ j = 1 := by omega
              rcases hj' with rfl | rfl
              · refine ⟨.int .i64 fE.den, ?_, rfl, rfl⟩
                rw [Array.getElem?_toList]; exact hcur 0 (by simp)
              · refine ⟨.int .i64 lE.den, ?_, rfl, rfl⟩
                rw [Array.getElem?_toList]; exact hcur 1 (by simp)
            obtain ⟨s1, k1⟩ := Sim.newAt (k := ⟨2, ofL [.sym .i64 fE, .sym .i64 lE], 3, false, [], [], none⟩) hS0 hbel hg hh hcr (by rw [hcap]; exact hle1) (fun j hj hx => Nat.not_lt_zero _ hx.2) (fun _ hh => by cases hh)
            refine ⟨_, _, _, _, h, rfl, ⟨(g, cur.size), cap, hput _, rfl, Nat.le_refl _, hle1, fun e => (by cases e), fun _ => (by simp [hcap])⟩, s1.tells ?_, (hk0.trans k1).trans (Keep.tells ..)⟩
            · intro b r hm
              simp only [List.mem_cons, List.mem_singleton, Prod.mk.injEq, List.not_mem_nil, or_false] at hm
              rcases hm with ⟨rfl, rfl⟩ | ⟨rfl, rfl⟩
              · exact decide_eq_true (show (2 : Int) = cE.den by omega)
              · simp only [BX.den, decide_eq_false_iff_not]; omega
        | _ :: _ :: _, ⟨_, hargs⟩ => exact hargs.elim
    · exact h.elim
  · exact h.elim

/-- is a page among a block's? -/
def T47 (args : List V) (σ : Store) (K : V → Store → Prop) : Prop :=
  match args with
  | [.sl (some a) n _ _, .sym .i64 p] => match σ.blk a.b with
    | some k => cond (Nat.beq a.o 0 && (Nat.ble n k.n &&
        (bif Nat.beq n 1 then (match k.get 0 with
          | .sym .i64 x => SX.same x fE
          | _ => false) && (match tellX (.eq lE fE) σ.Γ.l with
          | some true => true
          | _ => false)
        else bif Nat.beq n 2 then (match k.get 0, k.get 1 with
          | .sym .i64 x, .sym .i64 y => SX.same x fE && SX.same y lE
          | _, _ => false) else false)))
        (forkB (.lt p fE) σ fun r σ => cond r (K (.bo false) σ) (forkB (.lt lE p) σ fun r σ => cond r (K (.bo false) σ) (K (.bo true) σ))) False
    | none => False
  | _ => False
theorem T47_ok [Env] {args : List V} {σ : Store} {K : V → Store → Prop} (h : T47 args σ K) : SemCall Tryz.prog 47 args σ K := by
  intro m w args' hargs hS
  unfold T47 at h
  split at h
  · rename_i a n c z p
    split at h
    · rename_i k hk
      match hl : args'.toList, hargs with
      | [], hargs => exact hargs.elim
      | [_], ⟨_, hargs⟩ => exact hargs.elim
      | _ :: _ :: _ :: _, ⟨_, _, hargs⟩ => exact hargs.elim
      | [x, y], ⟨hx, hy, _⟩ =>
        obtain ⟨r, c', hr, rfl, _⟩ := hx
        simp only [VR] at hy
        subst hy
        obtain ⟨q, cs, fz, hq, hh, hsz, hkn, hcs, _⟩ := hS.cells hk
        rw [hr] at hq; cases hq
        have hargs' : args' = #[.slice (some ⟨r.1, a.o, none⟩) n c', .int .i64 p.den] := Array.toList_inj.1 hl
        rw [hargs']
        cases hc : (Nat.beq a.o 0 && (Nat.ble n k.n &&
          (bif Nat.beq n 1 then (match k.get 0 with
            | .sym .i64 x => SX.same x fE
            | _ => false) && (match tellX (.eq lE fE) σ.Γ.l with
            | some true => true
            | _ => false)
          else bif Nat.beq n 2 then (match k.get 0, k.get 1 with
            | .sym .i64 x, .sym .i64 y => SX.same x fE && SX.same y lE
            | _, _ => false) else false))) with
        | false => rw [hc] at h; exact h.elim
        | true =>
          rw [hc] at h
          simp only [cond_true] at h
          simp only [Bool.and_eq_true, nbeq, nble, decide_eq_true_eq] at hc
          obtain ⟨ho, hn, hc⟩ := hc
          rw [ho]
          have b1 := atE_bnd
          have b2 := nE_bnd
          have hfe := fE_den
          have hle := lE_den
          have key : ∃ zs : List Int, n ≤ zs.length ∧ (∀ j, j < zs.length → w.cell? ⟨r.1, 0 + j, none⟩ = some (.int .i64 (zs.getD j 0))) ∧ ((zs.take n).contains p.den = true ↔ (fE.den ≤ p.den ∧ p.den ≤ lE.den)) ∧ n ≤ 2 := by
            by_cases h1 : n = 1
            · subst h1
              simp only [decide_true, cond_true, Bool.and_eq_true] at hc
              obtain ⟨hc1, hc2⟩ := hc
              have hlf : lE.den = fE.den := by
                split at hc2
                · rename_i ht
                  have := tellX_sound hS.fact.l ht
                  simpa [BX.den] using this
                · cases hc2
              refine ⟨[fE.den], by simp, fun j hj => ?_, ?_, by omega⟩
              · have : j = 0 := by simpa using hj
                subst this
                obtain ⟨v, g1, g2, _⟩ := hcs 0 (by omega)
                split at hc1
                · rename_i x hx
                  rw [hx, SX.same_eq hc1] at g2
                  simp only [VR] at g2
                  subst g2
                  rw [Array.getElem?_toList] at g1
                  simp [World.cell?, hh, g1]
                · cases hc1
              · simp only [List.take_succ_cons, List.take_zero, List.contains_cons, List.contains_nil, Bool.or_false, beq_iff_eq]
                omega
            · by_cases h2 : n = 2
              · subst h2
                simp only [h1, decide_false, cond_false, decide_true, cond_true] at hc
                split at hc
                · rename_i x y hx hy
                  simp only [Bool.and_eq_true] at hc
                  refine ⟨[fE.den, lE.den], by simp, fun j hj => ?_, ?_, by omega⟩
                  · have hj' : j = 0 ∨ j = 1 := by simp at hj; omega
                    rcases hj' with rfl | rfl
                    · obtain ⟨v, g1, g2, _⟩ := hcs 0 (by omega)
                      rw [hx, SX.same_eq hc.1] at g2
                      simp only [VR] at g2
                      subst g2
                      rw [Array.getElem?_toList] at g1
                      simp [World.cell?, hh, g1]
                    · obtain ⟨v, g1, g2, _⟩ := hcs 1 (by omega)
                      rw [hy, SX.same_eq hc.2] at g2
                      simp only [VR] at g2
                      subst g2
                      rw [Array.getElem?_toList] at g1
                      simp [World.cell?, hh, g1]
                  · simp only [List.take_succ_cons, List.take_zero, List.contains_cons, List.contains_nil, Bool.or_false, Bool.or_eq_true, beq_iff_eq]
                    omega
                · cases hc
              · simp [h1, h2] at hc
          obtain ⟨zs, hz1, hz2, hz3, hz4⟩ := key
          refine (Tryz.slices_Contains_int r.1 0 n c' zs p.den w hz1 (by omega) hz2).mono ?_
          rintro e w' ⟨rfl, rfl⟩
          obtain ⟨σ0, h, hS0, hk0⟩ := forkB_sound hS h
          cases hb : (BX.lt p fE).den with
          | true =>
            rw [hb] at h
            have hlt : p.den < fE.den := by simpa [BX.den] using hb
            have : (zs.take n).contains p.den = false := by
              cases hcc : (zs.take n).contains p.den with
              | false => rfl
              | true => have := hz3.1 hcc; omega
            rw [this]
            exact ⟨_, _, _, _, h, rfl, rfl, hS0, hk0⟩
          | false =>
            rw [hb] at h
            have hnlt : ¬ p.den < fE.den := by simpa [BX.den] using hb
            simp only [cond_false] at h
            obtain ⟨σ1, h, hS1, hk1⟩ := forkB_sound hS0 h
            cases hb2 : (BX.lt lE p).den with
            | true =>
              rw [hb2] at h
              have hlt : lE.den < p.den := by simpa [BX.den] using hb2
              have : (zs.take n).contains p.den = false := by
                cases hcc : (zs.take n).contains p.den with
                | false => rfl
                | true => have := hz3.1 hcc; omega
              rw [this]
              exact ⟨_, _, _, _, h, rfl, rfl, hS1, hk0.trans hk1⟩
            | false =>
              rw [hb2] at h
              have hnlt2 : ¬ lE.den < p.den := by simpa [BX.den] using hb2
              rw [hz3.2 (by omega)]
              exact ⟨_, _, _, _, h, rfl, rfl, hS1, hk0.trans hk1⟩
    · exact h.elim
  · exact h.elim
end Go.Proofs
