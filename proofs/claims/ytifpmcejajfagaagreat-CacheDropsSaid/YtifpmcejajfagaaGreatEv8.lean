/- One operation, in a row of operations. -/
import Derived.Test.YtifpmcejajfagaaGreatEvM
set_option linter.all false
namespace Go.Ev
variable [Env]
variable {P : Program}

/-- what an operation's run comes to -/
def outOf (v : Option V) (r : Value) (w : World) : Result Next :=
  match v with
  | some _ => .ok (.value r) w
  | none => .ok .skip w

theorem evOp_sound {m : M} {σ : Store} {w : World} (h : Sim m σ w) {ρ : Operand → Option V} {a : Act} (hf : RR m ρ a) {o : Oper} {rs : Rs} (he : evOp P ρ σ o.op = some rs) (hc : rs.c = true) :
    ∃ r m' w', (execOp a.eval o).run P w = outOf rs.v r w' ∧ VR m' (rs.v.getD .junk) (match rs.v with | some _ => r | none => undef) ∧ Sim m' rs.σ w' ∧ Keep m σ w m' rs.σ w' := by
  obtain ⟨dst, op, type, pos, after, guard⟩ := o
  simp only at he
  have pure1 : ∀ {x : Option V} {s : Sem Value} {op' : Op}, valRs σ x = some rs → (∀ v, x = some v → ∃ r, s.run P w = .ok r w ∧ VR m v r) →
      (execOp a.eval ⟨dst, op, type, pos, after, guard⟩).run P w = (s.run P w).andThen (fun v w' => .ok (.value v) w') →
      ∃ r m' w', (execOp a.eval ⟨dst, op, type, pos, after, guard⟩).run P w = outOf rs.v r w' ∧ VR m' (rs.v.getD .junk) (match rs.v with | some _ => r | none => undef) ∧ Sim m' rs.σ w' ∧ Keep m σ w m' rs.σ w' := by
    intro x s op' h1 h2 h3
    cases x with
    | none => simp [valRs] at h1
    | some v =>
      simp only [valRs, Option.some.injEq] at h1
      subst h1
      obtain ⟨r, g1, g2⟩ := h2 v rfl
      exact ⟨r, m, w, by rw [h3, g1]; rfl, g2, h, Keep.refl ..⟩
  have pure2 : ∀ {x : Option (Bool × V)} {s : Sem Value}, pureRs σ x = some rs → (∀ v, x = some (true, v) → ∃ r, s.run P w = .ok r w ∧ VR m v r) →
      (execOp a.eval ⟨dst, op, type, pos, after, guard⟩).run P w = (s.run P w).andThen (fun v w' => .ok (.value v) w') →
      ∃ r m' w', (execOp a.eval ⟨dst, op, type, pos, after, guard⟩).run P w = outOf rs.v r w' ∧ VR m' (rs.v.getD .junk) (match rs.v with | some _ => r | none => undef) ∧ Sim m' rs.σ w' ∧ Keep m σ w m' rs.σ w' := by
    intro x s h1 h2 h3
    cases x with
    | none => simp [pureRs] at h1
    | some cv =>
      obtain ⟨c, v⟩ := cv
      simp only [pureRs, Option.some.injEq] at h1
      subst h1
      simp only at hc
      subst hc
      obtain ⟨r, g1, g2⟩ := h2 v rfl
      exact ⟨r, m, w, by rw [h3, g1]; rfl, g2, h, Keep.refl ..⟩
  cases op with
  | move x => exact pure1 (s := pure (a.eval x)) (op' := .move x) he (fun v hv => ⟨_, rfl, hf _ _ hv⟩) rfl
  | assign x => exact pure1 (s := pure (a.eval x)) (op' := .move x) he (fun v hv => ⟨_, rfl, hf _ _ hv⟩) rfl
  | pick c x y =>
    simp only [evOp] at he
    split at he
    · rename_i hb
      have hb' := hf _ _ hb
      simp only [VR] at hb'
      exact pure1 (s := pure (a.eval x)) (op' := .move x) he (fun v hv => ⟨_, rfl, hf _ _ hv⟩) (by simp [execOp, hb', asBool])
    · rename_i hb
      have hb' := hf _ _ hb
      simp only [VR] at hb'
      exact pure1 (s := pure (a.eval y)) (op' := .move x) he (fun v hv => ⟨_, rfl, hf _ _ hv⟩) (by simp [execOp, hb', asBool])
    · cases he
  | alloc t =>
    simp only [evOp] at he
    split at he
    · rename_i n z hz
      cases he
      obtain ⟨r, m', w', g1, g2, g3, g4⟩ := alloc_sound h hz
      exact ⟨r, m', w', by simp only [execOp, Sem.run_bind, g1, Result.andThen_ok, Sem.run_pure]; rfl, g2, g3, g4⟩
    · cases he
  | box t x =>
    simp only [evOp] at he
    split at he
    · rename_i v hv
      cases hs : Nat.blt 0 v.size with
      | false => rw [hs] at he; simp at he
      | true =>
        rw [hs] at he
        simp only [cond_true, Option.some.injEq] at he
        subst he
        obtain ⟨r, m', w', g1, g2, g3, g4⟩ := box_sound (P := P) h (t := t) (by simpa [nblt] using hs) (hf _ _ hv)
        exact ⟨r, m', w', by simp only [execOp, Sem.run_bind, g1, Result.andThen_ok, Sem.run_pure]; rfl, g2, g3, g4⟩
    · cases he
  | build t parts =>
    simp only [evOp] at he
    split at he
    · rename_i ps hps
      have hp := opdParts_sound hf hps
      refine pure1 (s := Instr.build t (parts.map fun (i, x) => (i, a.eval x))) (op' := .move (.func 0)) he (fun v hv => build_sound hv ?_ w) (by simp [execOp])
      simpa using hp
    · cases he
  | buildSlice t len parts =>
    simp only [evOp] at he
    split at he
    · rename_i ps hps
      have hp := opdParts_sound hf hps
      obtain ⟨k, v, r, m', w', g0, _, g1, g2, g3, g4⟩ := buildSlice_sound h he (ps' := parts.map fun (i, x) => (i, a.eval x)) (by simpa using hp)
      exact ⟨r, m', w', by rw [g0]; simp only [execOp, Sem.run_bind, g1, Result.andThen_ok, Sem.run_pure]; rfl, by rw [g0]; exact g2, g3, g4⟩
    · cases he
  | load t x =>
    simp only [evOp] at he
    split at he
    · rename_i v hv
      obtain ⟨r, v', g0, g1, g2, g3⟩ := load_sound h he hc (hf _ _ hv)
      exact ⟨r, m, w, by rw [g0]; simp only [execOp, Sem.run_bind, g2, Result.andThen_ok, Sem.run_pure]; rfl, by rw [g0]; exact g3, by rw [g1]; exact h, by rw [g1]; exact Keep.refl ..⟩
    · cases he
  | store t x y =>
    simp only [evOp] at he
    split at he
    · rename_i u v hu hv
      obtain ⟨w', g0, g1, g2, g3⟩ := store_sound h he hc (hf _ _ hu) (hf _ _ hv)
      exact ⟨undef, m, w', by rw [g0]; simp only [execOp, Sem.run_bind, g1, Result.andThen_ok, Sem.run_pure]; rfl, by rw [g0]; rfl, g2, g3⟩
    · cases he
  | nilCheck x =>
    simp only [evOp] at he
    split at he
    · rename_i pl hv
      cases he
      have hx := hf _ _ hv
      obtain ⟨r, hr, e⟩ := hx
      exact ⟨_, m, w, by simp only [execOp, e]; rfl, ⟨r, hr, rfl⟩, h, Keep.refl ..⟩
    · rename_i f n g hv
      cases he
      have hx := hf _ _ hv
      obtain ⟨xs, e, h1, h2⟩ := hx
      exact ⟨_, m, w, by simp only [execOp, e]; rfl, ⟨xs, rfl, h1, h2⟩, h, Keep.refl ..⟩
    · cases he
  | binOp op t x y yt =>
    simp only [evOp] at he
    split at he
    · rename_i u v hu hv
      exact pure2 (s := do eqGuard op t x y (a.eval x) (a.eval y); binOp op t (a.eval x) (a.eval y)) he
        (fun r hr => evBin_sound hr rfl (hf _ _ hu) (hf _ _ hv) x y w) (by simp only [execOp, Sem.run_bind]; rfl)
    · cases he
  | unOp op t x =>
    simp only [evOp] at he
    split at he
    · rename_i u hu
      exact pure1 (s := Op.unary op (a.eval x)) (op' := .move x) he (fun r hr => evUn_sound hr (hf _ _ hu) w) (by simp only [execOp, Sem.run_bind]; rfl)
    · cases he
  | convert src dst x =>
    simp only [evOp] at he
    split at he
    · rename_i u hu
      obtain ⟨v, r, rfl, g1, g2⟩ := cvt_sound h he (hf _ _ hu)
      exact ⟨r, m, w, by simp only [execOp, Sem.run_bind, g1, Result.andThen_ok, Sem.run_pure]; rfl, g2, h, Keep.refl ..⟩
    · cases he
  | makeMap t rv =>
    simp only [evOp] at he
    split at he
    · rename_i u hu
      have hu' : OptR m u (rv.map a.eval) := by
        cases rv with
        | none => simp only [opdO, Option.some.injEq] at hu; subst hu; trivial
        | some x =>
          simp only [opdO] at hu
          cases hx : ρ x with
          | none => rw [hx] at hu; cases hu
          | some v => rw [hx] at hu; simp only [Option.map_some, Option.some.injEq] at hu; subst hu; exact hf _ _ hx
      obtain ⟨v, r, m', w', g0, _, g1, g2, g3, g4⟩ := makeMap_sound h he hu'
      exact ⟨r, m', w', by rw [g0]; simp only [execOp, Sem.run_bind, g1, Result.andThen_ok, Sem.run_pure]; rfl, by rw [g0]; exact g2, g3, g4⟩
    · cases he
  | lookup t x ix ok =>
    simp only [evOp] at he
    split at he
    · rename_i u v hu hv
      obtain ⟨v, r, rfl, g1, g2⟩ := lookup_sound h he (hf _ _ hu) (hf _ _ hv)
      exact ⟨r, m, w, by simp only [execOp, Sem.run_bind, g1, Result.andThen_ok, Sem.run_pure]; rfl, g2, h, Keep.refl ..⟩
    · cases he
  | mapUpdate t x k v =>
    simp only [evOp] at he
    split at he
    · rename_i u1 u2 u3 h1 h2 h3
      obtain ⟨w', g0, _, g1, g3, g4⟩ := mapUpdate_sound h he (hf _ _ h1) (hf _ _ h2) (hf _ _ h3)
      exact ⟨undef, m, w', by rw [g0]; simp only [execOp, Sem.run_bind, g1, Result.andThen_ok, Sem.run_pure]; rfl, by rw [g0]; rfl, g3, g4⟩
    · cases he
  | insert t x k v =>
    simp only [evOp] at he
    split at he
    · rename_i u1 u2 u3 h1 h2 h3
      obtain ⟨w', g0, _, g1, g3, g4⟩ := mapUpdate_sound h he (hf _ _ h1) (hf _ _ h2) (hf _ _ h3)
      exact ⟨undef, m, w', by rw [g0]; simp only [execOp, Sem.run_bind, g1, Result.andThen_ok, Sem.run_pure]; rfl, by rw [g0]; rfl, g3, g4⟩
    · cases he
  | range t x =>
    simp only [evOp] at he
    split at he
    · rename_i u hu
      obtain ⟨v, r, m', w', g0, _, g1, g2, g3, g4⟩ := range_sound h he (hf _ _ hu)
      exact ⟨r, m', w', by rw [g0]; simp only [execOp, Sem.run_bind, g1, Result.andThen_ok, Sem.run_pure]; rfl, by rw [g0]; exact g2, g3, g4⟩
    · cases he
  | entry x =>
    simp only [evOp] at he
    split at he
    · rename_i u hu
      obtain ⟨v, r, rfl, g1, g2⟩ := entry_sound (P := P) h he (hf _ _ hu)
      exact ⟨r, m, w, by simp only [execOp, Sem.run_bind, g1, Result.andThen_ok, Sem.run_pure]; rfl, g2, h, Keep.refl ..⟩
    · cases he
  | makeFunc f first cap =>
    simp only [evOp] at he
    cases hfi : first.isEmpty with
    | false => rw [hfi] at he; simp at he
    | true =>
      rw [hfi] at he
      simp only [cond_true] at he
      split at he
      · rename_i l hl
        cases he
        have hvs := opds_sound hf hl
        have hemp : first = #[] := by simpa using hfi
        subst hemp
        refine ⟨_, m, w, by simp only [execOp, Instr.makeFunc, Sem.run_bind, Sem.run_pure, Result.andThen_ok]; rfl, ?_, h, Keep.refl ..⟩
        refine ⟨cap.map a.eval, by simp, by simpa using (VRs.length hvs).symm, fun j hj => ?_⟩
        obtain ⟨u, h1, h2⟩ := VRs.get hvs j (by have := VRs.length hvs; simp at this hj; omega)
        have : (cap.map a.eval)[j] = u := by
          rw [List.getElem?_map] at h1
          have hj' : j < cap.size := by simpa using hj
          simp [hj'] at h1
          simpa using h1
        rw [this]; exact h2
      · cases he
  | makeSlice t l c =>
    simp only [evOp] at he
    split at he
    · rename_i u v hu hv
      obtain ⟨k, v', r, m', w', g0, _, g1, g2, g3, g4⟩ := makeSlice_sound h he hc (hf _ _ hu) (hf _ _ hv)
      exact ⟨r, m', w', by rw [g0]; simp only [execOp, Sem.run_bind, g1, Result.andThen_ok, Sem.run_pure]; rfl, by rw [g0]; exact g2, g3, g4⟩
    · cases he
  | slice t x lo hi mx =>
    simp only [evOp] at he
    split at he
    · rename_i u lo' hi' hu hlo hhi
      have vo : ∀ {z : Option Operand} {y : Option V}, opdO ρ z = some y → valOpt m y (z.map a.eval) := by
        intro z y hz
        rcases opdO_sound hf hz with ⟨rfl, rfl⟩ | ⟨x', v', rfl, rfl, hv⟩
        · exact .inl ⟨rfl, rfl⟩
        · exact .inr ⟨_, _, rfl, rfl, hv⟩
      exact pure2 (s := Instr.sliceAt t (a.eval x) (lo.map a.eval) (hi.map a.eval) none) he
        (fun r hr => slice_sound hr rfl (hf _ _ hu) (vo hlo) (vo hhi) w) (by simp only [execOp, Sem.run_bind]; rfl)
    · cases he
  | fieldAddr t x f =>
    simp only [evOp] at he
    split at he
    · rename_i u hu
      exact pure1 (s := Instr.fieldAt t (a.eval x) f) (op' := .move x) he (fun r hr => fieldAddr_sound hr (hf _ _ hu) w) (by simp only [execOp, Sem.run_bind]; rfl)
    · cases he
  | field t x f =>
    simp only [evOp] at he
    split at he
    · rename_i u hu
      exact pure2 (s := Instr.field t (a.eval x) f) he (fun r hr => field_sound hr rfl (hf _ _ hu) w) (by simp only [execOp, Sem.run_bind]; rfl)
    · cases he
  | indexAddr t x ix =>
    simp only [evOp] at he
    split at he
    · rename_i u v hu hv
      exact pure2 (s := Instr.indexAt t (a.eval x) (a.eval ix)) he (fun r hr => indexAddr_sound hr rfl (hf _ _ hu) (hf _ _ hv) w) (by simp only [execOp, Sem.run_bind]; rfl)
    · cases he
  | index t x ix =>
    simp only [evOp] at he
    split at he
    · rename_i u v hu hv
      exact pure2 (s := Instr.index t (a.eval x) (a.eval ix)) he (fun r hr => index_sound hr rfl (hf _ _ hu) (hf _ _ hv) w) (by simp only [execOp, Sem.run_bind]; rfl)
    · cases he
  | extract x ix =>
    simp only [evOp] at he
    split at he
    · rename_i n f hv
      cases hlt : Nat.blt ix n with
      | false => rw [hlt] at he; simp at he
      | true =>
        rw [hlt] at he
        simp only [cond_true, Option.some.injEq] at he
        subst he
        obtain ⟨cs, e, h1, h2⟩ := hf _ _ hv
        have hix : ix < cs.size := by rw [h1]; simpa [nblt] using hlt
        refine ⟨cs[ix], m, w, ?_, h2 ix hix, h, Keep.refl ..⟩
        simp only [execOp, e, Instr.extract, Array.getElem?_eq_getElem hix, Sem.run_bind, Sem.run_pure, Result.andThen_ok]
        rfl
    · cases he
  | _ => simp only [evOp] at he; cases he

end Go.Ev
