/- What a contract says of a call, told to the evaluator: a row that the call has made. -/
import Derived.Test.YtifpmcejajfagaaGreatEv20
set_option linter.all false
namespace Go.Ev
variable [Env]
open Go.RowKit
variable {P : Program}

/-- behind a call that writes to nothing old: one more block of the new ones is known -/
theorem Sim.newAt {m : M} {σ : Store} {w w' : World} (h : Sim m σ w) (hb : Below w.heap.size w w') {g : Nat} (hg : w.heap.size ≤ g) {k : Blk} {c : Array Value} {fz : Nat × Nat}
    (hh : w'.heap[g]? = some (.cells c k.elem fz)) (hc : CR m k.n k.get c.toList) (hn : k.n ≤ c.size) (hfz : ∀ j, j < c.size → ¬ (fz.1 ≤ j ∧ j < fz.2)) (hz : ZOk k c) :
    Sim (m.put σ.nx (g, c.size)) (σ.new k) w' ∧ Keep m σ w (m.put σ.nx (g, c.size)) (σ.new k) w' := by
  have hgl : g < w'.heap.size := by
    by_cases hl : g < w'.heap.size
    · exact hl
    · rw [Array.getElem?_eq_none (by omega)] at hh; cases hh
  have hws := hb.size
  have hle : M.le m (m.put σ.nx (g, c.size)) := by
    intro b r hb
    have := (h.dom b r hb).1
    unfold M.put
    rw [if_neg (by omega)]; exact hb
  have hold : ∀ x, x < w.heap.size → w'.heap[x]? = w.heap[x]? := hb.block
  refine ⟨⟨?_, ?_, ?_, ?_, ?_, h.fact⟩, ?_⟩
  · intro b r hb
    unfold M.put at hb
    simp only [Store.new]
    split at hb
    · cases hb; rename_i e; subst e; exact ⟨by omega, hgl⟩
    · obtain ⟨h1, h2⟩ := h.dom b r hb; exact ⟨by omega, by omega⟩
  · intro b k' hb
    rw [blk_new] at hb
    split at hb
    · rename_i e; subst e; cases hb
      exact ⟨(g, c.size), by simp [M.put], c, fz, hh, rfl, hn, hc.mono hle, fun _ => hfz, hz⟩
    · rename_i e
      obtain ⟨r, hr, c', fz', h1, h2, h3, h4, h5⟩ := h.obj b k' hb
      exact ⟨r, hle _ _ hr, c', fz', by rw [hold _ (h.dom b r hr).2]; exact h1, h2, h3, h4.mono hle, h5⟩
  · intro b b' k1 k2 r r' hb hro hb' hne hr hr' e
    rw [blk_new] at hb hb'
    unfold M.put at hr hr'
    by_cases e1 : b = σ.nx
    · rw [if_pos e1] at hr hb
      rw [if_neg (fun h => hne (e1.trans h.symm))] at hr' hb'
      cases hr
      have := (h.dom b' r' hr').2
      simp only at e; omega
    · rw [if_neg e1] at hr hb
      by_cases e2 : b' = σ.nx
      · rw [if_pos e2] at hr'
        cases hr'
        have := (h.dom b r hr).2
        simp only at e; omega
      · rw [if_neg e2] at hr' hb'
        exact h.inj b b' k1 k2 r r' hb hro hb' hne hr hr' e
  · intro b x hx
    rw [one_new] at hx
    split at hx
    · cases hx
    · obtain ⟨r, hr, hO⟩ := h.one b x hx
      exact ⟨r, hle _ _ hr, by rw [hold _ (h.dom b r hr).2]; exact hO.mono hle⟩
  · intro b b' x x' r r' hx hx' hne hr hr'
    rw [one_new] at hx hx'
    unfold M.put at hr hr'
    split at hx
    · cases hx
    · split at hx'
      · cases hx'
      · rename_i e1 e2
        rw [if_neg e1] at hr
        rw [if_neg e2] at hr'
        exact h.oinj b b' x x' r r' hx hx' hne hr hr'
  · refine ⟨hle, hb.os, hb.tape, hb.output, hb.size, fun x hx _ => hold x hx, ?_, by simp [Store.new], ?_, ?_, ?_, ?_⟩
    · rintro x hx ⟨b, q, ⟨k', hb, hro⟩ | ⟨y, hy⟩, hq, e⟩
      · rw [blk_new] at hb
        unfold M.put at hq
        split at hb
        · rename_i e1; rw [if_pos e1] at hq; cases hq; simp only at e; omega
        · rename_i e1; rw [if_neg e1] at hq; exact ⟨b, q, .inl ⟨k', hb, hro⟩, hq, e⟩
      · rw [one_new] at hy
        unfold M.put at hq
        split at hy
        · cases hy
        · rename_i e1; rw [if_neg e1] at hq; exact ⟨b, q, .inr ⟨y, hy⟩, hq, e⟩
    · intro b hb; unfold M.put; rw [if_neg (by omega)]
    · intro b k1 k2 hb h1 h2
      rw [blk_new, if_neg (by omega), h1] at h2
      cases h2
      exact ⟨rfl, [], rfl, fun _ _ _ => rfl⟩
    · intro b hb hnone
      rw [blk_new, if_neg (by omega)]; exact hnone
    · rintro x hx ⟨b, q, ⟨k', hb⟩ | ⟨y, hy⟩, hq, e⟩
      · rw [blk_new] at hb
        unfold M.put at hq
        split at hb
        · rename_i e1; rw [if_pos e1] at hq; cases hq; simp only at e; omega
        · rename_i e1; rw [if_neg e1] at hq; exact ⟨b, q, .inl ⟨k', hb⟩, hq, e⟩
      · rw [one_new] at hy
        unfold M.put at hq
        split at hy
        · cases hy
        · rename_i e1; rw [if_neg e1] at hq; exact ⟨b, q, .inr ⟨y, hy⟩, hq, e⟩

/-- a call that keeps everything old: what the evaluator knows is kept -/
theorem Sim.below {m : M} {σ : Store} {w w' : World} (h : Sim m σ w) (hb : Below w.heap.size w w') : Sim m σ w' ∧ Keep m σ w m σ w' :=
  ⟨sim_old h hb.size hb.block, ⟨M.le_refl m, hb.os, hb.tape, hb.output, hb.size, fun i hi _ => hb.block i hi, fun _ _ h => h, Nat.le_refl _, fun _ _ => rfl,
    fun b k k' _ h h' => by rw [h] at h'; cases h'; exact ⟨rfl, [], rfl, fun _ _ _ => rfl⟩, fun _ _ h => h, fun _ _ h => h⟩⟩

/-- many tellings -/
def Store.tells (σ : Store) : List (BX × Bool) → Store
  | [] => σ
  | (b, r) :: l => (σ.tells l).tell b r
theorem Sim.tells {m : M} {σ : Store} {w : World} (h : Sim m σ w) : ∀ {l : List (BX × Bool)}, (∀ b r, (b, r) ∈ l → b.den = r) → Sim m (σ.tells l) w
  | [], _ => h
  | (b, r) :: l, hl => (Sim.tells h (l := l) fun b r hm => hl b r (List.mem_cons_of_mem _ hm)).tell (hl b r (List.mem_cons_self ..))
theorem Keep.tells (m : M) (σ : Store) (w : World) : ∀ (l : List (BX × Bool)), Keep m σ w m (σ.tells l) w
  | [] => Keep.refl ..
  | (b, r) :: l => (Keep.tells m σ w l).trans (Keep.tell ..)
end Go.Ev
