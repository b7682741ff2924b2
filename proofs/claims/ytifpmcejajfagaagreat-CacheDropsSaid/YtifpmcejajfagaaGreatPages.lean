/- What (block).pages of the program tells: of a place and a size of at most 256 bytes the pages of the bytes, one or two. -/
import Derived.Test.YtifpmcejajfagaaGreatShelf
import Derived.WalkKit
import Derived.Deep.LoopGhost
import Derived.Deep.Onto
set_option linter.all false
namespace Go.Proofs
open Go.RowKit
theorem Tz.info3 : (Tryz.prog.info? 3).map (fun i => (i.zero, i.size, i.bytes)) = some (some (.int .i64 0), 1, 8) := by kernel_rfl

/-- the pages of a place's bytes, byte by byte -/
def pgs (pc : Int) (j : Nat) : List Int := (List.range j).map fun (i : Nat) => (pc + (i : Int)) / 256
theorem pgs_len (pc : Int) (j : Nat) : (pgs pc j).length = j := by simp [pgs]
theorem pgs_succ (pc : Int) (j : Nat) : pgs pc (j + 1) = pgs pc j ++ [(pc + (j : Int)) / 256] := by
  simp [pgs, List.range_succ]

theorem heap_putRow {α : Type} [Inhabited α] (enc : α → Value) (w : World) (g off : Nat) (d : Array α) (k : Nat) : (Go.Sort.putRow enc w g off d).heap[k]? = if g = k then (w.heap[k]?).map (Go.Sort.onCells (Go.Sort.putCells enc off d)) else w.heap[k]? := by
  simp [Go.Sort.putRow, Go.Sort.mapBlock, Array.getElem?_modify]
theorem heap_alloc_cell0 (w : World) (v : Value) (e : TypeId) : (w.alloc (Obj.cells #[v] e)).cell? (Addr.add ⟨w.heap.size, 0, none⟩ 0) = some v := by
  simp [Addr.add]
theorem cell_one (w : World) (v : Value) (e : TypeId) (j : Nat) (u : Value) (hu : [v][j]? = some u) : (w.alloc (Obj.cells #[v] e)).cell? (Addr.add ⟨w.heap.size, 0, none⟩ j) = some u := by
  cases j with
  | zero => simp only [List.getElem?_cons_zero, Option.some.injEq] at hu; subst hu; exact heap_alloc_cell0 w _ _
  | succ t => simp at hu
theorem one_cell (k : IntKind) (n : Int) : ∀ u ∈ [Value.int k n], u.oneCell' = true := by
  intro u hu
  simp only [List.mem_singleton] at hu; subst hu; rfl
theorem ownBlock_ge {w : World} {base : Nat} {e : TypeId} {size : Nat} {v : Value} {n : Nat} {xs : List Value} {k : Nat} (h : w.ownsRow base e size v n xs) (hk : v.ownBlock = some k) : base ≤ k := by
  rcases h.2 with ⟨rfl, _⟩ | ⟨g, cap, cur, rfl, hg, _⟩
  · cases hk
  · cases hk; exact hg
theorem pgs_get (pc : Int) (n m : Nat) (h : m < n) : (pgs pc n).toArray[m]! = (pc + (m : Int)) / 256 := by
  rw [getElem!_pos _ m (by simp [pgs_len]; exact h)]
  simp [pgs]
/-- one page, or two -/
def two (pc : Int) (m : Nat) : List Int := if m = 0 then [] else if (pc + m - 1) / 256 = pc / 256 then [pc / 256] else [pc / 256, (pc + m - 1) / 256]
theorem compact_pgs (pc : Int) (n : Nat) (hn : n ≤ 256) : ∀ m, m ≤ n → Lib.compactUpTo (pgs pc n).toArray m = two pc m := by
  intro m
  induction m with
  | zero => intro _; rfl
  | succ m ih =>
    intro hm
    rw [Lib.compactUpTo_succ, ih (by omega)]
    by_cases h0 : m = 0
    · subst h0
      rw [Lib.keeps_lt_one _ 0 (by omega), if_pos rfl, pgs_get pc n 0 (by omega)]
      simp [two]
    · have e1 := pgs_get pc n m (by omega)
      have e2 := pgs_get pc n (m - 1) (by omega)
      have c1 : ((m - 1 : Nat) : Int) = (m : Int) - 1 := by omega
      rw [c1] at e2
      by_cases h : (pc + (m : Int)) / 256 = (pc + ((m : Int) - 1)) / 256
      · rw [Lib.keeps_neg (by omega) (by rw [e1, e2]; exact h)]
        have h3 : (pc + ((m + 1 : Nat) : Int) - 1) / 256 = (pc + m - 1) / 256 := by
          have a1 : pc + ((m + 1 : Nat) : Int) - 1 = pc + m := by omega
          have a2 : pc + (m : Int) - 1 = pc + ((m : Int) - 1) := by omega
          rw [a1, a2]; exact h
        simp only [two, h0, if_false, h3, Bool.false_eq_true, List.append_nil]
        simp
      · rw [Lib.keeps_pos (by rw [e1, e2]; exact h), if_pos rfl, e1]
        have a1 : pc + ((m + 1 : Nat) : Int) - 1 = pc + m := by omega
        have a2 : pc + (m : Int) - 1 = pc + ((m : Int) - 1) := by omega
        have h4 : (pc + (m : Int) - 1) / 256 = pc / 256 := by rw [a2]; omega
        have h5 : ¬ (pc + (m : Int)) / 256 = pc / 256 := by rw [← h4, a2]; exact h
        simp only [two, h0, if_false, h4, if_true, a1, h5]
        simp
theorem compact_two (pc : Int) (n : Nat) (hn : n ≤ 256) : Lib.compact (pgs pc n) = two pc n := by
  unfold Lib.compact
  rw [pgs_len]
  exact compact_pgs pc n hn n (Nat.le_refl _)
theorem two_le (pc : Int) (n : Nat) : (two pc n).length ≤ n := by
  unfold two
  split
  · simp
  · split
    · simp; omega
    · rename_i h1 h2
      have : n ≠ 1 := by intro h; subst h; apply h2; congr 1; omega
      simp; omega
theorem compact_le (pc : Int) (j : Nat) (hj : j ≤ 256) : (Lib.compact (pgs pc j)).length ≤ j := by rw [compact_two pc j hj]; exact two_le pc j
set_option maxHeartbeats 1600000 in
set_option maxRecDepth 1000000 in
theorem pages_walk (pc : Int) (n : Nat) (h0 : 0 ≤ pc) (h1 : pc ≤ 100000) (n0 : 1 ≤ n) (n1 : n ≤ 256) (v2 v3 v4 v5 v6 v7 : Value) (w : World) :
    Calls Tryz.prog 44 #[.agg #[.int .u32 pc, .int .u32 n, v2, v3, v4, v5, v6, v7]] w fun e w' => ∃ g cap cur, e = .returned (.slice (some ⟨g, 0, none⟩) (Lib.compact (pgs pc n)).length cap) ∧ w.heap.size ≤ g ∧
      w'.heap[g]? = some (.cells cur 3 (0, 0)) ∧ (Lib.compact (pgs pc n)).length ≤ cap ∧ cur.size = cap ∧ (∀ j, j < (Lib.compact (pgs pc n)).length → cur[j]? = ((Lib.compact (pgs pc n))[j]?).map (Value.int .i64)) ∧ Below w.heap.size w w' := by
  obtain ⟨i0, hi, hz0, hz1, hz2⟩ := info_parts Tz.info3
  go_enter Tryz.func44, Tryz.ntmps44
  go_wp2
  have hbox : (w.alloc (Obj.cells #[Value.int IntKind.u32 pc, Value.int IntKind.u32 n, v2, v3, v4, v5, v6, v7] 98)).cell? ⟨w.heap.size, 0, none⟩ = some (.int .u32 pc) := by simp
  have hlow : Below w.heap.size w (w.alloc (Obj.cells #[Value.int IntKind.u32 pc, Value.int IntKind.u32 n, v2, v3, v4, v5, v6, v7] 98)) := (Below.refl _ w).alloc (Nat.le_refl _) _
  have hsz : (w.alloc (Obj.cells #[Value.int IntKind.u32 pc, Value.int IntKind.u32 n, v2, v3, v4, v5, v6, v7] 98)).heap.size = w.heap.size + 1 := by simp
  generalize hW : (w.alloc (Obj.cells #[Value.int IntKind.u32 pc, Value.int IntKind.u32 n, v2, v3, v4, v5, v6, v7] 98)) = W1 at *
  go_loopg [3, 8] n (fun k d c wr => ∃ j, k = n - j ∧ j ≤ n ∧ c = .int .u32 j ∧ wr.ownsRow W1.heap.size 3 1 d j ((pgs pc j).map (Value.int .i64)) ∧ Below W1.heap.size W1 wr)
  case atStart => exact ⟨0, rfl, Nat.zero_le _, rfl, ⟨rfl, .inl ⟨rfl, rfl⟩⟩, Below.refl _ _⟩
  case round =>
    obtain ⟨j, hk, hj, rfl, hown, hbel⟩ := hrel
    by_cases hlt : j < n
    · have hx : wr.cell? ⟨w.heap.size, 0, none⟩ = some (.int .u32 pc) := (hbel.cell (p := ⟨w.heap.size, 0, none⟩) (by show w.heap.size < W1.heap.size; omega)).trans hbox
      have hlt' : (j : Int) < (n : Int) := by omega
      have hbs := hbel.size
      have hj63 : j + 1 ≤ maxLen := by unfold maxLen; omega
      go_wp2_with (at_builtin; refine wpList_append_own _ rfl _ _ 46 rfl W1.heap.size 3 i0 (.int .i64 0) 1 8 Tryz.underlying46 hi hz0 hz1 hz2 rfl (by decide) _ _ _ rfl (hown.alloc _) ⟨wr.heap.size, 0, none⟩ 1 1 [.int .i64 ((pc + j) / 256)] rfl rfl (cell_one wr _ _) (one_cell _ _) hj63 (by omega) (by simp; omega) ?_; intro v' w' hown' hgrow hnil)
      · go_wp2
        go_roundg (n - (j + 1))
        case measure => omega
        case rel =>
          refine ⟨j + 1, rfl, by omega, by simp, ?_, ?_⟩
          · rw [pgs_succ, List.map_append]
            exact hown'
          · refine (hbel.alloc hbs _).grown hgrow (by simp; omega) fun k hk => ownBlock_ge hown hk
    · obtain rfl : j = n := by omega
      obtain ⟨hl1, ⟨_, hnil⟩ | ⟨g, cap, cur, rfl, hg, hcur, hle, hcap, hsize, htake⟩⟩ := hown
      · omega
      simp only [Nat.mul_one] at hsize htake
      have hlen := pgs_len pc j
      have hcell : ∀ t, t < j → cur[t]? = some (.int .i64 ((pgs pc j)[t]!)) := fun t ht => by
        have h1 := congrArg (fun l => l[t]?) htake
        simp only [List.getElem?_take, if_pos ht, List.getElem?_map] at h1
        rw [← Array.getElem?_toList, h1, List.getElem!_eq_getElem?_getD, List.getElem?_eq_getElem (by omega)]; rfl
      have hH : Go.Sort.Holds (Value.int .i64) wr g 0 (pgs pc j).toArray := fun t ht => by
        have ht' : t < j := by simpa [hlen] using ht
        refine ⟨?_, ?_⟩
        · simp [World.cell?, hcur, hcell t ht']
        · simp [World.frozen?, hcur]
      have hCC := Tryz.slices_Compact_int g 0 cap (pgs pc j) wr hH (by rw [pgs_len]; omega) (by omega)
      have hcl : (Lib.compact (pgs pc j)).length ≤ j := compact_le pc j n1
      rw [hlen] at hCC
      go_wp2_with (go_at_call 46; refine hCC.mono ?_; rintro e w' ⟨rfl, q, rfl⟩)
      go_ret
      refine ⟨g, cap, Go.Sort.putCells (Value.int .i64) 0 (Lib.compact (pgs pc j) ++ List.replicate (j - (Lib.compact (pgs pc j)).length) 0).toArray cur, rfl, by omega, ?_, by omega, ?_, ?_, ?_⟩
      · rw [heap_putRow, if_pos rfl]
        show (wr.heap[g]?).map _ = _
        rw [hcur]; rfl
      · simp [Go.Sort.putCells, hsize]
      · intro t ht
        have : t < cur.size := by omega
        simp [Go.Sort.putCells, this, List.getElem?_append_left ht, List.getElem!_eq_getElem?_getD]
        rw [if_pos (by omega), List.getElem?_eq_getElem ht]
        rfl
      · have hb0 := hlow.trans (hbel.mono (by omega : w.heap.size ≤ W1.heap.size))
        refine ⟨hb0.os, hb0.tape, hb0.output, by simpa using hb0.size, fun k hk => ?_⟩
        rw [heap_putRow, if_neg (by omega)]
        exact hb0.block k hk
end Go.Proofs
