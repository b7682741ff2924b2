/-
  No cell of these rows narrows 'for every input' (looked for: loops, veiled, ifaces, maps, wideKeys, modest, calm, conditions, laid).
  DERIVED. THE GIVEN ROWS OF THIS SEAT. 5 by the template 'for every input the law returns true; each argument reads behind the call as it read before'; 0 by the template 'total and deterministic' (their statements: YtifpmcejajfagaaGreatTotals.lean).
  GIVEN WITH THE SEED: the statements are not yours to turn. If you find one false, say at which input.
  Laid BY PROGRAM, IN A SANDBOX (cutbox-rows.mjs): the forced cells as the released guide's own fill.sh prints them over the translation ff22cf8d5969342b… (all of the seat's roots in one cut). By AI agents, Wed Nov 11 2026. No macro, syntax, notation, axiom, sorry.
-/
import Derived.Test.YtifpmcejajfagaaGreatChecked
import GoSem.Claim
import GoSem.ClaimJoined
import GoSem.ClaimMapViews
import Derived.JoinedTies
import Derived.KernelRfl
namespace Go.Proofs.YtifpmcejajfagaaGreat
/- THE CELL 'sum', in the pinned program and in every row, IS THE sha256 OF THE DUMP (.gsa) THAT YtifpmcejajfagaaGreatProg.lean LOADS. Nothing in Lean hashes anything: it is a label: what it is worth is what the hold of that sum in a sandbox is worth. -/
noncomputable def Tryz.pinned : Pinned := { name := "ytifpmcejajfagaagreat", sum := "ff22cf8d5969342bd64c7b320cbe963be0593658ce8ad09ae0fcaadc1a35d77b", checked := Tryz.checked }
namespace Rows
def none {H : Type} : Left H := { results := [], args := [] }

/-- 'ferrymanlaw23.CacheDrops': WHATEVER THE INPUT: true; the input reads as it did. -/
def cacheDropsSpec : ChangeSpec := { name := "cacheDrops", fn := fun _ => fun
  | [d1, d2, d3] => { results := [.lit (.bool true)], args := [d1, d2, d3] }
  | _ => none }
def cacheDropsRow : OpenClaim := { program := "ytifpmcejajfagaagreat", sum := "ff22cf8d5969342bd64c7b320cbe963be0593658ce8ad09ae0fcaadc1a35d77b", func := "ferryman/ferrymanlaw23.CacheDrops", spec := "cacheDrops", unfollowed := true, recurses := true, plainKeys := false, apart := false }
def CacheDropsSaid : Prop := cacheDropsRow.holds Tryz.pinned (OpenSpec.ofChange cacheDropsSpec)

/-- ITS FALSE NEIGHBOUR: 'it returns false'. Refute it at one input. -/
def cacheDropsWrong : ChangeSpec := { name := "cacheDrops", fn := fun _ => fun
  | [d1, d2, d3] => { results := [.lit (.bool false)], args := [d1, d2, d3] }
  | _ => none }
def CacheDropsWrongFalsely : Prop := cacheDropsRow.holds Tryz.pinned (OpenSpec.ofChange cacheDropsWrong)

/-- 'ferrymanlaw23.CacheApart': WHATEVER THE INPUT: true; the input reads as it did. -/
def cacheApartSpec : ChangeSpec := { name := "cacheApart", fn := fun _ => fun
  | [d1, d2] => { results := [.lit (.bool true)], args := [d1, d2] }
  | _ => none }
def cacheApartRow : OpenClaim := { program := "ytifpmcejajfagaagreat", sum := "ff22cf8d5969342bd64c7b320cbe963be0593658ce8ad09ae0fcaadc1a35d77b", func := "ferryman/ferrymanlaw23.CacheApart", spec := "cacheApart", unfollowed := true, recurses := true, plainKeys := false, apart := false }
def CacheApartSaid : Prop := cacheApartRow.holds Tryz.pinned (OpenSpec.ofChange cacheApartSpec)

/-- ITS FALSE NEIGHBOUR: 'it returns false'. Refute it at one input. -/
def cacheApartWrong : ChangeSpec := { name := "cacheApart", fn := fun _ => fun
  | [d1, d2] => { results := [.lit (.bool false)], args := [d1, d2] }
  | _ => none }
def CacheApartWrongFalsely : Prop := cacheApartRow.holds Tryz.pinned (OpenSpec.ofChange cacheApartWrong)

/-- 'ferrymanlaw24.ChainOrders': WHATEVER THE INPUT: true; the input reads as it did. -/
def chainOrdersSpec : ChangeSpec := { name := "chainOrders", fn := fun _ => fun
  | [d1, d2, d3] => { results := [.lit (.bool true)], args := [d1, d2, d3] }
  | _ => none }
def chainOrdersRow : OpenClaim := { program := "ytifpmcejajfagaagreat", sum := "ff22cf8d5969342bd64c7b320cbe963be0593658ce8ad09ae0fcaadc1a35d77b", func := "ferryman/ferrymanlaw24.ChainOrders", spec := "chainOrders", unfollowed := true, recurses := true, plainKeys := false, apart := false }
def ChainOrdersSaid : Prop := chainOrdersRow.holds Tryz.pinned (OpenSpec.ofChange chainOrdersSpec)

/-- ITS FALSE NEIGHBOUR: 'it returns false'. Refute it at one input. -/
def chainOrdersWrong : ChangeSpec := { name := "chainOrders", fn := fun _ => fun
  | [d1, d2, d3] => { results := [.lit (.bool false)], args := [d1, d2, d3] }
  | _ => none }
def ChainOrdersWrongFalsely : Prop := chainOrdersRow.holds Tryz.pinned (OpenSpec.ofChange chainOrdersWrong)

/-- 'ferrymanlaw23.CacheFull': WHATEVER THE INPUT: true; the input reads as it did. -/
def cacheFullSpec : ChangeSpec := { name := "cacheFull", fn := fun _ => fun
  | [d1, d2] => { results := [.lit (.bool true)], args := [d1, d2] }
  | _ => none }
def cacheFullRow : OpenClaim := { program := "ytifpmcejajfagaagreat", sum := "ff22cf8d5969342bd64c7b320cbe963be0593658ce8ad09ae0fcaadc1a35d77b", func := "ferryman/ferrymanlaw23.CacheFull", spec := "cacheFull", unfollowed := true, recurses := true, plainKeys := false, apart := false }
def CacheFullSaid : Prop := cacheFullRow.holds Tryz.pinned (OpenSpec.ofChange cacheFullSpec)

/-- ITS FALSE NEIGHBOUR: 'it returns false'. Refute it at one input. -/
def cacheFullWrong : ChangeSpec := { name := "cacheFull", fn := fun _ => fun
  | [d1, d2] => { results := [.lit (.bool false)], args := [d1, d2] }
  | _ => none }
def CacheFullWrongFalsely : Prop := cacheFullRow.holds Tryz.pinned (OpenSpec.ofChange cacheFullWrong)

/-- 'ferrymanlaw24.ChainPlays': WHATEVER THE INPUT: true; the input reads as it did. -/
def chainPlaysSpec : ChangeSpec := { name := "chainPlays", fn := fun _ => fun
  | [d] => { results := [.lit (.bool true)], args := [d] }
  | _ => none }
def chainPlaysRow : OpenClaim := { program := "ytifpmcejajfagaagreat", sum := "ff22cf8d5969342bd64c7b320cbe963be0593658ce8ad09ae0fcaadc1a35d77b", func := "ferryman/ferrymanlaw24.ChainPlays", spec := "chainPlays", unfollowed := true, recurses := true, plainKeys := false, apart := false }
def ChainPlaysSaid : Prop := chainPlaysRow.holds Tryz.pinned (OpenSpec.ofChange chainPlaysSpec)

/-- ITS FALSE NEIGHBOUR: 'it returns false'. Refute it at one input. -/
def chainPlaysWrong : ChangeSpec := { name := "chainPlays", fn := fun _ => fun
  | [d] => { results := [.lit (.bool false)], args := [d] }
  | _ => none }
def ChainPlaysWrongFalsely : Prop := chainPlaysRow.holds Tryz.pinned (OpenSpec.ofChange chainPlaysWrong)

/- THE SECOND FORM. 'bulk': how many values and letters a reading holds, each counted each time it is reached (what is shared counts as often as it is met; a slice's spare places count too). A statement '..UptoSaid' is the law's where the arguments, and the package variables that the reading takes, are together of bulk at most 1048576: NARROWER than '..Said'. Prove '..Said' where nothing that the law and all that it calls make is longer than what came in: it says more and counts as full. Else prove '..UptoSaid'. A law counts once. -/
mutual
def uptoBulk {H : Type} : DataW H → Nat
  | .lit (.string bytes) => bytes.length + 1
  | .lit _ => 1
  | .nil => 1
  | .ptr d => uptoBulk d + 1
  | .slice elems spare => uptoBulkAll elems + uptoBulkAll spare + 1
  | .agg parts => uptoBulkAll parts + 1
  | .iface _ d => uptoBulk d + 1
  | .map entries => uptoBulkEntries entries + 1
  | .held _ => 1
def uptoBulkAll {H : Type} : List (DataW H) → Nat
  | [] => 0
  | d :: r => uptoBulk d + uptoBulkAll r
def uptoBulkEntries {H : Type} : List (Lit × DataW H) → Nat
  | [] => 0
  | x :: r => uptoBulkEntry x + uptoBulkEntries r
def uptoBulkEntry {H : Type} : Lit × DataW H → Nat
  | (.string bytes, d) => bytes.length + uptoBulk d + 1
  | (_, d) => uptoBulk d + 1
 end
def uptoSmall : (H : Type) → List (DataW H) → Bool := fun _ ds => decide (uptoBulkAll ds ≤ 1048576)
def OpenSpec.upto (s : _root_.Go.ChangeSpec) : _root_.Go.OpenSpec := { _root_.Go.OpenSpec.ofChange s with cond := some uptoSmall }

/-- 'ferrymanlaw23.CacheDrops', WHERE WHAT IT READS IS OF BULK AT MOST 1048576: true; the input reads as it did. -/
def cacheDropsUptoRow : OpenClaim := { program := "ytifpmcejajfagaagreat", sum := "ff22cf8d5969342bd64c7b320cbe963be0593658ce8ad09ae0fcaadc1a35d77b", func := "ferryman/ferrymanlaw23.CacheDrops", spec := "cacheDrops", unfollowed := true, recurses := true, plainKeys := false, apart := false, narrowed := true }
def CacheDropsUptoSaid : Prop := cacheDropsUptoRow.holds Tryz.pinned (OpenSpec.upto cacheDropsSpec)

/-- 'ferrymanlaw23.CacheApart', WHERE WHAT IT READS IS OF BULK AT MOST 1048576: true; the input reads as it did. -/
def cacheApartUptoRow : OpenClaim := { program := "ytifpmcejajfagaagreat", sum := "ff22cf8d5969342bd64c7b320cbe963be0593658ce8ad09ae0fcaadc1a35d77b", func := "ferryman/ferrymanlaw23.CacheApart", spec := "cacheApart", unfollowed := true, recurses := true, plainKeys := false, apart := false, narrowed := true }
def CacheApartUptoSaid : Prop := cacheApartUptoRow.holds Tryz.pinned (OpenSpec.upto cacheApartSpec)

/-- 'ferrymanlaw24.ChainOrders', WHERE WHAT IT READS IS OF BULK AT MOST 1048576: true; the input reads as it did. -/
def chainOrdersUptoRow : OpenClaim := { program := "ytifpmcejajfagaagreat", sum := "ff22cf8d5969342bd64c7b320cbe963be0593658ce8ad09ae0fcaadc1a35d77b", func := "ferryman/ferrymanlaw24.ChainOrders", spec := "chainOrders", unfollowed := true, recurses := true, plainKeys := false, apart := false, narrowed := true }
def ChainOrdersUptoSaid : Prop := chainOrdersUptoRow.holds Tryz.pinned (OpenSpec.upto chainOrdersSpec)

/-- 'ferrymanlaw23.CacheFull', WHERE WHAT IT READS IS OF BULK AT MOST 1048576: true; the input reads as it did. -/
def cacheFullUptoRow : OpenClaim := { program := "ytifpmcejajfagaagreat", sum := "ff22cf8d5969342bd64c7b320cbe963be0593658ce8ad09ae0fcaadc1a35d77b", func := "ferryman/ferrymanlaw23.CacheFull", spec := "cacheFull", unfollowed := true, recurses := true, plainKeys := false, apart := false, narrowed := true }
def CacheFullUptoSaid : Prop := cacheFullUptoRow.holds Tryz.pinned (OpenSpec.upto cacheFullSpec)

/-- 'ferrymanlaw24.ChainPlays', WHERE WHAT IT READS IS OF BULK AT MOST 1048576: true; the input reads as it did. -/
def chainPlaysUptoRow : OpenClaim := { program := "ytifpmcejajfagaagreat", sum := "ff22cf8d5969342bd64c7b320cbe963be0593658ce8ad09ae0fcaadc1a35d77b", func := "ferryman/ferrymanlaw24.ChainPlays", spec := "chainPlays", unfollowed := true, recurses := true, plainKeys := false, apart := false, narrowed := true }
def ChainPlaysUptoSaid : Prop := chainPlaysUptoRow.holds Tryz.pinned (OpenSpec.upto chainPlaysSpec)

end Rows
end Go.Proofs.YtifpmcejajfagaaGreat
