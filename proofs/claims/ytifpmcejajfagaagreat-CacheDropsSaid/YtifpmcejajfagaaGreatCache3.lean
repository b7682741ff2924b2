/- known() of the law tells true; the law CacheDrops is run for every place, size and page. -/
import Derived.Test.YtifpmcejajfagaaGreatCache2
set_option linter.all false
namespace Go.Proofs
open Go.Ev Go.RowKit
def S3 : Sums := S2.and 83 (memoT decTab)
def S4 : Sums := S3.and 153 (memoT encTab)
def knownTab : List (List V × V) := [([], .bo true)]
theorem known_run : memoAll Tryz.prog noX S4 100 20 8 knownTab = (Sh.row 1).says := by kernel_rfl
def S5 : Sums := S4.and 8 (memoT knownTab)
def S6 : Sums := S5.and 44 T44
def S7 : Sums := S6.and 47 T47
def dropsArgs : List V := [.sym .u16 (.v 0 .u16), .sym .u8 (.v 1 .u8), .sym .u8 (.v 2 .u8)]
def dropsSh : Sh := .n (.n .l (.n .l .l)) (.n .l (.n .l .l))
theorem drops_run : fnF Tryz.prog noX S7 100 20 3 dropsArgs s0 (fun v _ => v = .bo true) = dropsSh.says := by kernel_rfl
theorem S1_ok [Env] : SumsOk Tryz.prog S1 := noS_ok.memo (memo_of mixed noX_ok noS_ok (of_run ▸ Sh.ok _) (by kernel_rfl))
theorem S2_ok [Env] : SumsOk Tryz.prog S2 := S1_ok.memo (memo_of mixed noX_ok noS_ok (find_run ▸ Sh.ok _) (by kernel_rfl))
theorem S3_ok [Env] : SumsOk Tryz.prog S3 := S2_ok.memo (memo_of mixed noX_ok S2_ok (dec_run ▸ Sh.ok _) (by kernel_rfl))
theorem S4_ok [Env] : SumsOk Tryz.prog S4 := S3_ok.memo (memo_of mixed noX_ok S2_ok (enc_run ▸ Sh.ok _) (by kernel_rfl))
theorem S5_ok [Env] : SumsOk Tryz.prog S5 := S4_ok.memo (memo_of mixed noX_ok S4_ok (known_run ▸ Sh.ok _) (by kernel_rfl))
theorem S6_ok [Env] : SumsOk Tryz.prog S6 := S5_ok.and fun _ _ _ h => T44_ok h
theorem S7_ok [Env] : SumsOk Tryz.prog S7 := S6_ok.and fun _ _ _ h => T47_ok h
/-- the law's walk -/
theorem drops_calls (pc size pg : Int) (h0 : 0 ≤ pc) (h1 : pc ≤ 65535) (h2 : 0 ≤ size) (h3 : size ≤ 255) (h4 : 0 ≤ pg) (h5 : pg ≤ 255) (W : World) :
    Calls Tryz.prog 3 #[.int .u16 pc, .int .u8 size, .int .u8 pg] W fun e w' => e = .returned (.bool true) ∧ Below W.heap.size W w' := by
  letI : Env := ⟨fun i => match i with
    | 0 => pc
    | 1 => size
    | _ => pg⟩
  refine law_run mixed noX_ok S7_ok (args := dropsArgs) ?_ holds_nil drops_run W
  refine ⟨?_, ?_, ?_, trivial⟩
  · show Value.int .u16 pc = .int .u16 (IntKind.u16.wrap pc)
    rw [wrap_id (by simp only [intMin]; omega) (by simp only [intMax]; omega)]
  · show Value.int .u8 size = .int .u8 (IntKind.u8.wrap size)
    rw [wrap_id (by simp only [intMin]; omega) (by simp only [intMax]; omega)]
  · show Value.int .u8 pg = .int .u8 (IntKind.u8.wrap pg)
    rw [wrap_id (by simp only [intMin]; omega) (by simp only [intMax]; omega)]
end Go.Proofs
