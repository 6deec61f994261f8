/- What 'parse.Program' puts off turns nothing where nobody panics. -/
import Derived.Test.YteidbbogbhbckaaGreatDoorSv4
import Derived.Test.YteidbbogbhbckaaGreatDoorProg
import Derived.Tactics
import Derived.Tactics2
import Derived.TacticsInMore
import Derived.RecoverIn
import Derived.Laws.Pointers
set_option linter.unusedVariables false
set_option linter.unusedSimpArgs false
namespace Go.Proofs.YteidbbogbhbckaaGreatDoor
open Go.Ev
theorem as_nil (w : World) : (Instr.typeAssert .nilIface 20 190 true).run Tryz.prog w = .ok (.tuple #[.agg #[.int .i64 0], .bool false]) w := by kernel_rfl
theorem tm3 (a b c : Value) : (#[a, b, c] ++ Array.replicate (19 - #[a, b, c].size) undef : Array Value) = #[a, b, c, undef, undef, undef, undef, undef, undef, undef, undef, undef, undef, undef, undef, undef, undef, undef, undef] := by rfl
set_option maxRecDepth 100000 in
theorem ben (args : Array Value) (hn : args.size = 3) (w : World) : CallsDIn Fence.wide 0 Tryz.prog 173 args .returning w (BenEnd w) := by
  obtain ⟨a, b, c, rfl⟩ : ∃ a b c, args = #[a, b, c] := by
    obtain ⟨l⟩ := args
    match l, hn with
    | [a, b, c], _ => exact ⟨a, b, c, rfl⟩
  refine callsDIn_of_wpSIn Tryz.func173 rfl trivial fun c₀ cs hu => ?_
  rw [Tryz.ntmps173, tm3]
  apply wpSIn_seq
  apply wpSIn_region
  simp [wpOpsSIn, go_sem, recoverD, hu, Exit.thenS]
  refine wpSIn_of_wpIn rfl ?_
  have ha := as_nil
  gi_wp2
  refine ⟨rfl, .returning, ?_, .tuple #[], ?_, ⟨⟨_, rfl⟩, rfl, ⟨by simp, fun b' hb => alloc_old hb, ⟨rfl, rfl, rfl⟩⟩⟩⟩
  · cases c₀; simp_all
  · simp [results, Tryz.results173]
theorem ben_runs : RunsFn Tryz.prog 173 := ⟨Tryz.f173, Tryz.func173, by kernel_rfl, by kernel_rfl⟩
end Go.Proofs.YteidbbogbhbckaaGreatDoor
