/- A walk of functions that the law reaches: what each call comes to. -/
import Derived.Test.YtldlldamnliejaaBw23
import Derived.Test.YtldlldamnliejaaProg
import Derived.KernelRfl
namespace Go.Bw
open Go Go.Proofs
theorem ti3 : ti Try.prog 3 = ⟨true, false, 1, 8, 0, 8, [], [], [.val (.int .i64 0)], .i64⟩ := by kernel_rfl
theorem ti4 : ti Try.prog 4 = ⟨true, false, 1, 1, 0, 9, [], [], [.val (.bool false)], .i64⟩ := by kernel_rfl
theorem ti5 : ti Try.prog 5 = ⟨true, false, 1, 1, 0, 8, [], [], [.val (.int .u8 0)], .u8⟩ := by kernel_rfl
theorem ti9 : ti Try.prog 9 = ⟨true, false, 1, 16, 0, 2, [], [], [.val (.string ⟨#[]⟩)], .i64⟩ := by kernel_rfl
theorem ti22 : ti Try.prog 22 = ⟨true, false, 1, 24, 3, 1, [], [], [.sl true [] []], .i64⟩ := by kernel_rfl
theorem ti23 : ti Try.prog 23 = ⟨true, false, 1, 24, 9, 1, [], [], [.sl true [] []], .i64⟩ := by kernel_rfl
theorem ti25 : ti Try.prog 25 = ⟨true, false, 1, 24, 37, 1, [], [], [.sl true [] []], .i64⟩ := by kernel_rfl
theorem ti32 : ti Try.prog 32 = ⟨true, true, 4, 64, 0, 3, [some 0, some 1, some 2, some 3], [1, 1, 1, 1], [.sl true [] [], .sl true [] [], .val (.int .i64 0), .val (.int .i64 0)], .i64⟩ := by kernel_rfl
theorem ti33 : ti Try.prog 33 = ⟨true, false, 1, 24, 35, 1, [], [], [.sl true [] []], .i64⟩ := by kernel_rfl
theorem ti35 : ti Try.prog 35 = ⟨true, true, 3, 48, 0, 3, [some 0, some 1, some 2], [1, 1, 1], [.val (.string ⟨#[]⟩), .val (.int .i64 0), .sl true [] []], .i64⟩ := by kernel_rfl
theorem ti37 : ti Try.prog 37 = ⟨true, true, 4, 64, 0, 3, [some 0, some 1], [1, 3], [.val (.string ⟨#[]⟩), .val (.string ⟨#[]⟩), .val (.int .i64 0), .sl true [] []], .i64⟩ := by kernel_rfl
theorem ti39 : ti Try.prog 39 = ⟨true, false, 1, 8, 0, 7, [], [], [.val .nilFunc], .i64⟩ := by kernel_rfl
theorem ti40 : ti Try.prog 40 = ⟨true, false, 1, 8, 0, 7, [], [], [.val .nilFunc], .i64⟩ := by kernel_rfl
theorem ti44 : ti Try.prog 44 = ⟨true, false, 1, 24, 78, 1, [], [], [.sl true [] []], .i64⟩ := by kernel_rfl
theorem ti50 : ti Try.prog 50 = ⟨true, true, 8, 128, 0, 3, [some 0, some 1, some 4, some 7], [1, 3, 3, 1], [.sl true [] [], .val (.string ⟨#[]⟩), .val (.int .i64 0), .sl true [] [], .val (.string ⟨#[]⟩), .val (.int .i64 0), .sl true [] [], .val (.int .i64 0)], .i64⟩ := by kernel_rfl
theorem ti58 : ti Try.prog 58 = ⟨true, false, 1, 8, 0, 7, [], [], [.val .nilFunc], .i64⟩ := by kernel_rfl
theorem ti60 : ti Try.prog 60 = ⟨true, false, 1, 8, 0, 7, [], [], [.val .nilFunc], .i64⟩ := by kernel_rfl
theorem ti61 : ti Try.prog 61 = ⟨true, false, 1, 8, 0, 7, [], [], [.val .nilFunc], .i64⟩ := by kernel_rfl
theorem ti68 : ti Try.prog 68 = ⟨true, false, 1, 8, 0, 8, [], [], [.val (.int .i64 0)], .i64⟩ := by kernel_rfl
theorem ti74 : ti Try.prog 74 = ⟨true, false, 1, 8, 0, 7, [], [], [.val .nilFunc], .i64⟩ := by kernel_rfl
theorem ti75 : ti Try.prog 75 = ⟨true, false, 1, 8, 0, 7, [], [], [.val .nilFunc], .i64⟩ := by kernel_rfl
theorem ti76 : ti Try.prog 76 = ⟨true, false, 1, 8, 0, 8, [], [], [.val (.int .i64 0)], .i64⟩ := by kernel_rfl
theorem ti78 : ti Try.prog 78 = ⟨true, true, 4, 48, 0, 3, [some 0, some 1, some 2, some 3], [1, 1, 1, 1], [.val (.string ⟨#[]⟩), .val (.int .i64 0), .val (.int .i64 0), .val (.string ⟨#[]⟩)], .i64⟩ := by kernel_rfl
theorem zk3 : zeroKnown Try.prog 3 = true := by kernel_rfl
theorem zk4 : zeroKnown Try.prog 4 = true := by kernel_rfl
theorem zk5 : zeroKnown Try.prog 5 = true := by kernel_rfl
theorem zk9 : zeroKnown Try.prog 9 = true := by kernel_rfl
theorem zk22 : zeroKnown Try.prog 22 = true := by kernel_rfl
theorem zk23 : zeroKnown Try.prog 23 = true := by kernel_rfl
theorem zk25 : zeroKnown Try.prog 25 = true := by kernel_rfl
theorem zk32 : zeroKnown Try.prog 32 = true := by kernel_rfl
theorem zk33 : zeroKnown Try.prog 33 = true := by kernel_rfl
theorem zk35 : zeroKnown Try.prog 35 = true := by kernel_rfl
theorem zk37 : zeroKnown Try.prog 37 = true := by kernel_rfl
theorem zk39 : zeroKnown Try.prog 39 = true := by kernel_rfl
theorem zk40 : zeroKnown Try.prog 40 = true := by kernel_rfl
theorem zk44 : zeroKnown Try.prog 44 = true := by kernel_rfl
theorem zk50 : zeroKnown Try.prog 50 = true := by kernel_rfl
theorem zk58 : zeroKnown Try.prog 58 = true := by kernel_rfl
theorem zk60 : zeroKnown Try.prog 60 = true := by kernel_rfl
theorem zk61 : zeroKnown Try.prog 61 = true := by kernel_rfl
theorem zk68 : zeroKnown Try.prog 68 = true := by kernel_rfl
theorem zk74 : zeroKnown Try.prog 74 = true := by kernel_rfl
theorem zk75 : zeroKnown Try.prog 75 = true := by kernel_rfl
theorem zk76 : zeroKnown Try.prog 76 = true := by kernel_rfl
theorem zk78 : zeroKnown Try.prog 78 = true := by kernel_rfl
end Go.Bw
