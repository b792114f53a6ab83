/- What is proved: 'signalboxlaw26.ScopeMany' hands back true, whatever the input. -/
import Derived.Test.YthodeippnckeoaaMany3
import Derived.Test.YthodeippnckeoaaManyA
namespace Go.Vm.Scope
open Go Go.Proofs Go.Vm.Parse Go.Vm.ScopeLaw
theorem many_law (kind : Int) (hkind : Lit.wf (.int .i64 kind) = true) (num : Int) (hnum : Lit.wf (.int .i64 num) = true) : Gives ((run Try.prog E1).call 4 [.int .i64 kind, .int .i64 num] Heap.empty) fun o _ => o = .val (.bool true) :=
  many_walk (fun hk h1 hn => chk_all hk h1 hn) kind hkind num hnum
end Go.Vm.Scope
