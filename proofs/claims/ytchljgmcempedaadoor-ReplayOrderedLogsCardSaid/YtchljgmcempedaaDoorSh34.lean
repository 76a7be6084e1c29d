/- Contracts by types, for functions with a range over a function (nothing is claimed here). -/
import Derived.Test.YtchljgmcempedaaDoorSh29
import Derived.Test.YtchljgmcempedaaDoorSh33
set_option linter.unusedVariables false
set_option linter.unusedSimpArgs false
namespace Go.Proofs.YtchljgmcempedaaDoor
open Go Go.RowKit
theorem spec_sigM {E : Env} (ok : EnvOk E) {n : Nat} {f : FuncId} {as rs : List AT} {F : ArgT as → TupT rs} {pre : ArgT as → Bool} (L : ArgT as → Nat → Option (St → LoopSpec)) (N : List (Nat × (ETy × TypeId)))
    (e : ∀ a, pre a = true → okSL (encArgs as a) → (evFM E (L a) N n f (encArgs as a)).ends fun r => decO rs r = some (F a)) : SpecOk E f (sig as rs F pre) :=
  fun svs x hx h w us hag hg ru => by
    obtain ⟨a, h1, h2, rfl⟩ := map_pre hx
    have ru' := decArgs_rep h1 ru
    exact (evFM_ok ok (L a) N (e a h2 (repL_ok ru')) hag hg ru').mono fun en w' ⟨v, r, h', q1, q2, q4, q5, q6, q7, q8⟩ =>
      have q9 : Rep h' Th0 (encO rs (F a)) v := decO_rep q2 q8
      ⟨v, h', q1, q4, q5, q6, q7, q9, rep_ok q9⟩
end Go.Proofs.YtchljgmcempedaaDoor
