/-
  More forms of functions. By an AI agent.
-/
import Derived.Test.YtkibkahknibgfaaA23
namespace Aml
open Go Go.RowKit
set_option linter.unusedVariables false
set_option linter.unusedSimpArgs false
section
variable {P : Program} {w0 : World}
/-- A function, walked: less may be said of its result, and parts of the store are forgotten. -/
theorem fnP (ss : List Nat := []) {f : FuncId} {fn : Func} {c : Code} {rs : List ResultVar} {args : List DV} {S : St} {K : DV → St → Prop} (hm : P.follows .mixedOrders = true) (hf : P.funcs[f]? = some fn) (hb : fn.body = some c) (hrs : fn.results = rs.toArray) (hc : okC ss c = true)
    (h : vw P w0 ss c (args ++ List.replicate (fn.ntmps - args.length) ud) S fun e fr S' => (e = .normal ∨ e = .ret) ∧ resK P fr S' rs fun d => ∃ d' S'', Wk d d' ∧ Sub S'' S' ∧ K d' S'') : ACall P w0 f args S K := by
  have h1 : ACall P w0 f args S (fun d S' => ∃ d' S'', Wk d d' ∧ Sub S'' S' ∧ K d' S'') := acall_of hf hb hrs (vw_sound hm c hc h)
  intro g vs w k1 k2
  refine (h1 g vs w k1 k2).mono ?_
  rintro e w' ⟨v, g', d, S', q1, q2, q3, q4, d', S'', p1, p2, p3⟩
  exact ⟨v, g', d', S'', q1, q2, q3.forget p2.box p2.acc, p1 _ _ q4, p3⟩
/-- Less is said of what a box holds. -/
theorem wkBoxK (b : Nat) (ds' : List DV) {ds : List DV} {c : Code} {fr : List DV} {S : St} {Q : Exit → List DV → St → Prop} (hb : lk S.box b = some ds) (hw : WkL ds ds') (h : AWp P w0 c fr ⟨up S.box b ds', S.acc⟩ Q) : AWp P w0 c fr S Q :=
  fun g a w h1 h2 h3 => h g a w (h1.wkBox hb fun _ _ _ r => hw.spec r) h2 h3
end
end Aml
