/- The closed facts of a claim's frame, one theorem each: those of the program alone once for all laws; joined_of joins them. -/
import Derived.Test.YtfondpakbiagjaaGreatDoorRows
import Derived.WalkKit
import Derived.ProofKit
import Derived.OpenShut
import Derived.JoinedOf
namespace Go.Proofs.YtfondpakbiagjaaGreatDoor
open Go.ChangeShapes Go.WideShapes Go.ChangeAt Go.RowKit
theorem joined_of {P : Program} {f : FuncId} {fn : Func} {s : ChangeSpec} {c : OpenClaim} {lf pk : Bool} {mk : Make}
    (h1 : laidOutB P = true) (h2 : mapsRowed P = true) (h3 : (P.stops == []) = true) (h4 : (P.stopKnobs == []) = true) (h5 : P.plainKeys = pk) (h6 : P.stopsHeard = true) (h7 : P.mayEnter = true) (h8 : P.liftsFinal = lf) (h9 : P.make = some mk)
    (c0 : c.wf (OpenSpec.ofChange s) = true) (c1 : fn.params.all (P.readableRec ·) = true) (c2 : namedTie P c.named s.vars = true) (c3 : (c.stops == []) = true) (c4 : (c.knobs == []) = true)
    (r1 : (c.inPlace == P.inPlace f) = true) (r2 : (c.unfollowed == P.unfollowed f) = true) (r3 : (c.recurses == P.recurses f) = true) (r4 : (c.named == P.varsNamed f) = true)
    (d1 : (c.maps == (fn.params.toList ++ s.plain.varTypes P).any (P.mapsRec ·)) = true) (d2 : (c.ifaces == (fn.params.toList ++ s.plain.varTypes P).any (P.ifacesRec ·)) = true) (d3 : (c.mapsOut == P.mapsAmong fn.resultTypes.toList) = true) (d4 : (c.loops == (fn.params.toList ++ s.plain.varTypes P).any (P.loopsFrom ·)) = true)
    (d5 : (c.wideKeys == (fn.params.toList ++ s.plain.varTypes P ++ fn.resultTypes.toList).any (P.wideKeysFrom ·)) = true) (d6 : s.vars.all (P.varReadable ·) = true) (d7 : fn.resultTypes.all (fun t => P.readableRec t && decide (t < P.types.size)) = true) (d8 : (c.ifacesOut == fn.resultTypes.toList.any (P.ifacesRec ·)) = true) (d9 : (c.loopsOut == fn.resultTypes.toList.any (P.loopsFrom ·)) = true)
    (e1 : c.plainKeys = pk) (e2 : c.shortTexts.isNone = true) (e3 : c.lifted = lf) (e4 : c.make = mk)
    (e5 : (c.kinds == (if c.domain.isEmpty then [] else fn.params.toList.map fun t => match P.underlying t with | some (.int k) => some k | _ => none)) = true) (e6 : (c.pinned == c.pinnedBy) = true)
    (e7 : (c.veiled == (fn.params.toList ++ s.plain.varTypes P ++ fn.resultTypes.toList).any (P.veiledRec ·)) = true) (e8 : c.veiledFits P fn.params.toList (fn.params.toList ++ s.plain.varTypes P ++ fn.resultTypes.toList) = true) : joinedFacts P f fn s c = true := by
  have g5 : (c.plainKeys == P.plainKeys) = true := by rw [e1, h5]; exact beq_self_eq_true _
  have g8 : (c.lifted == P.liftsFinal) = true := by rw [e3, h8]; exact beq_self_eq_true _
  have g9 : (P.make == some c.make) = true := by rw [e4, h9]; exact beq_self_eq_true _
  unfold joinedFacts
  simp only [Bool.and_eq_true]
  exact ⟨⟨⟨⟨⟨⟨⟨⟨⟨⟨⟨⟨⟨⟨⟨⟨⟨⟨⟨⟨⟨⟨⟨⟨⟨⟨⟨⟨⟨⟨⟨c0, h1⟩, h2⟩, c1⟩, c2⟩, c3⟩, h3⟩, c4⟩, h4⟩, r1⟩, r2⟩, r3⟩, r4⟩, d1⟩, d2⟩, d3⟩, d4⟩, d5⟩, d6⟩, d7⟩, d8⟩, d9⟩, g5⟩, e2⟩, h6⟩, h7⟩, g8⟩, g9⟩, e5⟩, e6⟩, e7⟩, e8⟩
namespace Facts
theorem laid : laidOutB Tryz.prog = true := by kernel_rfl
theorem rowed : mapsRowed Tryz.prog = true := by kernel_rfl
theorem stops : (Tryz.prog.stops == []) = true := by kernel_rfl
theorem knobs : (Tryz.prog.stopKnobs == []) = true := by kernel_rfl
theorem keys : Tryz.prog.plainKeys = Rows.hallCasingsRow.plainKeys := by kernel_rfl
theorem heard : Tryz.prog.stopsHeard = true := by kernel_rfl
theorem enter : Tryz.prog.mayEnter = true := by kernel_rfl
theorem lifts : Tryz.prog.liftsFinal = Rows.hallCasingsRow.lifted := by kernel_rfl
theorem make : Tryz.prog.make = some Rows.hallCasingsRow.make := by kernel_rfl
end Facts
end Go.Proofs.YtfondpakbiagjaaGreatDoor
