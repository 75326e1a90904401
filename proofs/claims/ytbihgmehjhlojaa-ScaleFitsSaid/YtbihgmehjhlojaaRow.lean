/-
The closed facts of a row, part by part.
-/
import Derived.Test.YtbihgmehjhlojaaRox
set_option maxRecDepth 100000
namespace Go.Am
open Go Go.RowKit Go.Proofs
theorem closed_law {f : FuncId} {fn : Func} {s : ChangeSpec} {c : OpenClaim} (k1 : c.wf (OpenSpec.ofChange s) = true) (k4 : fn.params.all (Try.prog.readableRec ·) = true) (k5 : namedTie Try.prog c.named s.vars = true) (k6 : (c.stops == []) = true) (k8 : (c.knobs == []) = true)
    (k10 : (c.inPlace == Try.prog.inPlace f) = true) (k11 : (c.unfollowed == Try.prog.unfollowed f) = true) (k12 : (c.recurses == Try.prog.recurses f) = true) (k13 : (c.named == Try.prog.varsNamed f) = true)
    (k14 : (c.maps == (fn.params.toList ++ s.plain.varTypes Try.prog).any (Try.prog.mapsRec ·)) = true) (k15 : (c.ifaces == (fn.params.toList ++ s.plain.varTypes Try.prog).any (Try.prog.ifacesRec ·)) = true) (k16 : (c.mapsOut == Try.prog.mapsAmong fn.resultTypes.toList) = true)
    (k17 : (c.loops == (fn.params.toList ++ s.plain.varTypes Try.prog).any (Try.prog.loopsFrom ·)) = true) (k18 : (c.wideKeys == (fn.params.toList ++ s.plain.varTypes Try.prog ++ fn.resultTypes.toList).any (Try.prog.wideKeysFrom ·)) = true) (k19 : s.vars.all (Try.prog.varReadable ·) = true)
    (k20 : fn.resultTypes.all (fun t => Try.prog.readableRec t && decide (t < Try.prog.types.size)) = true) (k21 : (c.ifacesOut == fn.resultTypes.toList.any (Try.prog.ifacesRec ·)) = true) (k22 : (c.loopsOut == fn.resultTypes.toList.any (Try.prog.loopsFrom ·)) = true) (k23 : c.plainKeys = true) (k24 : c.shortTexts.isNone = true)
    (k27 : c.lifted = false) (k28 : c.make = .cut) (k29 : c.domain.isEmpty = true) (k29b : c.kinds = []) (k30 : (c.pinned == c.pinnedBy) = true)
    (k31 : (c.veiled == (fn.params.toList ++ s.plain.varTypes Try.prog ++ fn.resultTypes.toList).any (Try.prog.veiledRec ·)) = true) (k32 : c.veiledFits Try.prog fn.params.toList (fn.params.toList ++ s.plain.varTypes Try.prog ++ fn.resultTypes.toList) = true) : joinedFacts Try.prog f fn s c = true := by
  have k23' : (c.plainKeys == Try.prog.plainKeys) = true := by rw [k23, p_keys]; rfl
  have k27' : (c.lifted == Try.prog.liftsFinal) = true := by rw [k27, p_lifts]; rfl
  have k28' : (Try.prog.make == some c.make) = true := by rw [k28, p_make]; rfl
  unfold joinedFacts
  simp only [k1, p_laid, p_maps, k4, k5, k6, p_stops, k8, p_knobs, k10, k11, k12, k13, k14, k15, k16, k17, k18, k19, k20, k21, k22, k23', k24, p_heard, p_mayEnter, k27', k28', k29, k29b, k30, k31, k32, Bool.and_self, if_true, beq_self_eq_true]
end Go.Am
