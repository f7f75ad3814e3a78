/- The last step of a row whose call has written memory of its own alone: what the answer and the arguments read, together with 'nothing old has turned', is what the row asks behind the call, where the row asks nothing of a second call. -/
import Derived.Test.YtihlofngjfhjpaaRows
import Derived.WalkKit
import Derived.ProofKit
import Derived.OpenShut
import Derived.Below
import Derived.Carry
import Derived.ChangeSame
namespace Go.Proofs.Ytihlofngjfhjpaa
open Go.ChangeShapes Go.WideShapes Go.ChangeAt Go.RowKit
section
variable {H : Type} {enc : TypeId × Value → H} {P : Program}
/-- No variable is listed, the arguments read as they did, nothing old has turned. -/
theorem post_below {f : Func} {s : ChangeSpec} {W W' : World} {args : Array Value} {v : Value} {ds : List (DataW H)} {before : List MemPlace} 
    (hW : DataW.Whole enc P f.params.toList s.vars false W args.toList ds [] before)
    (hres : DataW.TrodAll enc P W' W.heap.size (fun _ => false) false f.resultTypes.toList (v.resultList f.resultTypes.size) (s.fn H (ds ++ [])).results [])
    (hargs : DataW.TrodAll enc P W' 0 (fun b => decide (b < W.heap.size)) true f.params.toList args.toList (s.fn H (ds ++ [])).args before)
    (hv : DataW.TrodVars enc P W' (fun b => decide (b < W.heap.size)) s.vars (s.fn H (ds ++ [])).vars []) (hb : Below W.heap.size W W') :
    s.post enc P f false true false false W args v W' :=
  ⟨ds, [], before, [], before, [], hW, hres, hargs, hv, hb.frame _, fun h => by cases h⟩
end
end Go.Proofs.Ytihlofngjfhjpaa
