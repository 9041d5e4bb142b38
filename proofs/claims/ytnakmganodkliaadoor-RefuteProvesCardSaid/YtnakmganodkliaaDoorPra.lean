/- What refute.Prove may tell, for every problem (claim RefuteProves): the logic, the contracts and the plain laws (part 1) -/
import Derived.WalkKit
set_option linter.unusedVariables false
set_option linter.unusedSimpArgs false
namespace Go.Proofs.YtnakmganodkliaaDoorAm
open Go
def tab64:List Int:=[0,1,56,2,57,49,28,3,61,58,42,50,38,29,17,4,62,47,59,36,45,43,51,22,53,39,33,30,24,18,12,5,63,55,48,27,60,41,37,16,46,35,44,21,52,32,23,11,54,26,40,15,34,20,31,10,25,14,19,9,13,8,7,6]
def gTab:List (Nat×List Value):=[(0,tab64.map (.int .u8 ·))]
theorem gTab_full:∀p∈gTab,p.2≠ []:=by
 intro p hp;simp only[gTab,List.mem_singleton] at hp;subst hp;simp[tab64]
end Go.Proofs.YtnakmganodkliaaDoorAm
