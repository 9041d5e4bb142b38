/- What refute.Prove may tell, for every problem (claim RefuteProves): the logic, the contracts and the plain laws (part 11) -/
import Derived.Test.YtnakmganodkliaaDoorRows
import Derived.LaidSub
import Derived.Lib.LaidTab
import Derived.Test.YtnakmganodkliaaDoorPrj
set_option linter.unusedVariables false
set_option linter.unusedSimpArgs false
set_option maxRecDepth 100000
namespace Go.Proofs.YtnakmganodkliaaDoorAm
open Go Go.Lib
def isTab (x:String×DataW Unit):Bool:=x.1== "math/bits.deBruijn64tab"
theorem glob_of {W:World} {l:List (String×DataW Unit)} (hl:l.filter isTab=[("math/bits.deBruijn64tab",Go.Proofs.YtnakmganodkliaaDoor.Rows.laid_math_bits_deBruijn64tab)]) (h:laidMetH Tryd.prog l W):GlobOk (oldS W) W:=by
 have h1:=h.filter isTab;rw[hl] at h1;have h2:laidMet Tryd.prog [("math/bits.deBruijn64tab",tabData .u8 tab64)] W:=h1;have h3:TabIs Tryd.prog W "math/bits.deBruijn64tab" .u8 tab64:=tabIs_of_head (P:=Tryd.prog) (g:=0) (t:=140) (e:=5) (n:=64) (by kernel_rfl) (by kernel_rfl) (by kernel_rfl) (by kernel_rfl) (by kernel_rfl) (by kernel_rfl) h2;intro p hp;have hp:p=(0,tab64.map (.int .u8 ·)):=by simpa [gTab] using hp
 subst hp;have hc:=fun i hi=>h3.cell (g:=0) (by kernel_rfl) i hi;refine⟨cell_lt (hc 0 (by decide)),fun j u hj=> ?_⟩;have hlt:j<tab64.length:=by
  have:=(List.getElem?_eq_some_iff.1 hj).1;simpa using this
 rw[hc j hlt];have hj:(tab64.map (Value.int .u8 ·))[j]? =some u:=hj;rw[List.getElem?_map,gQ hlt] at hj;rw[gE,gQ hlt];exact hj
abbrev prT:Ty:= .prod (.prod (.int .i64) (.prod (.int .i64) (.prod (.sl .bool) (.prod (.sl .bool) (.sl .bool))))) (.prod (.sl (.sl (.int .i64))) (.sl (.int .u64)))
theorem small_of {Z:List Int} (h:∀x∈Z,wfS (.int .u64) x):Smalls (Nt Z)∧Mi (Nt Z)=Z:=by
 induction Z with
 |nil=>exact⟨fun x hx=>by simp[Nt] at hx,rfl⟩
 |cons a Z ih=>
  obtain⟨h1,h2⟩:=ih fun x hx=>h x (List.mem_cons_of_mem _ hx);have ha:=h a List.mem_cons_self;have ha0:0≤a∧a<18446744073709551616:=by
   have h1:IntKind.u64.min≤a:=ha.1;have h2:a≤IntKind.u64.max:=ha.2;rw[show IntKind.u64.min=0 by decide] at h1;rw[show IntKind.u64.max=18446744073709551615 by decide] at h2;omega
  refine⟨fun x hx=> ?_,?_⟩
  ·rcases List.mem_cons.1 (show x∈a.toNat::Nt Z from hx) with e|e
   ·subst e;show a.toNat<18446744073709551616;omega
   ·exact h1 x e
  ·show((a.toNat:Nat):Int)::Mi (Nt Z)=a::Z;rw[h2,Int.toNat_of_nonneg ha0.1]
theorem pr_fits {h w:Int} {B R L:List Bool} {W:List (List Int)} {M:List Int} (wf:wfS prT ((h,w,B,R,L),W,M)):(Pr.mk ⟨h,w,B,R,L⟩ W (Nt M)).fits∧Mi (Nt M)=M:=by
 obtain⟨⟨_,_,⟨b,_⟩,⟨r,_⟩,l,_⟩,⟨w1,w2⟩,m1,m2⟩:=wf;simp only[reachBytes,Ty.bytes,Nat.mul_one,IntKind.bits] at b r l w1 m1;have q:=small_of m2;have hl:(Nt M).length=M.length:=by simp[Nt]
 refine⟨⟨⟨b,r,l⟩,by simp only;omega,fun x hx=> ?_,by simp only;omega,q.1⟩,q.2⟩;have h3:=(w2 x hx).1;simp only[reachBytes,Ty.bytes,IntKind.bits] at h3;omega
end Go.Proofs.YtnakmganodkliaaDoorAm
