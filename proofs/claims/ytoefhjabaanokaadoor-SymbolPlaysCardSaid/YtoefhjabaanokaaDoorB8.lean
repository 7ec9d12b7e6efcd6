/- Texts that belong together: F0, H12. General lemmas and walks; no conditions. -/
import Derived.Test.YtoefhjabaanokaaDoorRows
import Derived.Test.YtoefhjabaanokaaDoorB5
import Derived.Test.YtoefhjabaanokaaDoorK1
import Derived.Test.YtoefhjabaanokaaDoorB7
import Derived.Lib.LaidTab
import Derived.Handy
import Derived.KernelRfl
import Derived.Test.YtoefhjabaanokaaDoorE1
set_option linter.unusedSimpArgs false
set_option linter.unusedVariables false
set_option linter.unnecessarySimpa false
namespace Go.Mi.Term
open Go.Mi Go.Proofs Go.RowKit
def T0 (w:World):Prop:=Lib.TabIs Tryd.prog w "internal/strconv.uint64pow10" .u64 Lib.pow10Tab
theorem gPow:Tryd.prog.globalNamed "internal/strconv.uint64pow10" =some 0:=by kernel_rfl
theorem hT0:∀w w':World,Below 1 w w'->T0 w->T0 w':=by intro w w' h h0;unfold T0 Lib.TabIs World.var? at h0⊢;rw[gPow]at h0⊢;simp only[AF]at h0⊢;rw[h.block 0 (by omega)];exact h0
theorem T0.size {w:World} (h:T0 w):1<=w.heap.size:=by
 unfold T0 Lib.TabIs World.var? at h;rw[gPow]at h;simp only[AF]at h;rcases Al w.heap.size with h0|h0
 ·rw[zY (by omega)]at h;cases h
 ·exact h0
theorem x9:pU T0:=by
 intro n h0 h1;refine⟨λw hw=> ?_,?_⟩
 ·refine(Tryd.strconv_Itoa n (by omega) (by omega) w hw).mono λe w' ⟨he,k,os,hw'⟩=>⟨_,he,rfl,?_⟩;subst hw';refine⟨rfl,rfl,rfl,by simp [«Sort».grow,World.drewN],λb hb=> ?_⟩;simp only[«Sort».grow,World.drewN];rw[Array.getElem?_append_left hb]
 ·rw[Lib.itoa,zK (by omega)];have :=mq 9 n.toNat (by omega);omega
theorem sY {W : Wd} {known : List Tm} {t : Tm} {k nm : Int} {ad ad2 : Option Addr} {cap l2 cap2 : Nat} {xs : List Value} (w0 : World) (hw0 : T0 w0) (hkl : known.length <= 100000000)
  (hsl:0<known.length->∃b o,ad=some ⟨b,o,none⟩/\b∉([]:List Nat)/\At w0 b o xs) (hks:IsTs w0 [] known xs) (ht:IsT w0 [] t [.int .i64 k,.int .i64 nm,.slice ad2 l2 cap2]):
  ∃b:Bool,(b=true↔may t=true/\Der W (Kn known) (nrm t))/\Calls Tryd.prog 19 (List.toArray [.agg #[.bool W.dh,.bool W.kem],.slice ad known.length cap,.agg #[.int .i64 k,.int .i64 nm,.slice ad2 l2 cap2]]) w0 (Ret λv w'=>v= .bool b/\Gr w0 w'):=
 qD hT0 wE uy x9 w0 hw0.size hw0 hkl hsl hks ht
set_option maxRecDepth 100000 in
theorem T0.of_laid {W:World} {a b:String×DataW Unit} (h:laidMetH Tryd.prog [a,b,("internal/strconv.uint64pow10",Lib.tabData .u64 Lib.pow10Tab)] W) (hp:laidMetH Tryd.prog [a,b,("internal/strconv.uint64pow10",Lib.tabData .u64 Lib.pow10Tab)] W=laidMet Tryd.prog [a,b,("internal/strconv.uint64pow10",Lib.tabData .u64 Lib.pow10Tab)] W):T0 W:=by rw[hp]at h;obtain⟨ps,⟨g0,t0,cs0,f0,p0,q0,hg0,ht0,hv0,hd0,⟨g1,t1,cs1,f1,p1,q1,hg1,ht1,hv1,hd1,⟨g2,t2,cs2,f2,p2,q2,hg2,ht2,hv2,hd2,_⟩,_⟩,_⟩,_⟩:=h;obtain rfl:=Option.some.inj (gPow.symm.trans hg2);obtain rfl:=Option.some.inj ((show(Tryd.prog.globals[0]?).map (·.type)=some 162 by kernel_rfl).symm.trans ht2);unfold T0 Lib.TabIs;rw[hv2,<-Lib.cells_of_tab Tryd.underlying162 Tryd.underlying152 (by kernel_rfl) (by kernel_rfl) hd2]
end Go.Mi.Term
namespace Go.Mi.Term
open Go.Mi Go.Proofs Go.RowKit
end Go.Mi.Term
