/- Walks: package symbol. -/
import Derived.Test.YtoefhjabaanokaaDoorH41
set_option linter.unusedSimpArgs false
set_option linter.unusedVariables false
set_option linter.unnecessarySimpa false
namespace Go.Mi.Term
open Go.Mi Go.Proofs Go.RowKit
set_option maxRecDepth 100000 in
set_option maxHeartbeats 4000000 in
theorem fF {X:List Nat} {t:Tm} {v:Value} (w0:World) (hX:∀x,x∈X->x<w0.heap.size) (hv:TmIs w0 X t v):Calls Tryd.prog 67 (List.toArray [v]) w0 (Ret λv w'=>Gr w0 w'/\TmIs w' X (bL t) v):=by
 refine dI [tmS t] hX ⟨hv,zo⟩ Tryd.func67 rfl Tryd.ntmps67 rfl λac hS=> ?_;refine wp_seq ?_;refine rx [e1 0 [(0,tmS t)] (nwS 0),⟨1,[],nwS 1,[1],true⟩] [1,2] (Bl [stB noR [],stB noR [(26,tmS t)],stB noR [(26,tmS t),(26,cH 3)]]) 2 [(1,nwS 0),(2,nwS 1)] ⟨⟨cY rfl rfl rfl rfl (bT _).sized rfl,zo⟩,⟨cC rfl rfl rfl z26 rfl rfl,zo⟩,zo⟩ hS rfl λac g w hS=> ?_;refine wp_seq ?_;refine rx [e0 0 [(1,nwS 0)] (tmS t),e0 1 [(3,tmS t)] (tfS [t]),e0 2 [(4,tfS [t])] (tmS (bL t)),e1 3 [(2,nwS 1),(5,tmS (bL t))] bB] [2] (Bl [stB noR [(26,tmS t),(26,cH 3)],stB noR [(26,tmS t),(26,tmS (bL t))]]) 1 [(2,nwS 1)] ⟨⟨cg (k:=0) rfl rfl rfl rfl (by decide) u26 rfl b6 (bT _).sized,zo⟩,⟨de rfl rfl rfl,zo⟩,⟨bN λξ g w hB hH=>by
  obtain⟨ad,l,c,e,hT⟩:=TlIs.tm (hH 4 _ rfl) 2;refine⟨_,⟨_,_,_,rfl,hT⟩,cM (ps:=[(0,.int .i64 2),(2,.slice ad l c)]) u26 z26 (λw=>qg w _ u26) ?_ px⟩;rw[<-e];rfl,zo⟩,⟨cB (k:=1) (m:=3) rfl rfl rfl rfl rfl rfl (by decide) b6 (cf 3) (bT _),zo⟩,zo⟩ hS rfl λac g w hS=> ?_
 refine wp_ret ?_;obtain⟨v0,b,a⟩:=hS.rv (x:=2) (k:=1) (m:=3) (ty:=26) rfl rfl (by decide) u26 rfl b6 (bT _).sized;exact bv hS.f.frm (bw Tryd.results67 b) ⟨hS.gr0,a.sub hS.sub0⟩
set_option maxRecDepth 100000 in
set_option maxHeartbeats 4000000 in
theorem gc {X:List Nat} {k:Int} {a b:Tm} {v u:Value} (w0:World) (hX:∀x,x∈X->x<w0.heap.size) (hv:TmIs w0 X a v) (hu:TmIs w0 X b u):Calls Tryd.prog 69 (List.toArray [vI k,v,u]) w0 (Ret λv w'=>Gr w0 w'/\TmIs w' X (two k a b) v):=by
 refine dI [eI k,tmS a,tmS b] hX ⟨rfl,hv,hu,zo⟩ Tryd.func69 rfl Tryd.ntmps69 rfl λac hS=> ?_;refine wp_seq ?_;refine rx [e1 0 [(1,tmS a)] (nwS 0),⟨1,[(2,tmS b)],nwS 1,[1],true⟩,⟨2,[],nwS 2,[2],true⟩] [0,4,5,6] (Bl [stB noR [],stB noR [(26,tmS a)],stB noR [(26,tmS a),(26,tmS b)],stB noR [(26,tmS a),(26,tmS b),(26,cH 3)]]) 3 [(0,eI k),(4,nwS 0),(5,nwS 1),(6,nwS 2)] ⟨⟨cY rfl rfl rfl rfl (bT _).sized rfl,zo⟩,⟨cY rfl rfl rfl rfl (bT _).sized rfl,zo⟩,⟨cC rfl rfl rfl z26 rfl rfl,zo⟩,zo⟩ hS rfl λac g w hS=> ?_;refine wp_seq ?_;refine rx [e0 1 [(4,nwS 0)] (tmS a),e0 2 [(5,nwS 1)] (tmS b),e0 3 [(8,tmS a),(9,tmS b)] (tfS [a,b]),e0 4 [(7,eI k),(10,tfS [a,b])] (tmS (two k a b)),e1 5 [(6,nwS 2),(11,tmS (two k a b))] bB] [6] (Bl [stB noR [(26,tmS a),(26,tmS b),(26,cH 3)],stB noR [(26,tmS a),(26,tmS b),(26,tmS (two k a b))]]) 1 [(6,nwS 2)] ⟨⟨cg (k:=0) rfl rfl rfl rfl (by decide) u26 rfl b6 (bT _).sized,zo⟩,⟨cg (k:=1) rfl rfl rfl rfl (by decide) u26 rfl b6 (bT _).sized,zo⟩,⟨cX rfl rfl rfl rfl,zo⟩,⟨bN λξ g w hB hH=>by
  obtain⟨ad,l,c,e,hT⟩:=TlIs.tm (hH 10 _ rfl) k;refine⟨_,⟨_,_,_,rfl,hT⟩,cM (ps:=[(0,.int .i64 k),(2,.slice ad l c)]) u26 z26 (λw=>qg w _ u26) ?_ px⟩;rw[<-e];rfl,zo⟩,⟨cB (k:=2) (m:=3) rfl rfl rfl rfl rfl rfl (by decide) b6 (cf 3) (bT _),zo⟩,zo⟩ hS rfl λac g w hS=> ?_
 refine wp_ret ?_;obtain⟨v0,h,d⟩:=hS.rv (x:=6) (k:=2) (m:=3) (ty:=26) rfl rfl (by decide) u26 rfl b6 (bT _).sized;exact bv hS.f.frm (bw Tryd.results69 h) ⟨hS.gr0,d.sub hS.sub0⟩
end Go.Mi.Term
