/- The reference's closing: its building and its opening tell what the program's tell. Plain laws. -/
import Derived.Test.YtoefhjabaanokaaDoorH39
set_option linter.unusedSimpArgs false
set_option linter.unusedVariables false
set_option linter.unnecessarySimpa false
namespace Go.Mi.Term
def rbk (W:Wd) (l:List Tm) (k:Int) (ks:List Tm) (bs:List Bool):Bool:=
 if k=1 then false else
 if k=3 then(match ks,bs with
  |[a,b],[ka,kb]=>((kb||kx l (bL b))&&ka)||((ka||kx l (bL a))&&kb)||(W.dh&&(ka||kx l (bL a))&&(kb||kx l (bL b)))
  |_,_=>false)else
 if k=4 then(match ks,bs with
  |[a,m],[ka,km]=>(km&&(ka||kx l (bL a)))||(((km&&(ka||kx l (bL a)))||kx l (two 5 a m))&&ka)||(W.kem&&((km&&(ka||kx l (bL a)))||kx l (two 5 a m)))
  |_,_=>false)else
 if k=5 then(match ks,bs with
  |[a,_],[ka,km]=>km&&(kx l (bL a)||ka)
  |_,_=>false)else bs.all id
mutual
def rb (W:Wd) (l:List Tm):Tm->Bool
 | .mk k n ks=>kx l (.mk k n ks)||rbk W l k ks (rbL W l ks)
def rbL (W:Wd) (l:List Tm):List Tm->List Bool
 |[]=>[]
 |t::ts=>rb W l t::rbL W l ts
end
def come (W:Wd) (old:List Tm):Tm->List Tm
 | .mk k _ ks=>match ks with
  |[a,b]=>if k=9 then[a,b]else if k=8 then[b]else if k=7 then(if rb W old a then[b]else[])else[]
  |_=>[]
end Go.Mi.Term
