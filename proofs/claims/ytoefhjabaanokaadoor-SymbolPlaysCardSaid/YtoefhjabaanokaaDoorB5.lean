/- Texts that belong together: Shelf, H7. General lemmas and walks; no conditions. -/
import Derived.Shelf.Strings.Builder1
import Derived.Shelf.Strings.Builder2
import Derived.Shelf.Strings.OnBuilder
import Derived.Shelf.Strings.Builder2Cap
import Derived.Shelf.Strconv.Itoa0
import Derived.Shelf.Strconv.Itoa1
import Derived.Shelf.LaysM
import Derived.Shelf.Strconv.Itoa2
import Derived.Shelf.Strconv.Itoa3
import Derived.Test.YtoefhjabaanokaaDoorProg
import Derived.Test.YtoefhjabaanokaaDoorB4
set_option linter.unusedSimpArgs false
set_option linter.unusedVariables false
set_option linter.unnecessarySimpa false
namespace Go.Proofs
open Go.Shelf
def Tryd.lays156_ren:Go.Shelf.Ren:=⟨fun |156=>99|165=>104|166=>105|169=>106|240=>110|241=>111|276=>116|277=>117|n=>n,fun |31=>132|9=>9|3=>3|4=>4|0=>0|20=>20|72=>140|76=>143|70=>137|37=>138|75=>142|127=>150|164=>157|5=>5|80=>145|n=>n,fun |n=>n⟩
theorem Tryd.lays156:Go.Proofs.Lays.n156 Tryd.prog Tryd.lays156_ren:={
 mixed:=by kernel_rfl
 f156:=Tryd.func99.trans (zu some (by kernel_rfl))
 f165:=Tryd.func104.trans (zu some (by kernel_rfl))
 f166:=Tryd.func105.trans (zu some (by kernel_rfl))
 f169:=Tryd.func106.trans (zu some (by kernel_rfl))
 f240:=Tryd.func110.trans (zu some (by kernel_rfl))
 f241:=Tryd.func111.trans (zu some (by kernel_rfl))
 f276:=Tryd.func116.trans (zu some (by kernel_rfl))
 f277:=Tryd.func117.trans (zu some (by kernel_rfl))
 t0:=Tryd.underlying0
 a0:=Tryd.isAgg0
 z0:=Tryd.sizeOf0
 v0:=Tryd.zeroValue0
 t3:=Tryd.underlying3
 a3:=Tryd.isAgg3
 z3:=Tryd.sizeOf3
 v3:=Tryd.zeroValue3
 t4:=Tryd.underlying4
 a4:=Tryd.isAgg4
 z4:=Tryd.sizeOf4
 v4:=Tryd.zeroValue4
 t9:=Tryd.underlying9
 a9:=Tryd.isAgg9
 z9:=Tryd.sizeOf9
 v9:=Tryd.zeroValue9
 t20:=Tryd.underlying20
 a20:=Tryd.isAgg20
 z20:=Tryd.sizeOf20
 v20:=Tryd.zeroValue20
 t31:=Tryd.underlying132
 a31:=Tryd.isAgg132
 z31:=Tryd.sizeOf132
 v31:=Tryd.zeroValue132
 t37:=Tryd.underlying138
 a37:=Tryd.isAgg138
 z37:=Tryd.sizeOf138
 v37:=Tryd.zeroValue138
 t70:=Tryd.underlying137
 a70:=Tryd.isAgg137
 z70:=Tryd.sizeOf137
 v70:=Tryd.zeroValue137
 t72:=Tryd.underlying140
 a72:=Tryd.isAgg140
 z72:=Tryd.sizeOf140
 v72:=Tryd.zeroValue140
 t75:=Tryd.underlying142
 a75:=Tryd.isAgg142
 z75:=Tryd.sizeOf142
 v75:=Tryd.zeroValue142
 t76:=Tryd.underlying143
 a76:=Tryd.isAgg143
 z76:=Tryd.sizeOf143
 v76:=Tryd.zeroValue143
 t127:=Tryd.underlying150
 a127:=Tryd.isAgg150
 z127:=Tryd.sizeOf150
 v127:=Tryd.zeroValue150
 t164:=Tryd.underlying157
 a164:=Tryd.isAgg157
 z164:=Tryd.sizeOf157
 v164:=Tryd.zeroValue157}
theorem Tryd.Builder_Extra_156:Builder.Extra Tryd.prog Tryd.lays156_ren:={
 sizeBuilder:=by kernel_rfl
 liesBuilder:=by kernel_rfl
 t5:=Tryd.underlying5
 a5:=Tryd.isAgg5
 z5:=Tryd.sizeOf5
 v5:=Tryd.zeroValue5
 infoByte:=by kernel_rfl
 cellsByte:=by kernel_rfl
 sizeByte:=by kernel_rfl
 neB5:=by decide}
open Go.RowKit in
theorem Tryd.strings_Join (bk o c : Nat) (xs : List ByteArray) (sep : ByteArray) (w : World) (hcells : ∀ (j : Nat) x, xs[j]? = some x -> w.cell? ⟨bk, o + j, none⟩ = some (.string x)) (hbk : bk < w.heap.size) (hN : xs.length <= 140737488355328) (hcap : xs.length <= c) (hlen : (Lib.join (xs.map (·.data.toList)) sep.data.toList).length <= 140737488355328) :
  Calls Tryd.prog 99 #[.slice (some ⟨bk,o,none⟩) xs.length c,.string sep] w λe w'=>e= .returned (.string ⟨(Lib.join (xs.map (·.data.toList)) sep.data.toList).toArray⟩)/\Below w.heap.size w w':=Any.strings_Join Tryd.lays156 Tryd.Builder_Extra_156 bk o c xs sep w hcells hbk hN hcap hlen
def Tryd.laysM246_ren:Go.Shelf.Ren:=⟨fun |246=>109|283=>112|284=>113|285=>114|286=>115|129=>119|317=>118|318=>120|319=>121|320=>122|337=>123|338=>124|n=>n,fun |2=>2|3=>3|9=>9|4=>4|171=>151|0=>0|53=>152|37=>138|5=>5|173=>155|212=>162|51=>163|20=>20|213=>164|46=>165|232=>168|233=>169|n=>n,fun |17=>0|18=>2|19=>3|n=>n⟩
def Tryd.laysM243_ren:Go.Shelf.Ren:=⟨fun |243=>103|246=>109|283=>112|284=>113|285=>114|286=>115|129=>119|317=>118|318=>120|319=>121|320=>122|337=>123|338=>124|n=>n,fun |3=>3|9=>9|2=>2|4=>4|171=>151|0=>0|53=>152|37=>138|5=>5|173=>155|212=>162|51=>163|20=>20|213=>164|46=>165|232=>168|233=>169|n=>n,fun |17=>0|18=>2|19=>3|n=>n⟩
def Tryd.laysM171_ren:Go.Shelf.Ren:=⟨fun |171=>98|243=>103|246=>109|283=>112|284=>113|285=>114|286=>115|129=>119|317=>118|318=>120|319=>121|320=>122|337=>123|338=>124|n=>n,fun |3=>3|9=>9|2=>2|4=>4|171=>151|0=>0|53=>152|37=>138|5=>5|173=>155|212=>162|51=>163|20=>20|213=>164|46=>165|232=>168|233=>169|n=>n,fun |17=>0|18=>2|19=>3|n=>n⟩
theorem Tryd.laysM171:Go.Proofs.LaysM.n171 Tryd.prog Tryd.laysM171_ren:={
 mixed:=by kernel_rfl
 f129:=Tryd.func119.trans (zu some (by kernel_rfl))
 f171:=Tryd.func98.trans (zu some (by kernel_rfl))
 f243:=Tryd.func103.trans (zu some (by kernel_rfl))
 f246:=Tryd.func109.trans (zu some (by kernel_rfl))
 f283:=Tryd.func112.trans (zu some (by kernel_rfl))
 f284:=Tryd.func113.trans (zu some (by kernel_rfl))
 f285:=Tryd.func114.trans (zu some (by kernel_rfl))
 f286:=Tryd.func115.trans (zu some (by kernel_rfl))
 f317:=Tryd.func118.trans (zu some (by kernel_rfl))
 f318:=Tryd.func120.trans (zu some (by kernel_rfl))
 f319:=Tryd.func121.trans (zu some (by kernel_rfl))
 f320:=Tryd.func122.trans (zu some (by kernel_rfl))
 f337:=Tryd.func123.trans (zu some (by kernel_rfl))
 f338:=Tryd.func124.trans (zu some (by kernel_rfl))
 t0:=Tryd.underlying0
 a0:=Tryd.isAgg0
 z0:=Tryd.sizeOf0
 v0:=Tryd.zeroValue0
 t2:=Tryd.underlying2
 a2:=Tryd.isAgg2
 z2:=Tryd.sizeOf2
 v2:=Tryd.zeroValue2
 t3:=Tryd.underlying3
 a3:=Tryd.isAgg3
 z3:=Tryd.sizeOf3
 v3:=Tryd.zeroValue3
 t4:=Tryd.underlying4
 a4:=Tryd.isAgg4
 z4:=Tryd.sizeOf4
 v4:=Tryd.zeroValue4
 t5:=Tryd.underlying5
 a5:=Tryd.isAgg5
 z5:=Tryd.sizeOf5
 v5:=Tryd.zeroValue5
 t9:=Tryd.underlying9
 a9:=Tryd.isAgg9
 z9:=Tryd.sizeOf9
 v9:=Tryd.zeroValue9
 t20:=Tryd.underlying20
 a20:=Tryd.isAgg20
 z20:=Tryd.sizeOf20
 v20:=Tryd.zeroValue20
 t37:=Tryd.underlying138
 a37:=Tryd.isAgg138
 z37:=Tryd.sizeOf138
 v37:=Tryd.zeroValue138
 t46:=Tryd.underlying165
 a46:=Tryd.isAgg165
 z46:=Tryd.sizeOf165
 v46:=Tryd.zeroValue165
 t51:=Tryd.underlying163
 a51:=Tryd.isAgg163
 z51:=Tryd.sizeOf163
 v51:=Tryd.zeroValue163
 t53:=Tryd.underlying152
 a53:=Tryd.isAgg152
 z53:=Tryd.sizeOf152
 v53:=Tryd.zeroValue152
 t171:=Tryd.underlying151
 a171:=Tryd.isAgg151
 z171:=Tryd.sizeOf151
 v171:=Tryd.zeroValue151
 t173:=Tryd.underlying155
 a173:=Tryd.isAgg155
 z173:=Tryd.sizeOf155
 v173:=Tryd.zeroValue155
 t212:=Tryd.underlying162
 a212:=Tryd.isAgg162
 z212:=Tryd.sizeOf162
 v212:=Tryd.zeroValue162
 t213:=Tryd.underlying164
 a213:=Tryd.isAgg164
 z213:=Tryd.sizeOf164
 t232:=Tryd.underlying168
 a232:=Tryd.isAgg168
 z232:=Tryd.sizeOf168
 v232:=Tryd.zeroValue168
 t233:=Tryd.underlying169
 a233:=Tryd.isAgg169
 z233:=Tryd.sizeOf169
 v233:=Tryd.zeroValue169
 g17:=by kernel_rfl
 g18:=by kernel_rfl
 g19:=by kernel_rfl
 i0:=by kernel_rfl
 i2:=by kernel_rfl
 i3:=by kernel_rfl
 i4:=by kernel_rfl
 i5:=by kernel_rfl
 i9:=by kernel_rfl
 i20:=by kernel_rfl
 i37:=by kernel_rfl
 i46:=by kernel_rfl
 i51:=by kernel_rfl
 i53:=by kernel_rfl
 i171:=by kernel_rfl
 i173:=by kernel_rfl
 i212:=by kernel_rfl
 i232:=by kernel_rfl
 i233:=by kernel_rfl
 m17:=by kernel_rfl
 m18:=by kernel_rfl
 m19:=by kernel_rfl}
open Go.RowKit Go.Sort Go.Lib in
theorem Tryd.strconv_Itoa (n : Int) (h0 : -9223372036854775808 <= n) (h1 : n <= 9223372036854775807) (w : World) (htab : Lib.TabIs Tryd.prog w "internal/strconv.uint64pow10" .u64 Lib.pow10Tab) :
  Calls Tryd.prog 98 #[.int .i64 n] w λe w'=>e= .returned (.string ⟨(Lib.itoa n).toArray⟩)/\∃k os,w'=grow (w.drewN k) os:=Any.strconv_Itoa Tryd.laysM171 n h0 h1 w htab
end Go.Proofs
namespace Go.Mi.Term
open Go.Mi Go.Proofs Go.RowKit
theorem rU (l:List Tx):(l.map bs).map (λb=>b.data.toList)=l:=by
 rw[List.map_map];have :((λb:ByteArray=>b.data.toList)∘bs)=id:=by funext x;simp [bs]
 rw[this,List.map_id]
theorem wE:cK:=by
 intro lv g c l w hlv hg hc hat hlen;subst hlv;have hl47:l.length<=140737488355328:=by
  cases l with
  |nil=>simp
  |cons x r=>
   have h1:=Lib.join_length x r [44];simp only[zZ,Az]at h1⊢;omega
 have h:=Tryd.strings_Join g 0 c (l.map bs) (bs [44]) w (λj x hj=>hat j _ (by rw[Ai]at hj⊢;cases hl:l[j]? with
  |none=>rw[hl]at hj;simp at hj
  |some y=>rw[hl]at hj;simp at hj;subst hj;rfl)) hg (by rw[z7];exact hl47) (by rw[z7];exact hc) (by rw[rU];simp only[bs];omega)
 rw[z7,rU]at h;exact h.mono λe w' ⟨he,hb⟩=>⟨_,he,rfl,hb⟩
end Go.Mi.Term
