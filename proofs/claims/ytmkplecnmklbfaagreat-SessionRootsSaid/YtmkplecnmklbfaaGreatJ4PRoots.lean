/- General lemmas, walks. -/
import Derived.Test.YtmkplecnmklbfaaGreatJ3PRoots
set_option maxRecDepth 100000
set_option maxHeartbeats 1000000
set_option linter.unusedSimpArgs false
set_option linter.unusedVariables false
set_option linter.unnecessarySimpa false
set_option linter.unusedSectionVars false
namespace Go.Sx.Tryz
open Go.Mi Go.RowKit Go.Sx Go.Proofs
noncomputable section
def c_clonek (xs : List Int) : Con := ⟨[lb xs], [], .sk 0, [(0, .sl 5 [.int .u8] xs)]⟩
theorem clonek_ok (xs : List Int) (h : xs.length ≤ 100000000000000) : ConOk Tryz.prog 81 (c_clonek xs) := by
 refine conOk_of rfl (nb := 0) Tryz.func81 rfl rfl Tryz.ntmps81 rfl rfl rfl fun g0 w0 ac gs ws hg0 hS => ?_
 have hlen0 : xs.length ≤ 9223372036854775807 := hS.len 0 rfl
 have hS := hS.sp
 refine s0 [0, 2] [] 0 hS fun hS => ?_
 refine wp_seq (wp_seq ?_)
 rcases hS.nilor 0 [.int .u8] xs with ⟨hn1, hS⟩ | hS
 ·subst hn1
  refine r0 [0, 2, 4] [] 0 hS fun hS => ?_
  refine then_n (cond_t hS ?_)
  refine s0 [0, 2] [] 0 hS fun hS => ?_
  refine wp_ret (then_ret ?_)
  obtain ⟨gs, hS⟩ := hS.nilk 2 5 [.int .u8]
  exact fin_y rfl (.inr rfl) hS [.sk 0] [(0, some (.sl 5 [.int .u8] []))] rfl ⟨rfl, trivial⟩
 ·refine r0 [0, 2, 4] [] 0 hS fun hS => ?_
  refine then_n (cond_f hS ?_)
  refine wp_skip (then_n (sA [(0, .own)] trivial (fun _ => [([] : List (RT [.int .u8])).length + xs.length ≤ 9223372036854775807, (([] : List (RT [.int .u8])).length + xs.length) * 1 ≤ 140737488355328]) [2] [1] 2 ⟨by simp <;> omega, by simp <;> omega, trivial⟩ hS fun hS => ?_))
  refine wp_ret ?_
  obtain ⟨gs, hS⟩ := hS.rn [(0, 1)] [(2, .sk 0)] [(0, .sl 5 [.int .u8] ([] ++ xs))] 1 hg0
  exact fin_y rfl (.inr rfl) hS [.sk 0] [(0, some (.sl 5 [.int .u8] ([] ++ xs)))] rfl ⟨rfl, trivial⟩

def sstart_v : (Nat → Int) := upd (upd (upd (upd (upd (upd (upd (upd (fun _ => 0) 0 7640891576956012808) 1 13503953896175478587) 2 4354685564936845355) 3 11912009170470909681) 4 5840696475078001361) 5 11170449401992604703) 6 2270897969802886507) 7 6620516959819538809
def sstart_m : (Nat → Int) := shut (sstart_v)
theorem sstart_e : sstart_m = sstart_v := shut_eq _
def c_sstart : Con := ⟨[], [], .ar .u64 8 sstart_m, []⟩
theorem sstart_ok : ConOk Tryz.prog 188 (c_sstart) := by
 refine conOk_of rfl (nb := 0) Tryz.func188 rfl rfl Tryz.ntmps188 rfl rfl rfl fun g0 w0 ac gs ws hg0 hS => ?_
 have hS := hS.sp
 refine s0 [0] [0] 1 hS fun hS => ?_
 refine s0 [0] [0] 1 hS fun hS => ?_
 refine wp_ret ?_
 have hM : sstart_m = upd (upd (upd (upd (upd (upd (upd (upd (fun _ => 0) 0 7640891576956012808) 1 13503953896175478587) 2 4354685564936845355) 3 11912009170470909681) 4 5840696475078001361) 5 11170449401992604703) 6 2270897969802886507) 7 6620516959819538809 := sstart_e
 exact fin_y rfl (.inr rfl) hS [.ar .u64 8 (upd (upd (upd (upd (upd (upd (upd (upd (fun _ => 0) 0 7640891576956012808) 1 13503953896175478587) 2 4354685564936845355) 3 11912009170470909681) 4 5840696475078001361) 5 11170449401992604703) 6 2270897969802886507) 7 6620516959819538809)] [] (by show weak _ (.ar .u64 8 sstart_m) = (.ar .u64 8 sstart_m); rw [hM]; first | (simp only []; rfl) | (simp only []; done) | rfl) trivial

def srounds_v : (Nat → Int) := upd (upd (upd (upd (upd (upd (upd (upd (upd (upd (upd (upd (upd (upd (upd (upd (upd (upd (upd (upd (upd (upd (upd (upd (upd (upd (upd (upd (upd (upd (upd (upd (upd (upd (upd (upd (upd (upd (upd (upd (upd (upd (upd (upd (upd (upd (upd (upd (upd (upd (upd (upd (upd (upd (upd (upd (upd (upd (upd (upd (upd (upd (upd (upd (upd (upd (upd (upd (upd (upd (upd (upd (upd (upd (upd (upd (upd (upd (upd (upd (fun _ => 0) 0 4794697086780616226) 1 8158064640168781261) 2 13096744586834688815) 3 16840607885511220156) 4 4131703408338449720) 5 6480981068601479193) 6 10538285296894168987) 7 12329834152419229976) 8 15566598209576043074) 9 1334009975649890238) 10 2608012711638119052) 11 6128411473006802146) 12 8268148722764581231) 13 9286055187155687089) 14 11230858885718282805) 15 13951009754708518548) 16 16472876342353939154) 17 17275323862435702243) 18 1135362057144423861) 19 2597628984639134821) 20 3308224258029322869) 21 5365058923640841347) 22 6679025012923562964) 23 8573033837759648693) 24 10970295158949994411) 25 12119686244451234320) 26 12683024718118986047) 27 13788192230050041572) 28 14330467153632333762) 29 15395433587784984357) 30 489312712824947311) 31 1452737877330783856) 32 2861767655752347644) 33 3322285676063803686) 34 5560940570517711597) 35 5996557281743188959) 36 7280758554555802590) 37 8532644243296465576) 38 9350256976987008742) 39 10552545826968843579) 40 11727347734174303076) 41 12113106623233404929) 42 14000437183269869457) 43 14369950271660146224) 44 15101387698204529176) 45 15463397548674623760) 46 17586052441742319658) 47 1182934255886127544) 48 1847814050463011016) 49 2177327727835720531) 50 2830643537854262169) 51 3796741975233480872) 52 4115178125766777443) 53 5681478168544905931) 54 6601373596472566643) 55 7507060721942968483) 56 8399075790359081724) 57 8693463985226723168) 58 9568029438360202098) 59 10144078919501101548) 60 10430055236837252648) 61 11840083180663258601) 62 13761210420658862357) 63 14299343276471374635) 64 14566680578165727644) 65 15097957966210449927) 66 16922976911328602910) 67 17689382322260857208) 68 500013540394364858) 69 748580250866718886) 70 1242879168328830382) 71 1977374033974150939) 72 2944078676154940804) 73 3659926193048069267) 74 4368137639120453308) 75 4836135668995329356) 76 5532061633213252278) 77 6448918945643986474) 78 6902733635092675308) 79 7801388544844847127
def srounds_m : (Nat → Int) := shut (srounds_v)
theorem srounds_e : srounds_m = srounds_v := shut_eq _
def c_srounds : Con := ⟨[], [], .ar .u64 80 srounds_m, []⟩
theorem srounds_ok : ConOk Tryz.prog 189 (c_srounds) := by
 refine conOk_of rfl (nb := 0) Tryz.func189 rfl rfl Tryz.ntmps189 rfl rfl rfl fun g0 w0 ac gs ws hg0 hS => ?_
 have hS := hS.sp
 refine s0 [0] [0] 1 hS fun hS => ?_
 refine s0 [0] [0] 1 hS fun hS => ?_
 refine wp_ret ?_
 have hM : srounds_m = upd (upd (upd (upd (upd (upd (upd (upd (upd (upd (upd (upd (upd (upd (upd (upd (upd (upd (upd (upd (upd (upd (upd (upd (upd (upd (upd (upd (upd (upd (upd (upd (upd (upd (upd (upd (upd (upd (upd (upd (upd (upd (upd (upd (upd (upd (upd (upd (upd (upd (upd (upd (upd (upd (upd (upd (upd (upd (upd (upd (upd (upd (upd (upd (upd (upd (upd (upd (upd (upd (upd (upd (upd (upd (upd (upd (upd (upd (upd (upd (fun _ => 0) 0 4794697086780616226) 1 8158064640168781261) 2 13096744586834688815) 3 16840607885511220156) 4 4131703408338449720) 5 6480981068601479193) 6 10538285296894168987) 7 12329834152419229976) 8 15566598209576043074) 9 1334009975649890238) 10 2608012711638119052) 11 6128411473006802146) 12 8268148722764581231) 13 9286055187155687089) 14 11230858885718282805) 15 13951009754708518548) 16 16472876342353939154) 17 17275323862435702243) 18 1135362057144423861) 19 2597628984639134821) 20 3308224258029322869) 21 5365058923640841347) 22 6679025012923562964) 23 8573033837759648693) 24 10970295158949994411) 25 12119686244451234320) 26 12683024718118986047) 27 13788192230050041572) 28 14330467153632333762) 29 15395433587784984357) 30 489312712824947311) 31 1452737877330783856) 32 2861767655752347644) 33 3322285676063803686) 34 5560940570517711597) 35 5996557281743188959) 36 7280758554555802590) 37 8532644243296465576) 38 9350256976987008742) 39 10552545826968843579) 40 11727347734174303076) 41 12113106623233404929) 42 14000437183269869457) 43 14369950271660146224) 44 15101387698204529176) 45 15463397548674623760) 46 17586052441742319658) 47 1182934255886127544) 48 1847814050463011016) 49 2177327727835720531) 50 2830643537854262169) 51 3796741975233480872) 52 4115178125766777443) 53 5681478168544905931) 54 6601373596472566643) 55 7507060721942968483) 56 8399075790359081724) 57 8693463985226723168) 58 9568029438360202098) 59 10144078919501101548) 60 10430055236837252648) 61 11840083180663258601) 62 13761210420658862357) 63 14299343276471374635) 64 14566680578165727644) 65 15097957966210449927) 66 16922976911328602910) 67 17689382322260857208) 68 500013540394364858) 69 748580250866718886) 70 1242879168328830382) 71 1977374033974150939) 72 2944078676154940804) 73 3659926193048069267) 74 4368137639120453308) 75 4836135668995329356) 76 5532061633213252278) 77 6448918945643986474) 78 6902733635092675308) 79 7801388544844847127 := srounds_e
 exact fin_y rfl (.inr rfl) hS [.ar .u64 80 (upd (upd (upd (upd (upd (upd (upd (upd (upd (upd (upd (upd (upd (upd (upd (upd (upd (upd (upd (upd (upd (upd (upd (upd (upd (upd (upd (upd (upd (upd (upd (upd (upd (upd (upd (upd (upd (upd (upd (upd (upd (upd (upd (upd (upd (upd (upd (upd (upd (upd (upd (upd (upd (upd (upd (upd (upd (upd (upd (upd (upd (upd (upd (upd (upd (upd (upd (upd (upd (upd (upd (upd (upd (upd (upd (upd (upd (upd (upd (upd (fun _ => 0) 0 4794697086780616226) 1 8158064640168781261) 2 13096744586834688815) 3 16840607885511220156) 4 4131703408338449720) 5 6480981068601479193) 6 10538285296894168987) 7 12329834152419229976) 8 15566598209576043074) 9 1334009975649890238) 10 2608012711638119052) 11 6128411473006802146) 12 8268148722764581231) 13 9286055187155687089) 14 11230858885718282805) 15 13951009754708518548) 16 16472876342353939154) 17 17275323862435702243) 18 1135362057144423861) 19 2597628984639134821) 20 3308224258029322869) 21 5365058923640841347) 22 6679025012923562964) 23 8573033837759648693) 24 10970295158949994411) 25 12119686244451234320) 26 12683024718118986047) 27 13788192230050041572) 28 14330467153632333762) 29 15395433587784984357) 30 489312712824947311) 31 1452737877330783856) 32 2861767655752347644) 33 3322285676063803686) 34 5560940570517711597) 35 5996557281743188959) 36 7280758554555802590) 37 8532644243296465576) 38 9350256976987008742) 39 10552545826968843579) 40 11727347734174303076) 41 12113106623233404929) 42 14000437183269869457) 43 14369950271660146224) 44 15101387698204529176) 45 15463397548674623760) 46 17586052441742319658) 47 1182934255886127544) 48 1847814050463011016) 49 2177327727835720531) 50 2830643537854262169) 51 3796741975233480872) 52 4115178125766777443) 53 5681478168544905931) 54 6601373596472566643) 55 7507060721942968483) 56 8399075790359081724) 57 8693463985226723168) 58 9568029438360202098) 59 10144078919501101548) 60 10430055236837252648) 61 11840083180663258601) 62 13761210420658862357) 63 14299343276471374635) 64 14566680578165727644) 65 15097957966210449927) 66 16922976911328602910) 67 17689382322260857208) 68 500013540394364858) 69 748580250866718886) 70 1242879168328830382) 71 1977374033974150939) 72 2944078676154940804) 73 3659926193048069267) 74 4368137639120453308) 75 4836135668995329356) 76 5532061633213252278) 77 6448918945643986474) 78 6902733635092675308) 79 7801388544844847127)] [] (by show weak _ (.ar .u64 80 srounds_m) = (.ar .u64 80 srounds_m); rw [hM]; first | (simp only []; rfl) | (simp only []; done) | rfl) trivial

def over_l1_s (h : Nat → Int) (x6 : Nat) : (Nat → Int) → (Nat → Int) := fun o1_0 => upd o1_0 x6 (ixor .u32 (o1_0 x6) (IntKind.wrap .u32 (ishr .u64 (sstart_m x6) 32)))
def over_l1 (h : Nat → Int) : Nat → (Nat → Int)
 | 0 => h
 | x6 + 1 => over_l1_s h x6 (over_l1 h x6)
def over_v (h : Nat → Int) : (Nat → Int) := over_l1 h 8
def over_m (h : Nat → Int) : (Nat → Int) := shut (over_v h)
theorem over_e (h : Nat → Int) : over_m h = over_v h := shut_eq _
def c_over (h : Nat → Int) : Con := ⟨[.ar .u32 8 h], [], .ar .u32 8 (over_m h), []⟩
theorem over_ok (h : Nat → Int) : ConOk Tryz.prog 162 (c_over h) := by
 refine conOk_of rfl (nb := 0) Tryz.func162 rfl rfl Tryz.ntmps162 rfl rfl rfl fun g0 w0 ac gs ws hg0 hS => ?_
 have hS := hS.sp
 refine s0 [1, 2] [0, 1] 2 hS fun hS => ?_
 refine wp_seq (sA [(0, .call ⟨188, (c_sstart), [], []⟩)] ⟨sstart_ok, trivial⟩ (fun C => [ndC C 0]) [1, 2, 5, 6] [0, 1] 2 ⟨rfl, trivial⟩ hS fun hS => ?_)
 refine wp_block (loop_y (ι := Nat × (Nat → Int)) hg0 hS (fun z_ => match z_ with | (x6, o1_0) => 8 - x6) (fun z_ => match z_ with | (x6, o1_0) => [(1, .cp 0 0), (2, .cp 1 0), (5, .ar .u64 8 sstart_m), (6, vi ((x6 : Nat) : Int))]) (fun z_ => match z_ with | (x6, o1_0) => [(0, .ob 177 (chain [.ar .u32 8 o1_0])), (1, .ob 177 (chain [.ar .u32 8 (fun _ => 0)]))]) (fun z_ => match z_ with | (x6, o1_0) => (x6 ≤ 8) ∧ (o1_0 = over_l1 h x6) ∧ True) 2 (0, h) [(0, 0), (1, 1)] ⟨omm, rfl, trivial⟩ ?_)
 rintro ⟨x6, o1_0⟩ ac gs ws ⟨hx6, hq1, _⟩ hS
 refine s0 [1, 2, 5, 6, 7] [0, 1] 2 hS fun hS => ?_
 refine wp_seq ?_
 refine if_d ((x6 : Int) < 8) hS (fun h1 => ?_) (fun h1 => ?_)
 ·refine wp_skip (then_n (wp_seq (wp_block (sA [] trivial (fun _ => [(0 : Int) ≤ (x6 : Int) ∧ ((x6 : Int) : Int) < 8]) [1, 2, 3, 4, 5, 6] [0, 1] 2 ⟨by omega, trivial⟩ hS fun hS => ?_))))
  refine rA [] trivial (fun _ => [(0 : Int) ≤ (x6 : Int) ∧ ((x6 : Int) : Int) < 8, (0 : Int) ≤ 32, (0 : Int) ≤ (x6 : Int) ∧ ((x6 : Int) : Int) < 8]) [1, 2, 5, 6] [0, 1] 2 ⟨by omega, by omega, by omega, trivial⟩ hS fun hS => ?_
  refine block_n (then_n (rA [(0, .oi ((x6 + 1 : Nat) : Int))] trivial (fun _ => [iadd .i64 (x6 : Int) 1 = ((x6 + 1 : Nat) : Int)]) [1, 2, 5, 6] [0, 1] 2 ⟨by rw [iadd64 omm omm]; omega, trivial⟩ hS fun hS => ?_))
  refine then_n ?_
  exact next_y hg0 hS (s := (x6, o1_0)) (x6 + 1, upd o1_0 x6 (ixor .u32 (o1_0 x6) (IntKind.wrap .u32 (ishr .u64 (sstart_m x6) 32)))) [(0, 0), (1, 1)] (show 8 - (x6 + 1) < 8 - x6 from by omega) ⟨omm, (it_next (F := over_l1 h) (st := over_l1_s h) (fun _ => rfl) hq1 rfl), trivial⟩
 ·have hScur := hS
  obtain rfl : 8 = x6 := by omega
  obtain rfl : over_l1 h 8 = o1_0 := Eq.symm (congrArg (fun z => z) hq1)
  have hS := hScur
  clear hScur
  refine wp_exit (then_exit (then_exit (block_exit (then_n (s0 [2] [1] 2 hS fun hS => ?_)))))
  refine wp_ret ?_
  have hM : over_m h = over_l1 h 8 := over_e h
  exact fin_y rfl (.inr rfl) hS [.ar .u32 8 (over_l1 h 8)] [] (by show weak _ (.ar .u32 8 (over_m h)) = (.ar .u32 8 (over_m h)); rw [hM]; first | (simp only []; rfl) | (simp only []; done) | rfl) trivial

def turn256_l1_s (h : Nat → Int) (xs : List Int) (x22 : Nat) : (Nat → Int) → (Nat → Int) := fun o5_0 => if (x22 : Int) < 16 then upd o5_0 x22 (get32_m (xs.drop (4 * x22))) else upd o5_0 x22 (iadd .u32 (iadd .u32 (iadd .u32 (o5_0 (x22 - 16)) (ixor .u32 (ixor .u32 (rot32_m (o5_0 (x22 - 15)) (-7)) (rot32_m (o5_0 (x22 - 15)) (-18))) (ishr .u32 (o5_0 (x22 - 15)) 3))) (o5_0 (x22 - 7))) (ixor .u32 (ixor .u32 (rot32_m (o5_0 (x22 - 2)) (-17)) (rot32_m (o5_0 (x22 - 2)) (-19))) (ishr .u32 (o5_0 (x22 - 2)) 10)))
def turn256_l1 (h : Nat → Int) (xs : List Int) : Nat → (Nat → Int)
 | 0 => fun _ => 0
 | x22 + 1 => turn256_l1_s h xs x22 (turn256_l1 h xs x22)
def turn256_l2_s (h : Nat → Int) (xs : List Int) (x75 : Nat) : (Nat → Int) → (Nat → Int) := fun o12_0 => upd (upd (upd (upd (upd (upd (upd (upd (fun _ => 0) 0 (iadd .u32 (iadd .u32 (iadd .u32 (iadd .u32 (iadd .u32 (o12_0 7) (ixor .u32 (ixor .u32 (rot32_m (o12_0 4) (-6)) (rot32_m (o12_0 4) (-11))) (rot32_m (o12_0 4) (-25)))) (ixor .u32 (iand .u32 (o12_0 4) (o12_0 5)) (iand .u32 (inot .u32 (o12_0 4)) (o12_0 6)))) (IntKind.wrap .u32 (ishr .u64 (srounds_m x75) 32))) ((turn256_l1 h xs 64) x75)) (iadd .u32 (ixor .u32 (ixor .u32 (rot32_m (o12_0 0) (-2)) (rot32_m (o12_0 0) (-13))) (rot32_m (o12_0 0) (-22))) (ixor .u32 (ixor .u32 (iand .u32 (o12_0 0) (o12_0 1)) (iand .u32 (o12_0 0) (o12_0 2))) (iand .u32 (o12_0 1) (o12_0 2)))))) 1 (o12_0 0)) 2 (o12_0 1)) 3 (o12_0 2)) 4 (iadd .u32 (o12_0 3) (iadd .u32 (iadd .u32 (iadd .u32 (iadd .u32 (o12_0 7) (ixor .u32 (ixor .u32 (rot32_m (o12_0 4) (-6)) (rot32_m (o12_0 4) (-11))) (rot32_m (o12_0 4) (-25)))) (ixor .u32 (iand .u32 (o12_0 4) (o12_0 5)) (iand .u32 (inot .u32 (o12_0 4)) (o12_0 6)))) (IntKind.wrap .u32 (ishr .u64 (srounds_m x75) 32))) ((turn256_l1 h xs 64) x75)))) 5 (o12_0 4)) 6 (o12_0 5)) 7 (o12_0 6)
def turn256_l2 (h : Nat → Int) (xs : List Int) : Nat → (Nat → Int)
 | 0 => h
 | x75 + 1 => turn256_l2_s h xs x75 (turn256_l2 h xs x75)
def turn256_l3_s (h : Nat → Int) (xs : List Int) (x159 : Nat) : (Nat → Int) → (Nat → Int) := fun o2_0 => upd o2_0 x159 (iadd .u32 (o2_0 x159) ((turn256_l2 h xs 64) x159))
def turn256_l3 (h : Nat → Int) (xs : List Int) : Nat → (Nat → Int)
 | 0 => h
 | x159 + 1 => turn256_l3_s h xs x159 (turn256_l3 h xs x159)
def turn256_v (h : Nat → Int) (xs : List Int) : (Nat → Int) := turn256_l3 h xs 8
def turn256_m (h : Nat → Int) (xs : List Int) : (Nat → Int) := shut (turn256_v h xs)
theorem turn256_e (h : Nat → Int) (xs : List Int) : turn256_m h xs = turn256_v h xs := shut_eq _
def c_turn256 (h : Nat → Int) (xs : List Int) : Con := ⟨[.ar .u32 8 h, lb xs], [], .ar .u32 8 (turn256_m h xs), []⟩
theorem turn256_ok (h : Nat → Int) (xs : List Int) (hx : 64 ≤ xs.length) : ConOk Tryz.prog 163 (c_turn256 h xs) := by
 refine conOk_of rfl (nb := 0) Tryz.func163 rfl rfl Tryz.ntmps163 rfl rfl rfl fun g0 w0 ac gs ws hg0 hS => ?_
 have hlen1 : xs.length ≤ 9223372036854775807 := hS.len 1 rfl
 have hS := hS.sp
 refine s0 [1, 2, 4] [0, 1] 2 hS fun hS => ?_
 refine s0 [1, 2, 4, 5] [0, 1, 2] 3 hS fun hS => ?_
 refine sA [(0, .call ⟨189, (c_srounds), [], []⟩)] ⟨srounds_ok, trivial⟩ (fun C => [ndC C 0]) [1, 2, 4, 5, 6] [0, 1, 2, 3] 4 ⟨rfl, trivial⟩ hS fun hS => ?_
 refine wp_seq (s0 [1, 2, 4, 5, 6, 22] [0, 1, 2, 3] 4 hS fun hS => ?_)
 refine wp_block (loop_y (ι := Nat × (Nat → Int)) hg0 hS (fun z_ => match z_ with | (x22, o5_0) => 64 - x22) (fun z_ => match z_ with | (x22, o5_0) => [(1, lb xs), (2, .cp 0 0), (4, .cp 1 0), (5, .cp 2 0), (6, .cp 3 0), (22, vi ((x22 : Nat) : Int))]) (fun z_ => match z_ with | (x22, o5_0) => [(0, .ob 177 (chain [.ar .u32 8 h])), (1, .ob 177 (chain [.ar .u32 8 (fun _ => 0)])), (2, .ob 201 (chain [.ar .u32 64 o5_0])), (3, .ob 197 (chain [.ar .u64 80 srounds_m]))]) (fun z_ => match z_ with | (x22, o5_0) => (x22 ≤ 64) ∧ (o5_0 = turn256_l1 h xs x22) ∧ True) 4 (0, fun _ => 0) [(0, 0), (1, 1), (2, 2), (3, 3)] ⟨omm, rfl, trivial⟩ ?_)
 rintro ⟨x22, o5_0⟩ ac gs ws ⟨hx22, hq1, _⟩ hS
 refine s0 [1, 2, 4, 5, 6, 22, 23] [0, 1, 2, 3] 4 hS fun hS => ?_
 refine wp_seq ?_
 refine if_d ((x22 : Int) < 64) hS (fun h1 => ?_) (fun h1 => ?_)
 ·refine wp_skip (then_n (wp_seq (wp_block (s0 [1, 2, 4, 5, 6, 7, 22] [0, 1, 2, 3] 4 hS fun hS => ?_))))
  refine wp_seq (s0 [1, 2, 4, 5, 6, 7, 22, 26] [0, 1, 2, 3] 4 hS fun hS => ?_)
  refine if_d ((x22 : Int) < 16) hS (fun h2 => ?_) (fun h2 => ?_)
  ·refine sA [(3, .oi ((4 * x22 : Nat) : Int)), (5, .call ⟨190, (c_get32 (xs.drop (4 * x22))), [], []⟩)] ⟨get32_ok _, trivial⟩ (fun C => [imul .i64 4 (x22 : Int) = ((4 * x22 : Nat) : Int), bndP (some ((4 * x22 : Nat) : Int)) none none xs.length xs.length, ndC C 5, (0 : Int) ≤ (x22 : Int) ∧ ((x22 : Int) : Int) < 64]) [1, 2, 4, 5, 6, 7, 22] [0, 1, 2, 3] 4 ⟨by rw [imul64 omm omm]; omega, ⟨by simp only [nnI] <;> omega, by simp only [nnI] <;> omega, by simp only [nnI] <;> omega, by simp, by simp only [bl] <;> omega, by simp only [bl] <;> omega, by simp only [bl] <;> omega⟩, rfl, by omega, trivial⟩ hS fun hS => ?_
   refine wp_exit (then_exit (block_exit (then_n (rA [(0, .oi ((x22 + 1 : Nat) : Int))] trivial (fun _ => [iadd .i64 (x22 : Int) 1 = ((x22 + 1 : Nat) : Int)]) [1, 2, 4, 5, 6, 22] [0, 1, 2, 3] 4 ⟨by rw [iadd64 omm omm]; omega, trivial⟩ hS fun hS => ?_))))
   refine then_n ?_
   exact next_y hg0 hS (s := (x22, o5_0)) (x22 + 1, upd o5_0 x22 (get32_m (xs.drop (4 * x22)))) [(0, 0), (1, 1), (2, 2), (3, 3)] (show 64 - (x22 + 1) < 64 - x22 from by omega) ⟨omm, (it_next (F := turn256_l1 h xs) (st := turn256_l1_s h xs) (fun _ => rfl) hq1 (Eq.symm (if_pos h2))), trivial⟩
  ·refine wp_skip (then_n (sA [(1, .oi ((x22 - 15 : Nat) : Int)), (5, .oi ((x22 - 2 : Nat) : Int))] trivial (fun _ => [isub .i64 (x22 : Int) 15 = ((x22 - 15 : Nat) : Int), (0 : Int) ≤ ((x22 - 15 : Nat) : Int) ∧ (((x22 - 15 : Nat) : Int) : Int) < 64, isub .i64 (x22 : Int) 2 = ((x22 - 2 : Nat) : Int), (0 : Int) ≤ ((x22 - 2 : Nat) : Int) ∧ (((x22 - 2 : Nat) : Int) : Int) < 64]) [1, 2, 4, 5, 6, 7, 8, 9, 22] [0, 1, 2, 3] 4 ⟨by rw [isub64 omm omm]; omega, by omega, by rw [isub64 omm omm]; omega, by omega, trivial⟩ hS fun hS => ?_))
   refine sA [(1, .call ⟨191, (c_rot32 (o5_0 (x22 - 15)) (-7)), [], []⟩), (3, .call ⟨191, (c_rot32 (o5_0 (x22 - 15)) (-18)), [], []⟩)] ⟨rot32_ok _ _, rot32_ok _ _, trivial⟩ (fun C => [ndC C 1, ndC C 3, (0 : Int) ≤ 3]) [1, 2, 4, 5, 6, 7, 9, 10, 22] [0, 1, 2, 3] 4 ⟨rfl, rfl, by omega, trivial⟩ hS fun hS => ?_
   refine sA [(1, .call ⟨191, (c_rot32 (o5_0 (x22 - 2)) (-17)), [], []⟩), (3, .call ⟨191, (c_rot32 (o5_0 (x22 - 2)) (-19)), [], []⟩)] ⟨rot32_ok _ _, rot32_ok _ _, trivial⟩ (fun C => [ndC C 1, ndC C 3, (0 : Int) ≤ 10]) [1, 2, 4, 5, 6, 7, 10, 11, 22] [0, 1, 2, 3] 4 ⟨rfl, rfl, by omega, trivial⟩ hS fun hS => ?_
   refine rA [(2, .oi ((x22 - 16 : Nat) : Int)), (8, .oi ((x22 - 7 : Nat) : Int))] trivial (fun _ => [isub .i64 (x22 : Int) 16 = ((x22 - 16 : Nat) : Int), (0 : Int) ≤ ((x22 - 16 : Nat) : Int) ∧ (((x22 - 16 : Nat) : Int) : Int) < 64, isub .i64 (x22 : Int) 7 = ((x22 - 7 : Nat) : Int), (0 : Int) ≤ ((x22 - 7 : Nat) : Int) ∧ (((x22 - 7 : Nat) : Int) : Int) < 64, (0 : Int) ≤ (x22 : Int) ∧ ((x22 : Int) : Int) < 64]) [1, 2, 4, 5, 6, 22] [0, 1, 2, 3] 4 ⟨by rw [isub64 omm omm]; omega, by omega, by rw [isub64 omm omm]; omega, by omega, by omega, trivial⟩ hS fun hS => ?_
   refine block_n (then_n (rA [(0, .oi ((x22 + 1 : Nat) : Int))] trivial (fun _ => [iadd .i64 (x22 : Int) 1 = ((x22 + 1 : Nat) : Int)]) [1, 2, 4, 5, 6, 22] [0, 1, 2, 3] 4 ⟨by rw [iadd64 omm omm]; omega, trivial⟩ hS fun hS => ?_))
   refine then_n ?_
   exact next_y hg0 hS (s := (x22, o5_0)) (x22 + 1, upd o5_0 x22 (iadd .u32 (iadd .u32 (iadd .u32 (o5_0 (x22 - 16)) (ixor .u32 (ixor .u32 (rot32_m (o5_0 (x22 - 15)) (-7)) (rot32_m (o5_0 (x22 - 15)) (-18))) (ishr .u32 (o5_0 (x22 - 15)) 3))) (o5_0 (x22 - 7))) (ixor .u32 (ixor .u32 (rot32_m (o5_0 (x22 - 2)) (-17)) (rot32_m (o5_0 (x22 - 2)) (-19))) (ishr .u32 (o5_0 (x22 - 2)) 10)))) [(0, 0), (1, 1), (2, 2), (3, 3)] (show 64 - (x22 + 1) < 64 - x22 from by omega) ⟨omm, (it_next (F := turn256_l1 h xs) (st := turn256_l1_s h xs) (fun _ => rfl) hq1 (Eq.symm (if_neg h2))), trivial⟩
 ·have hScur := hS
  obtain rfl : 64 = x22 := by omega
  obtain rfl : turn256_l1 h xs 64 = o5_0 := Eq.symm (congrArg (fun z => z) hq1)
  have hS := hScur
  clear hScur
  refine wp_exit (then_exit (then_exit (block_exit (then_n (s0 [2, 4, 5, 6, 12] [0, 1, 2, 3, 4] 5 hS fun hS => ?_)))))
  refine wp_seq (s0 [2, 4, 5, 6, 12, 75] [0, 1, 2, 3, 4] 5 hS fun hS => ?_)
  refine wp_block (loop_y (ι := Nat × (Nat → Int)) hg0 hS (fun z_ => match z_ with | (x75, o12_0) => 64 - x75) (fun z_ => match z_ with | (x75, o12_0) => [(2, .cp 0 0), (4, .cp 1 0), (5, .cp 2 0), (6, .cp 3 0), (12, .cp 4 0), (75, vi ((x75 : Nat) : Int))]) (fun z_ => match z_ with | (x75, o12_0) => [(0, .ob 177 (chain [.ar .u32 8 h])), (1, .ob 177 (chain [.ar .u32 8 (fun _ => 0)])), (2, .ob 201 (chain [.ar .u32 64 (turn256_l1 h xs 64)])), (3, .ob 197 (chain [.ar .u64 80 srounds_m])), (4, .ob 177 (chain [.ar .u32 8 o12_0]))]) (fun z_ => match z_ with | (x75, o12_0) => (x75 ≤ 64) ∧ (o12_0 = turn256_l2 h xs x75) ∧ True) 5 (0, h) [(0, 0), (1, 1), (2, 2), (3, 3), (4, 4)] ⟨omm, rfl, trivial⟩ ?_)
  rintro ⟨x75, o12_0⟩ ac gs ws ⟨hx75, hq2, _⟩ hS
  refine s0 [2, 4, 5, 6, 12, 75, 76] [0, 1, 2, 3, 4] 5 hS fun hS => ?_
  refine wp_seq ?_
  refine if_d ((x75 : Int) < 64) hS (fun h3 => ?_) (fun h3 => ?_)
  ·refine wp_skip (then_n (wp_seq (wp_block (s0 [2, 4, 5, 6, 12, 13, 75] [0, 1, 2, 3, 4] 5 hS fun hS => ?_))))
   refine sA [] trivial (fun _ => [(0 : Int) ≤ 0 ∧ (0 : Int) < 8, (0 : Int) ≤ 4 ∧ (4 : Int) < 8]) [2, 4, 5, 6, 12, 13, 14, 15, 75] [0, 1, 2, 3, 4] 5 ⟨by omega, by omega, trivial⟩ hS fun hS => ?_
   refine sA [(1, .call ⟨191, (c_rot32 (o12_0 4) (-6)), [], []⟩), (3, .call ⟨191, (c_rot32 (o12_0 4) (-11)), [], []⟩), (6, .call ⟨191, (c_rot32 (o12_0 4) (-25)), [], []⟩)] ⟨rot32_ok _ _, rot32_ok _ _, rot32_ok _ _, trivial⟩ (fun C => [ndC C 1, ndC C 3, ndC C 6]) [2, 4, 5, 6, 12, 13, 14, 15, 16, 75] [0, 1, 2, 3, 4] 5 ⟨rfl, rfl, rfl, trivial⟩ hS fun hS => ?_
   refine sA [] trivial (fun _ => [(0 : Int) ≤ 7 ∧ (7 : Int) < 8, (0 : Int) ≤ 5 ∧ (5 : Int) < 8, (0 : Int) ≤ 6 ∧ (6 : Int) < 8, (0 : Int) ≤ (x75 : Int) ∧ ((x75 : Int) : Int) < 80, (0 : Int) ≤ 32, (0 : Int) ≤ (x75 : Int) ∧ ((x75 : Int) : Int) < 64]) [2, 4, 5, 6, 12, 14, 15, 17, 75] [0, 1, 2, 3, 4] 5 ⟨by omega, by omega, by omega, by omega, by omega, by omega, trivial⟩ hS fun hS => ?_
   refine sA [(1, .call ⟨191, (c_rot32 (o12_0 0) (-2)), [], []⟩), (3, .call ⟨191, (c_rot32 (o12_0 0) (-13)), [], []⟩), (6, .call ⟨191, (c_rot32 (o12_0 0) (-22)), [], []⟩)] ⟨rot32_ok _ _, rot32_ok _ _, rot32_ok _ _, trivial⟩ (fun C => [ndC C 1, ndC C 3, ndC C 6]) [2, 4, 5, 6, 12, 14, 15, 17, 18, 75] [0, 1, 2, 3, 4] 5 ⟨rfl, rfl, rfl, trivial⟩ hS fun hS => ?_
   refine sA [] trivial (fun _ => [(0 : Int) ≤ 1 ∧ (1 : Int) < 8, (0 : Int) ≤ 2 ∧ (2 : Int) < 8, (0 : Int) ≤ 1 ∧ (1 : Int) < 8, (0 : Int) ≤ 2 ∧ (2 : Int) < 8]) [2, 4, 5, 6, 12, 14, 15, 17, 19, 75] [0, 1, 2, 3, 4] 5 ⟨by omega, by omega, by omega, by omega, trivial⟩ hS fun hS => ?_
   refine rA [] trivial (fun _ => [(0 : Int) ≤ 1 ∧ (1 : Int) < 8, (0 : Int) ≤ 2 ∧ (2 : Int) < 8, (0 : Int) ≤ 3 ∧ (3 : Int) < 8, (0 : Int) ≤ 5 ∧ (5 : Int) < 8, (0 : Int) ≤ 6 ∧ (6 : Int) < 8]) [2, 4, 5, 6, 12, 75] [0, 1, 2, 3, 4] 5 ⟨by omega, by omega, by omega, by omega, by omega, trivial⟩ hS fun hS => ?_
   refine block_n (then_n (rA [(0, .oi ((x75 + 1 : Nat) : Int))] trivial (fun _ => [iadd .i64 (x75 : Int) 1 = ((x75 + 1 : Nat) : Int)]) [2, 4, 5, 6, 12, 75] [0, 1, 2, 3, 4] 5 ⟨by rw [iadd64 omm omm]; omega, trivial⟩ hS fun hS => ?_))
   refine then_n ?_
   exact next_y hg0 hS (s := (x75, o12_0)) (x75 + 1, upd (upd (upd (upd (upd (upd (upd (upd (fun _ => 0) 0 (iadd .u32 (iadd .u32 (iadd .u32 (iadd .u32 (iadd .u32 (o12_0 7) (ixor .u32 (ixor .u32 (rot32_m (o12_0 4) (-6)) (rot32_m (o12_0 4) (-11))) (rot32_m (o12_0 4) (-25)))) (ixor .u32 (iand .u32 (o12_0 4) (o12_0 5)) (iand .u32 (inot .u32 (o12_0 4)) (o12_0 6)))) (IntKind.wrap .u32 (ishr .u64 (srounds_m x75) 32))) ((turn256_l1 h xs 64) x75)) (iadd .u32 (ixor .u32 (ixor .u32 (rot32_m (o12_0 0) (-2)) (rot32_m (o12_0 0) (-13))) (rot32_m (o12_0 0) (-22))) (ixor .u32 (ixor .u32 (iand .u32 (o12_0 0) (o12_0 1)) (iand .u32 (o12_0 0) (o12_0 2))) (iand .u32 (o12_0 1) (o12_0 2)))))) 1 (o12_0 0)) 2 (o12_0 1)) 3 (o12_0 2)) 4 (iadd .u32 (o12_0 3) (iadd .u32 (iadd .u32 (iadd .u32 (iadd .u32 (o12_0 7) (ixor .u32 (ixor .u32 (rot32_m (o12_0 4) (-6)) (rot32_m (o12_0 4) (-11))) (rot32_m (o12_0 4) (-25)))) (ixor .u32 (iand .u32 (o12_0 4) (o12_0 5)) (iand .u32 (inot .u32 (o12_0 4)) (o12_0 6)))) (IntKind.wrap .u32 (ishr .u64 (srounds_m x75) 32))) ((turn256_l1 h xs 64) x75)))) 5 (o12_0 4)) 6 (o12_0 5)) 7 (o12_0 6)) [(0, 0), (1, 1), (2, 2), (3, 3), (4, 4)] (show 64 - (x75 + 1) < 64 - x75 from by omega) ⟨omm, (it_next (F := turn256_l2 h xs) (st := turn256_l2_s h xs) (fun _ => rfl) hq2 rfl), trivial⟩
  ·have hScur := hS
   obtain rfl : 64 = x75 := by omega
   obtain rfl : turn256_l2 h xs 64 = o12_0 := Eq.symm (congrArg (fun z => z) hq2)
   have hS := hScur
   clear hScur
   refine wp_exit (then_exit (then_exit (block_exit (then_n (wp_seq (s0 [2, 4, 12, 159] [0, 1, 4] 5 hS fun hS => ?_))))))
   refine wp_block (loop_y (ι := Nat × (Nat → Int)) hg0 hS (fun z_ => match z_ with | (x159, o2_0) => 8 - x159) (fun z_ => match z_ with | (x159, o2_0) => [(2, .cp 0 0), (4, .cp 1 0), (12, .cp 4 0), (159, vi ((x159 : Nat) : Int))]) (fun z_ => match z_ with | (x159, o2_0) => [(0, .ob 177 (chain [.ar .u32 8 o2_0])), (1, .ob 177 (chain [.ar .u32 8 (fun _ => 0)])), (4, .ob 177 (chain [.ar .u32 8 (turn256_l2 h xs 64)]))]) (fun z_ => match z_ with | (x159, o2_0) => (x159 ≤ 8) ∧ (o2_0 = turn256_l3 h xs x159) ∧ True) 5 (0, h) [(0, 0), (1, 1), (4, 4)] ⟨omm, rfl, trivial⟩ ?_)
   rintro ⟨x159, o2_0⟩ ac gs ws ⟨hx159, hq3, _⟩ hS
   refine s0 [2, 4, 12, 159, 160] [0, 1, 4] 5 hS fun hS => ?_
   refine wp_seq ?_
   refine if_d ((x159 : Int) < 8) hS (fun h4 => ?_) (fun h4 => ?_)
   ·refine wp_skip (then_n (wp_seq (wp_block (s0 [2, 4, 12, 20, 159] [0, 1, 4] 5 hS fun hS => ?_))))
    refine rA [] trivial (fun _ => [(0 : Int) ≤ (x159 : Int) ∧ ((x159 : Int) : Int) < 8, (0 : Int) ≤ (x159 : Int) ∧ ((x159 : Int) : Int) < 8, (0 : Int) ≤ (x159 : Int) ∧ ((x159 : Int) : Int) < 8]) [2, 4, 12, 159] [0, 1, 4] 5 ⟨by omega, by omega, by omega, trivial⟩ hS fun hS => ?_
    refine block_n (then_n (rA [(0, .oi ((x159 + 1 : Nat) : Int))] trivial (fun _ => [iadd .i64 (x159 : Int) 1 = ((x159 + 1 : Nat) : Int)]) [2, 4, 12, 159] [0, 1, 4] 5 ⟨by rw [iadd64 omm omm]; omega, trivial⟩ hS fun hS => ?_))
    refine then_n ?_
    exact next_y hg0 hS (s := (x159, o2_0)) (x159 + 1, upd o2_0 x159 (iadd .u32 (o2_0 x159) ((turn256_l2 h xs 64) x159))) [(0, 0), (1, 1), (4, 4)] (show 8 - (x159 + 1) < 8 - x159 from by omega) ⟨omm, (it_next (F := turn256_l3 h xs) (st := turn256_l3_s h xs) (fun _ => rfl) hq3 rfl), trivial⟩
   ·have hScur := hS
    obtain rfl : 8 = x159 := by omega
    obtain rfl : turn256_l3 h xs 8 = o2_0 := Eq.symm (congrArg (fun z => z) hq3)
    have hS := hScur
    clear hScur
    refine wp_exit (then_exit (then_exit (block_exit (then_n (s0 [4] [1] 5 hS fun hS => ?_)))))
    refine wp_ret ?_
    have hM : turn256_m h xs = turn256_l3 h xs 8 := turn256_e h xs
    exact fin_y rfl (.inr rfl) hS [.ar .u32 8 (turn256_l3 h xs 8)] [] (by show weak _ (.ar .u32 8 (turn256_m h xs)) = (.ar .u32 8 (turn256_m h xs)); rw [hM]; first | (simp only []; rfl) | (simp only []; done) | rfl) trivial

def padded_v (xs : List Int) (n : Int) : (List Int) := (((xs ++ ([128] : List Int)) ++ List.replicate ((120 - (((xs ++ ([128] : List Int)).length) % 64)) % 64) (0 : Int)) ++ List.replicate 0 (0 : Int)) ++ (put64_m (imul .u64 8 n))
def padded_m (xs : List Int) (n : Int) : (List Int) := shut (padded_v xs n)
theorem padded_e (xs : List Int) (n : Int) : padded_m xs n = padded_v xs n := shut_eq _
def c_padded (xs : List Int) (n : Int) : Con := ⟨[lb xs, .v (.int .u64 n), vi 64], [], lb (padded_m xs n), []⟩
theorem padded_ok (xs : List Int) (n : Int) (hx : xs.length ≤ 1000000000000) : ConOk Tryz.prog 164 (c_padded xs n) := by
 refine conOk_of rfl (nb := 0) Tryz.func164 rfl rfl Tryz.ntmps164 rfl rfl rfl fun g0 w0 ac gs ws hg0 hS => ?_
 have hlen0 : xs.length ≤ 9223372036854775807 := hS.len 0 rfl
 have hS := hS.sp
 refine s0 [0, 1, 2, 6] [] 0 hS fun hS => ?_
 refine sA [(1, .call ⟨81, (c_clonek xs), [], [(0, 0)]⟩)] ⟨clonek_ok _ lnn, trivial⟩ (fun C => [ndC C 1, xs.length + ([128] : List Int).length ≤ 9223372036854775807, (xs.length + ([128] : List Int).length) * 1 ≤ 140737488355328]) [1, 2, 6, 7] [1] 2 ⟨rfl, by simp <;> omega, by simp <;> omega, trivial⟩ hS fun hS => ?_
 refine sA [] trivial (fun _ => [(8 : Int) ≠ 0]) [1, 2, 6, 7, 8] [1] 2 ⟨by omega, trivial⟩ hS fun hS => ?_
 refine sA [(8, .oi ((((xs ++ ([128] : List Int)).length) % 64 : Nat) : Int)), (9, .oi ((120 - (((xs ++ ([128] : List Int)).length) % 64) : Nat) : Int)), (11, .oi (((120 - (((xs ++ ([128] : List Int)).length) % 64)) % 64 : Nat) : Int))] trivial (fun _ => [irem (((xs ++ ([128] : List Int)).length : Nat) : Int) 64 = ((((xs ++ ([128] : List Int)).length) % 64 : Nat) : Int), (64 : Int) ≠ 0, isub .i64 120 ((((xs ++ ([128] : List Int)).length) % 64 : Nat) : Int) = ((120 - (((xs ++ ([128] : List Int)).length) % 64) : Nat) : Int), irem ((120 - (((xs ++ ([128] : List Int)).length) % 64) : Nat) : Int) 64 = (((120 - (((xs ++ ([128] : List Int)).length) % 64)) % 64 : Nat) : Int), (64 : Int) ≠ 0, (0 : Int) ≤ (((120 - (((xs ++ ([128] : List Int)).length) % 64)) % 64 : Nat) : Int), (xs ++ ([128] : List Int)).length + ((120 - (((xs ++ ([128] : List Int)).length) % 64)) % 64) ≤ 9223372036854775807, ((xs ++ ([128] : List Int)).length + ((120 - (((xs ++ ([128] : List Int)).length) % 64)) % 64)) * 1 ≤ 140737488355328]) [1, 6, 7, 8] [2] 3 ⟨by rw [irem64 omm]; omega, by omega, by rw [isub64 omm omm]; omega, by rw [irem64 omm]; omega, by omega, by omega, by simp <;> omega, by simp <;> omega, trivial⟩ hS fun hS => ?_
 refine sA [] trivial (fun _ => [(0 : Int) ≤ 0, ((xs ++ ([128] : List Int)) ++ List.replicate ((120 - (((xs ++ ([128] : List Int)).length) % 64)) % 64) (0 : Int)).length + 0 ≤ 9223372036854775807, (((xs ++ ([128] : List Int)) ++ List.replicate ((120 - (((xs ++ ([128] : List Int)).length) % 64)) % 64) (0 : Int)).length + 0) * 1 ≤ 140737488355328]) [1, 6, 7] [3] 4 ⟨by omega, by simp <;> omega, by simp <;> omega, trivial⟩ hS fun hS => ?_
 refine sA [(3, .call ⟨160, (c_put64 (imul .u64 8 n)), [], []⟩)] ⟨put64_ok _, trivial⟩ (fun C => [ndC C 3, (((xs ++ ([128] : List Int)) ++ List.replicate ((120 - (((xs ++ ([128] : List Int)).length) % 64)) % 64) (0 : Int)) ++ List.replicate 0 (0 : Int)).length + (put64_m (imul .u64 8 n)).length ≤ 9223372036854775807, ((((xs ++ ([128] : List Int)) ++ List.replicate ((120 - (((xs ++ ([128] : List Int)).length) % 64)) % 64) (0 : Int)) ++ List.replicate 0 (0 : Int)).length + (put64_m (imul .u64 8 n)).length) * 1 ≤ 140737488355328]) [6] [4] 5 ⟨rfl, by simp <;> omega, by simp <;> omega, trivial⟩ hS fun hS => ?_
 refine wp_ret ?_
 have hM : padded_m xs n = (((xs ++ ([128] : List Int)) ++ List.replicate ((120 - (((xs ++ ([128] : List Int)).length) % 64)) % 64) (0 : Int)) ++ List.replicate 0 (0 : Int)) ++ (put64_m (imul .u64 8 n)) := padded_e xs n
 obtain ⟨gs, hS⟩ := hS.fz 4
 exact fin_y rfl (.inr rfl) hS [lb ((((xs ++ ([128] : List Int)) ++ List.replicate ((120 - (((xs ++ ([128] : List Int)).length) % 64)) % 64) (0 : Int)) ++ List.replicate 0 (0 : Int)) ++ (put64_m (imul .u64 8 n)))] [] (by show weak _ (lb (padded_m xs n)) = (lb (padded_m xs n)); rw [hM]; first | (simp only []; rfl) | (simp only []; done) | rfl) trivial

end
end Go.Sx.Tryz
namespace Go.Sx.Tryz
open Go.Mi Go.RowKit Go.Sx Go.Proofs
noncomputable section
theorem padded_len (xs : List Int) (n : Int) : (padded_m xs n).length % 64 = 0 ∧ (padded_m xs n).length ≤ xs.length + 200 := by
 rw [padded_e]
 unfold padded_v
 simp only [List.length_append, List.length_cons, List.length_nil, List.length_replicate, put64_len]
 omega
def hadd_l1_s (h : Nat → Int) (r : List Int) (n : Int) (b : List Int) (k1 : Nat) : ((List Int) × (Nat → Int)) → ((List Int) × (Nat → Int)) := fun z_ => match z_ with | (x4, o5_0) => (x4.drop 64, turn256_m o5_0 x4)
def hadd_l1 (h : Nat → Int) (r : List Int) (n : Int) (b : List Int) : Nat → (List Int) × (Nat → Int)
 | 0 => ([r, b].flatten, over_m h)
 | k1 + 1 => hadd_l1_s h r n b k1 (hadd_l1 h r n b k1)
def hadd_l1_c (h : Nat → Int) (r : List Int) (n : Int) (b : List Int) : ((List Int) × (Nat → Int)) → Prop := fun z_ => match z_ with | (x4, o5_0) => (64 : Int) ≤ ((x4.length : Nat) : Int)
def hadd_v (h : Nat → Int) (r : List Int) (n : Int) (b : List Int) : (Nat → Int) × (List Int) × Int := (over_m ((hadd_l1 h r n b (lst fun j => hadd_l1_c h r n b (hadd_l1 h r n b j))).2), (hadd_l1 h r n b (lst fun j => hadd_l1_c h r n b (hadd_l1 h r n b j))).1, (iadd .u64 n ((b.length : Nat) : Int)))
def hadd_m (h : Nat → Int) (r : List Int) (n : Int) (b : List Int) : (Nat → Int) × (List Int) × Int := shut (hadd_v h r n b)
theorem hadd_e (h : Nat → Int) (r : List Int) (n : Int) (b : List Int) : hadd_m h r n b = hadd_v h r n b := shut_eq _
def c_hadd (h : Nat → Int) (r : List Int) (n : Int) (b : List Int) : Con := ⟨[.cp 0 0, lb b], [(0, .ob 179 (chain [.ar .u32 8 h, lb r, .v (.int .u64 n)]))], .tu (chain []), [(0, .ob 179 (chain [.ar .u32 8 ((hadd_m h r n b).1), lb ((hadd_m h r n b).2.1), .v (.int .u64 ((hadd_m h r n b).2.2))]))]⟩
theorem hadd_ok (h : Nat → Int) (r : List Int) (n : Int) (b : List Int) (hr : r.length ≤ 100000000000) (hb : b.length ≤ 100000000000) : ConOk Tryz.prog 122 (c_hadd h r n b) := by
 refine conOk_of rfl (nb := 1) Tryz.func122 rfl rfl Tryz.ntmps122 rfl rfl rfl fun g0 w0 ac gs ws hg0 hS => ?_
 have hlen1 : b.length ≤ 9223372036854775807 := hS.len 1 rfl
 have hS := hS.sp
 refine wp_seq (s0 [0, 1, 7] [0] 1 hS fun hS => ?_)
 refine cond_f hS ?_
 refine wp_skip (then_n (sA [(6, .oi ((b.length : Nat) : Int))] trivial (fun _ => [IntKind.wrap .u64 ((b.length : Nat) : Int) = ((b.length : Nat) : Int)]) [0, 1] [0] 1 ⟨wrap_u64 omm omm, trivial⟩ hS fun hS => ?_))
 refine sA [(6, .call ⟨161, (c_concat [r, b]), [], [(0, 1)]⟩)] ⟨concat_ok _ (by first | omega | (simp only [List.flatten_cons, List.flatten_nil, List.length_append, List.length_cons, List.length_nil, List.length_take, List.length_drop, List.length_replicate] <;> omega) | (simp <;> omega)), trivial⟩ (fun C => [ndC C 6]) [0, 4] [0, 1] 2 ⟨rfl, trivial⟩ hS fun hS => ?_
 refine sA [(3, .ov (.ar .u32 8 h)), (4, .call ⟨162, (c_over h), [], []⟩)] ⟨over_ok _, trivial⟩ (fun C => [(.ar .u32 8 h : D) = (.ar .u32 8 h), ndC C 4]) [0, 4, 5] [0, 1, 2] 3 ⟨rfl, rfl, trivial⟩ hS fun hS => ?_
 refine wp_seq (wp_block ?_)
 obtain ⟨gs, hS⟩ := hS.fz 1
 refine loop_y (ι := Nat × (List Int) × (Nat → Int)) hg0 hS (fun z_ => match z_ with | (k1, x4, o5_0) => x4.length) (fun z_ => match z_ with | (k1, x4, o5_0) => [(0, .cp 0 0), (4, lb x4), (5, .cp 2 0)]) (fun z_ => match z_ with | (k1, x4, o5_0) => [(0, .ob 179 (chain [.ar .u32 8 h, lb r, .v (.int .u64 (iadd .u64 n ((b.length : Nat) : Int)))])), (2, .ob 177 (chain [.ar .u32 8 o5_0]))]) (fun z_ => match z_ with | (k1, x4, o5_0) => ((x4, o5_0) = hadd_l1 h r n b k1) ∧ (∀ j, j < k1 → hadd_l1_c h r n b (hadd_l1 h r n b j)) ∧ (x4.length ≤ r.length + b.length) ∧ True) 3 (0, [r, b].flatten, over_m h) [(0, 0), (2, 2)] ⟨rfl, (fun j h => absurd h (Nat.not_lt_zero j)), (by simp), trivial⟩ ?_
 rintro ⟨k1, x4, o5_0⟩ ac gs ws ⟨hq1, hj1, p1, _⟩ hS
 refine wp_seq (s0 [0, 4, 5, 32] [0, 2] 3 hS fun hS => ?_)
 refine if_d ((64 : Int) ≤ ((x4.length : Nat) : Int)) hS (fun h1 => ?_) (fun h1 => ?_)
 ·refine wp_skip (then_n (wp_block (sA [(0, .ov (.ar .u32 8 o5_0)), (2, .call ⟨163, (c_turn256 o5_0 x4), [], []⟩)] ⟨turn256_ok _ _ lnn, trivial⟩ (fun _ => [(.ar .u32 8 o5_0 : D) = (.ar .u32 8 o5_0), nd [.ar .u32 8 o5_0, lb x4] []]) [0, 4, 5] [0, 2] 3 ⟨rfl, rfl, trivial⟩ hS fun hS => ?_)))
  refine rA [] trivial (fun _ => [bndP (some 64) none none x4.length x4.length]) [0, 4, 5] [0, 2] 3 ⟨⟨by simp only [nnI] <;> omega, by simp only [nnI] <;> omega, by simp only [nnI] <;> omega, by simp, by simp only [bl] <;> omega, by simp only [bl] <;> omega, by simp only [bl] <;> omega⟩, trivial⟩ hS fun hS => ?_
  refine block_n (then_n ?_)
  exact next_y hg0 hS (s := (k1, x4, o5_0)) (k1 + 1, x4.drop 64, turn256_m o5_0 x4) [(0, 0), (2, 2)] (show (x4.drop 64).length < x4.length from by rw [List.length_drop]; omega) ⟨(it_next (F := hadd_l1 h r n b) (st := hadd_l1_s h r n b) (fun _ => rfl) hq1 rfl), (lst_next hj1 (by rw [← hq1]; exact h1)), (by rw [List.length_drop]; omega), trivial⟩
 ·have hScur := hS
  obtain rfl := lst_eq (P := fun j => hadd_l1_c h r n b (hadd_l1 h r n b j)) (by rw [← hq1]; first | exact h1 | exact not_not_intro h1) hj1
  obtain rfl : (hadd_l1 h r n b (lst fun j => hadd_l1_c h r n b (hadd_l1 h r n b j))).1 = x4 := Eq.symm (congrArg (fun z => z.1) hq1)
  obtain rfl : (hadd_l1 h r n b (lst fun j => hadd_l1_c h r n b (hadd_l1 h r n b j))).2 = o5_0 := Eq.symm (congrArg (fun z => z.2) hq1)
  have hS := hScur
  clear hScur
  refine wp_exit (then_exit (then_exit (block_exit (then_n (rA [(2, .ov (.ar .u32 8 ((hadd_l1 h r n b (lst fun j => hadd_l1_c h r n b (hadd_l1 h r n b j))).2))), (3, .call ⟨162, (c_over ((hadd_l1 h r n b (lst fun j => hadd_l1_c h r n b (hadd_l1 h r n b j))).2)), [], []⟩), (5, .call ⟨81, (c_clone ((hadd_l1 h r n b (lst fun j => hadd_l1_c h r n b (hadd_l1 h r n b j))).1)), [], []⟩)] ⟨over_ok _, clone_ok _ lnn, trivial⟩ (fun C => [(.ar .u32 8 ((hadd_l1 h r n b (lst fun j => hadd_l1_c h r n b (hadd_l1 h r n b j))).2) : D) = (.ar .u32 8 ((hadd_l1 h r n b (lst fun j => hadd_l1_c h r n b (hadd_l1 h r n b j))).2)), ndC C 3, ndC C 5]) [] [0] 3 ⟨rfl, rfl, rfl, trivial⟩ hS fun hS => ?_)))))
  have hM : hadd_m h r n b = (over_m ((hadd_l1 h r n b (lst fun j => hadd_l1_c h r n b (hadd_l1 h r n b j))).2), (hadd_l1 h r n b (lst fun j => hadd_l1_c h r n b (hadd_l1 h r n b j))).1, (iadd .u64 n ((b.length : Nat) : Int))) := hadd_e h r n b
  exact fin_y rfl (.inl rfl) hS [] [(0, some (.ob 179 (chain [.ar .u32 8 (over_m ((hadd_l1 h r n b (lst fun j => hadd_l1_c h r n b (hadd_l1 h r n b j))).2)), lb ((hadd_l1 h r n b (lst fun j => hadd_l1_c h r n b (hadd_l1 h r n b j))).1), .v (.int .u64 (iadd .u64 n ((b.length : Nat) : Int)))])))] rfl (by show H1Ok _ [(0, .ob 179 (chain [.ar .u32 8 ((hadd_m h r n b).1), lb ((hadd_m h r n b).2.1), .v (.int .u64 ((hadd_m h r n b).2.2))]))] true; rw [hM]; first | (simp only []; exact ⟨rfl, trivial⟩) | exact ⟨rfl, trivial⟩)

def hsum_l1_s (h : Nat → Int) (r : List Int) (n : Int) (k1 : Nat) : ((List Int) × (Nat → Int)) → ((List Int) × (Nat → Int)) := fun z_ => match z_ with | (x4, o3_0) => (x4.drop 64, turn256_m o3_0 x4)
def hsum_l1 (h : Nat → Int) (r : List Int) (n : Int) : Nat → (List Int) × (Nat → Int)
 | 0 => (padded_m r n, over_m h)
 | k1 + 1 => hsum_l1_s h r n k1 (hsum_l1 h r n k1)
def hsum_l1_c (h : Nat → Int) (r : List Int) (n : Int) : ((List Int) × (Nat → Int)) → Prop := fun z_ => match z_ with | (x4, o3_0) => (0 : Int) < ((x4.length : Nat) : Int)
def hsum_l2_s (h : Nat → Int) (r : List Int) (n : Int) (x32 : Nat) : (List Int) → (List Int) := fun x2 => x2 ++ (put32_m (((hsum_l1 h r n (lst fun j => hsum_l1_c h r n (hsum_l1 h r n j))).2) x32))
def hsum_l2 (h : Nat → Int) (r : List Int) (n : Int) : Nat → (List Int)
 | 0 => []
 | x32 + 1 => hsum_l2_s h r n x32 (hsum_l2 h r n x32)
def hsum_v (h : Nat → Int) (r : List Int) (n : Int) : (List Int) := hsum_l2 h r n 8
def hsum_m (h : Nat → Int) (r : List Int) (n : Int) : (List Int) := shut (hsum_v h r n)
theorem hsum_e (h : Nat → Int) (r : List Int) (n : Int) : hsum_m h r n = hsum_v h r n := shut_eq _
@[simp] theorem hsum_len (h : Nat → Int) (r : List Int) (n : Int) : (hsum_m h r n).length = 32 := by
 have key : ∀ i, (hsum_l2 h r n i).length = 4 * i := by
  intro i
  induction i with
  | zero => rfl
  | succ i ih => show (hsum_l2 h r n i ++ put32_m _).length = _; rw [List.length_append, put32_len, ih]; omega
 rw [hsum_e]
 exact key 8
def c_hsum (h : Nat → Int) (r : List Int) (n : Int) : Con := ⟨[.cp 0 0], [(0, .ob 179 (chain [.ar .u32 8 h, lb r, .v (.int .u64 n)]))], .sk 1, [(0, .ob 179 (chain [.ar .u32 8 h, lb r, .v (.int .u64 n)])), (1, .sl 5 [.int .u8] (hsum_m h r n))]⟩
theorem hsum_ok (h : Nat → Int) (r : List Int) (n : Int) (hr : r.length ≤ 100000000000) : ConOk Tryz.prog 125 (c_hsum h r n) := by
 refine conOk_of rfl (nb := 1) Tryz.func125 rfl rfl Tryz.ntmps125 rfl rfl rfl fun g0 w0 ac gs ws hg0 hS => ?_
 have hS := hS.sp
 refine s0 [0, 2] [0] 1 hS fun hS => ?_
 refine wp_seq (s0 [0, 2, 8] [0] 1 hS fun hS => ?_)
 refine cond_f hS ?_
 refine wp_skip (then_n (sA [(3, .ov (.ar .u32 8 h)), (4, .call ⟨162, (c_over h), [], []⟩)] ⟨over_ok _, trivial⟩ (fun C => [(.ar .u32 8 h : D) = (.ar .u32 8 h), ndC C 4]) [0, 2, 3] [0, 1] 2 ⟨rfl, rfl, trivial⟩ hS fun hS => ?_))
 refine wp_seq (sA [(8, .call ⟨164, (c_padded r n), [], []⟩)] ⟨padded_ok _ _ lnn, trivial⟩ (fun C => [ndC C 8]) [2, 3, 4] [0, 1] 2 ⟨rfl, trivial⟩ hS fun hS => ?_)
 refine wp_block (loop_y (ι := Nat × (List Int) × (Nat → Int)) hg0 hS (fun z_ => match z_ with | (k1, x4, o3_0) => x4.length) (fun z_ => match z_ with | (k1, x4, o3_0) => [(2, .v (.slice none 0 0)), (3, .cp 1 0), (4, lb x4)]) (fun z_ => match z_ with | (k1, x4, o3_0) => [(0, .ob 179 (chain [.ar .u32 8 h, lb r, .v (.int .u64 n)])), (1, .ob 177 (chain [.ar .u32 8 o3_0]))]) (fun z_ => match z_ with | (k1, x4, o3_0) => ((x4, o3_0) = hsum_l1 h r n k1) ∧ (∀ j, j < k1 → hsum_l1_c h r n (hsum_l1 h r n j)) ∧ (x4.length % 64 = 0 ∧ x4.length ≤ r.length + 200) ∧ True) 2 (0, padded_m r n, over_m h) [(0, 0), (1, 1)] ⟨rfl, (fun j h => absurd h (Nat.not_lt_zero j)), (padded_len r n), trivial⟩ ?_)
 rintro ⟨k1, x4, o3_0⟩ ac gs ws ⟨hq1, hj1, p1, _⟩ hS
 refine wp_seq (s0 [2, 3, 4, 25] [0, 1] 2 hS fun hS => ?_)
 refine if_d ((0 : Int) < ((x4.length : Nat) : Int)) hS (fun h1 => ?_) (fun h1 => ?_)
 ·refine wp_skip (then_n (wp_seq (wp_block (rA [(0, .ov (.ar .u32 8 o3_0)), (2, .call ⟨163, (c_turn256 o3_0 x4), [], []⟩)] ⟨turn256_ok _ _ lnn, trivial⟩ (fun _ => [(.ar .u32 8 o3_0 : D) = (.ar .u32 8 o3_0), nd [.ar .u32 8 o3_0, lb x4] []]) [2, 3, 4] [0, 1] 2 ⟨rfl, rfl, trivial⟩ hS fun hS => ?_))))
  refine block_n (then_n (rA [] trivial (fun _ => [bndP (some 64) none none x4.length x4.length]) [2, 3, 4] [0, 1] 2 ⟨⟨by simp only [nnI] <;> omega, by simp only [nnI] <;> omega, by simp only [nnI] <;> omega, by simp, by simp only [bl] <;> omega, by simp only [bl] <;> omega, by simp only [bl] <;> omega⟩, trivial⟩ hS fun hS => ?_))
  refine then_n ?_
  exact next_y hg0 hS (s := (k1, x4, o3_0)) (k1 + 1, x4.drop 64, turn256_m o3_0 x4) [(0, 0), (1, 1)] (show (x4.drop 64).length < x4.length from by rw [List.length_drop]; omega) ⟨(it_next (F := hsum_l1 h r n) (st := hsum_l1_s h r n) (fun _ => rfl) hq1 rfl), (lst_next hj1 (by rw [← hq1]; exact h1)), (by rw [List.length_drop]; omega), trivial⟩
 ·have hScur := hS
  obtain rfl := lst_eq (P := fun j => hsum_l1_c h r n (hsum_l1 h r n j)) (by rw [← hq1]; first | exact h1 | exact not_not_intro h1) hj1
  obtain rfl : (hsum_l1 h r n (lst fun j => hsum_l1_c h r n (hsum_l1 h r n j))).1 = x4 := Eq.symm (congrArg (fun z => z.1) hq1)
  obtain rfl : (hsum_l1 h r n (lst fun j => hsum_l1_c h r n (hsum_l1 h r n j))).2 = o3_0 := Eq.symm (congrArg (fun z => z.2) hq1)
  have hS := hScur
  clear hScur
  refine wp_exit (then_exit (then_exit (block_exit (then_n (wp_seq (s0 [2, 31, 32] [0] 2 hS fun hS => ?_))))))
  refine wp_block ?_
  obtain ⟨gs, hS⟩ := hS.nilk 2 5 [.int .u8]
  refine loop_y (ι := Nat × (List Int)) hg0 hS (fun z_ => match z_ with | (x32, x2) => 8 - x32) (fun z_ => match z_ with | (x32, x2) => [(2, .sk 2), (31, .ar .u32 8 ((hsum_l1 h r n (lst fun j => hsum_l1_c h r n (hsum_l1 h r n j))).2)), (32, vi ((x32 : Nat) : Int))]) (fun z_ => match z_ with | (x32, x2) => [(0, .ob 179 (chain [.ar .u32 8 h, lb r, .v (.int .u64 n)])), (2, .sl 5 [.int .u8] x2)]) (fun z_ => match z_ with | (x32, x2) => (x32 ≤ 8) ∧ (x2 = hsum_l2 h r n x32) ∧ (x2.length = 4 * x32) ∧ True) 3 (0, []) [(0, 0), (2, 2)] ⟨omm, rfl, rfl, trivial⟩ ?_
  rintro ⟨x32, x2⟩ ac gs ws ⟨hx32, hq2, p2, _⟩ hS
  refine s0 [2, 31, 32, 33] [0, 2] 3 hS fun hS => ?_
  refine wp_seq ?_
  refine if_d ((x32 : Int) < 8) hS (fun h2 => ?_) (fun h2 => ?_)
  ·refine wp_skip (then_n (wp_seq (wp_block (sA [] trivial (fun _ => [(0 : Int) ≤ (x32 : Int) ∧ ((x32 : Int) : Int) < 8]) [2, 6, 31, 32] [0, 2] 3 ⟨by omega, trivial⟩ hS fun hS => ?_))))
   refine rA [(2, .call ⟨165, (c_put32 (((hsum_l1 h r n (lst fun j => hsum_l1_c h r n (hsum_l1 h r n j))).2) x32)), [], []⟩)] ⟨put32_ok _, trivial⟩ (fun C => [ndC C 2, x2.length + (put32_m (((hsum_l1 h r n (lst fun j => hsum_l1_c h r n (hsum_l1 h r n j))).2) x32)).length ≤ 9223372036854775807, (x2.length + (put32_m (((hsum_l1 h r n (lst fun j => hsum_l1_c h r n (hsum_l1 h r n j))).2) x32)).length) * 1 ≤ 140737488355328]) [2, 31, 32] [0, 3] 4 ⟨rfl, by (simp only [put32_len, List.length_nil]; omega), by (simp only [put32_len, List.length_nil]; omega), trivial⟩ hS fun hS => ?_
   refine block_n (then_n (rA [(0, .oi ((x32 + 1 : Nat) : Int))] trivial (fun _ => [iadd .i64 (x32 : Int) 1 = ((x32 + 1 : Nat) : Int)]) [2, 31, 32] [0, 3] 4 ⟨by rw [iadd64 omm omm]; omega, trivial⟩ hS fun hS => ?_))
   refine then_n ?_
   exact next_y hg0 hS (s := (x32, x2)) (x32 + 1, x2 ++ (put32_m (((hsum_l1 h r n (lst fun j => hsum_l1_c h r n (hsum_l1 h r n j))).2) x32))) [(0, 0), (2, 3)] (show 8 - (x32 + 1) < 8 - x32 from by omega) ⟨omm, (it_next (F := hsum_l2 h r n) (st := hsum_l2_s h r n) (fun _ => rfl) hq2 rfl), (by rw [List.length_append, put32_len]; omega), trivial⟩
  ·have hScur := hS
   obtain rfl : 8 = x32 := by omega
   obtain rfl : hsum_l2 h r n 8 = x2 := Eq.symm (congrArg (fun z => z) hq2)
   have hS := hScur
   clear hScur
   refine wp_exit (then_exit (then_exit (block_exit (then_n (s0 [2] [0, 2] 3 hS fun hS => ?_)))))
   refine wp_ret ?_
   have hM : hsum_m h r n = hsum_l2 h r n 8 := hsum_e h r n
   obtain ⟨gs, hS⟩ := hS.rn [(0, 0), (1, 2)] [(2, .sk 1)] [(0, .ob 179 (chain [.ar .u32 8 h, lb r, .v (.int .u64 n)])), (1, .sl 5 [.int .u8] (hsum_l2 h r n 8))] 2 hg0
   exact fin_y rfl (.inr rfl) hS [.sk 1] [(0, some (.ob 179 (chain [.ar .u32 8 h, lb r, .v (.int .u64 n)]))), (1, some (.sl 5 [.int .u8] (hsum_l2 h r n 8)))] rfl (by show H1Ok _ [(0, .ob 179 (chain [.ar .u32 8 h, lb r, .v (.int .u64 n)])), (1, .sl 5 [.int .u8] (hsum_m h r n))] true; rw [hM]; first | (simp only []; exact ⟨rfl, rfl, trivial⟩) | exact ⟨rfl, rfl, trivial⟩)

def c_hsumf (h : Nat → Int) (r : List Int) (n : Int) : Con := ⟨[.cp 0 0], [(0, .ob 179 (chain [.ar .u32 8 h, lb r, .v (.int .u64 n)]))], lb (hsum_m h r n), [(0, .ob 179 (chain [.ar .u32 8 h, lb r, .v (.int .u64 n)]))]⟩
theorem hsumf_ok (h : Nat → Int) (r : List Int) (n : Int) (hr : r.length ≤ 100000000000) : ConOk Tryz.prog 125 (c_hsumf h r n) := ConOk.frz [(0, .ob 179 (chain [.ar .u32 8 h, lb r, .v (.int .u64 n)]))] 1 5 [.int .u8] (hsum_m h r n) (hsum_ok h r n hr) (by kernel_rfl)
def c_hcopy (h : Nat → Int) (r : List Int) (n : Int) : Con := ⟨[.im (chain [.ar .u32 8 h, lb r, .v (.int .u64 n)]) 0], [], .cp 0 0, [(0, .ob 179 (chain [.ar .u32 8 h, lb r, .v (.int .u64 n)]))]⟩
theorem hcopy_ok (h : Nat → Int) (r : List Int) (n : Int) (hr : r.length ≤ 100000000000) : ConOk Tryz.prog 124 (c_hcopy h r n) := by
 refine conOk_of rfl (nb := 0) Tryz.func124 rfl rfl Tryz.ntmps124 rfl rfl rfl fun g0 w0 ac gs ws hg0 hS => ?_
 have hS := hS.sp
 refine s0 [0, 2] [] 0 hS fun hS => ?_
 refine wp_seq (s0 [0, 2, 4] [] 0 hS fun hS => ?_)
 refine cond_f hS ?_
 refine wp_skip (then_n (sA [(3, .ov (.ar .u32 8 h)), (8, .call ⟨81, (c_clone r), [], []⟩)] ⟨clone_ok _ lnn, trivial⟩ (fun C => [(.ar .u32 8 h : D) = (.ar .u32 8 h), ndC C 8]) [2] [0] 1 ⟨rfl, rfl, trivial⟩ hS fun hS => ?_))
 refine wp_ret ?_
 exact fin_y rfl (.inr rfl) hS [.cp 0 0] [(0, some (.ob 179 (chain [.ar .u32 8 h, lb r, .v (.int .u64 n)])))] rfl ⟨rfl, trivial⟩

end
end Go.Sx.Tryz
namespace Go.Sx.Tryz
open Go.Mi Go.RowKit Go.Sx Go.Proofs
noncomputable section
theorem hadd_len (h : Nat → Int) (r : List Int) (n : Int) (b : List Int) : (hadd_m h r n b).2.1.length ≤ r.length + b.length := by
 have key : ∀ k, (hadd_l1 h r n b k).1.length ≤ r.length + b.length := by
  intro k
  induction k with
  | zero => show [r, b].flatten.length ≤ _; simp
  | succ k ih => show ((hadd_l1 h r n b k).1.drop 64).length ≤ _; rw [List.length_drop]; omega
 rw [hadd_e]
 exact key _
def newkey_l1_s (key : List Int) (x22 : Nat) : ((Nat → Int) × (Nat → Int)) → ((Nat → Int) × (Nat → Int)) := fun z_ => match z_ with | (o4_0, o5_0) => (upd o4_0 x22 (ixor .u8 (o4_0 x22) 54), upd o5_0 x22 (ixor .u8 (o4_0 x22) 92))
def newkey_l1 (key : List Int) : Nat → (Nat → Int) × (Nat → Int)
 | 0 => (updW (fun _ => 0) 0 (min key.length 64) (fun j => key.getD j 0), fun _ => 0)
 | x22 + 1 => newkey_l1_s key x22 (newkey_l1 key x22)
def newkey_v (key : List Int) : (Nat → Int) × (List Int) × Int × (Nat → Int) × (List Int) × Int := ((hadd_m (fun _ => 0) ([] : List Int) 0 ((List.range 64).map ((newkey_l1 key 64).1))).1, (hadd_m (fun _ => 0) ([] : List Int) 0 ((List.range 64).map ((newkey_l1 key 64).1))).2.1, ((hadd_m (fun _ => 0) ([] : List Int) 0 ((List.range 64).map ((newkey_l1 key 64).1))).2.2), (hadd_m (fun _ => 0) ([] : List Int) 0 ((List.range 64).map ((newkey_l1 key 64).2))).1, (hadd_m (fun _ => 0) ([] : List Int) 0 ((List.range 64).map ((newkey_l1 key 64).2))).2.1, ((hadd_m (fun _ => 0) ([] : List Int) 0 ((List.range 64).map ((newkey_l1 key 64).2))).2.2))
def newkey_m (key : List Int) : (Nat → Int) × (List Int) × Int × (Nat → Int) × (List Int) × Int := shut (newkey_v key)
theorem newkey_e (key : List Int) : newkey_m key = newkey_v key := shut_eq _
theorem newkey_len (key : List Int) : (newkey_m key).2.1.length ≤ 64 ∧ (newkey_m key).2.2.2.2.1.length ≤ 64 := by
 rw [newkey_e]
 have h1 := hadd_len (fun _ => 0) [] 0 ((List.range 64).map ((newkey_l1 key 64).1))
 have h2 := hadd_len (fun _ => 0) [] 0 ((List.range 64).map ((newkey_l1 key 64).2))
 simp only [List.length_nil, List.length_map, List.length_range] at h1 h2
 rw [Nat.zero_add] at h1 h2
 exact ⟨h1, h2⟩
def c_newkey (key : List Int) : Con := ⟨[lb key], [], .im (chain [.im (chain [.ar .u32 8 ((newkey_m key).1), lb ((newkey_m key).2.1), .v (.int .u64 ((newkey_m key).2.2.1))]) 0, .im (chain [.ar .u32 8 ((newkey_m key).2.2.2.1), lb ((newkey_m key).2.2.2.2.1), .v (.int .u64 ((newkey_m key).2.2.2.2.2))]) 0]) 0, []⟩
theorem newkey_ok (key : List Int) (hk : key.length ≤ 64) : ConOk Tryz.prog 85 (c_newkey key) := by
 refine conOk_of rfl (nb := 0) Tryz.func85 rfl rfl Tryz.ntmps85 rfl rfl rfl fun g0 w0 ac gs ws hg0 hS => ?_
 have hlen0 : key.length ≤ 9223372036854775807 := hS.len 0 rfl
 have hS := hS.sp
 have hf : ¬ (64 : Int) < ((key.length : Nat) : Int) := omm
 refine s0 [0, 2] [] 0 hS fun hS => ?_
 refine wp_seq (sA [(2, .ob false)] trivial (fun _ => [(decide ((64 : Int) < ((key.length : Nat) : Int))) = false]) [0, 2, 9] [] 0 ⟨decide_eq_false hf, trivial⟩ hS fun hS => ?_)
 refine cond_f hS ?_
 refine wp_skip (then_n (s0 [0, 2, 3] [0, 1, 2] 3 hS fun hS => ?_))
 refine s0 [0, 2, 3, 4, 5] [0, 1, 2, 3, 4] 5 hS fun hS => ?_
 refine sA [] trivial (fun _ => [bndP none none none 64 64, 64 ≤ 9223372036854775807, bl none 0 < bl none 64]) [2, 3, 4, 5] [0, 1, 2, 3, 4] 5 ⟨⟨by simp only [nnI] <;> omega, by simp only [nnI] <;> omega, by simp only [nnI] <;> omega, by simp, by simp only [bl] <;> omega, by simp only [bl] <;> omega, by simp only [bl] <;> omega⟩, by omega, by decide, trivial⟩ hS fun hS => ?_
 refine wp_seq (s0 [2, 3, 4, 5, 22] [0, 1, 2, 3, 4] 5 hS fun hS => ?_)
 refine wp_block (loop_y (ι := Nat × (Nat → Int) × (Nat → Int)) hg0 hS (fun z_ => match z_ with | (x22, o4_0, o5_0) => 64 - x22) (fun z_ => match z_ with | (x22, o4_0, o5_0) => [(2, .v (.pointer none)), (3, .cp 2 0), (4, .cp 3 0), (5, .cp 4 0), (22, vi ((x22 : Nat) : Int))]) (fun z_ => match z_ with | (x22, o4_0, o5_0) => [(0, .ob 179 (chain [.ar .u32 8 (fun _ => 0), .v (.slice none 0 0), .v (.int .u64 0)])), (1, .ob 179 (chain [.ar .u32 8 (fun _ => 0), .v (.slice none 0 0), .v (.int .u64 0)])), (2, .ob 181 (chain [.cp 0 0, .cp 1 0])), (3, .ob 182 (chain [.ar .u8 64 o4_0])), (4, .ob 182 (chain [.ar .u8 64 o5_0]))]) (fun z_ => match z_ with | (x22, o4_0, o5_0) => (x22 ≤ 64) ∧ ((o4_0, o5_0) = newkey_l1 key x22) ∧ True) 5 (0, updW (fun _ => 0) 0 (min key.length 64) (fun j => key.getD j 0), fun _ => 0) [(0, 0), (1, 1), (2, 2), (3, 3), (4, 4)] ⟨omm, rfl, trivial⟩ ?_)
 rintro ⟨x22, o4_0, o5_0⟩ ac gs ws ⟨hx22, hq1, _⟩ hS
 refine s0 [2, 3, 4, 5, 22, 23] [0, 1, 2, 3, 4] 5 hS fun hS => ?_
 refine wp_seq ?_
 refine if_d ((x22 : Int) < 64) hS (fun h1 => ?_) (fun h1 => ?_)
 ·refine wp_skip (then_n (wp_seq (wp_block (s0 [2, 3, 4, 5, 6, 22] [0, 1, 2, 3, 4] 5 hS fun hS => ?_))))
  refine rA [] trivial (fun _ => [(0 : Int) ≤ (x22 : Int) ∧ ((x22 : Int) : Int) < 64, (0 : Int) ≤ (x22 : Int) ∧ ((x22 : Int) : Int) < 64, (0 : Int) ≤ (x22 : Int) ∧ ((x22 : Int) : Int) < 64, (0 : Int) ≤ (x22 : Int) ∧ ((x22 : Int) : Int) < 64]) [2, 3, 4, 5, 22] [0, 1, 2, 3, 4] 5 ⟨by omega, by omega, by omega, by omega, trivial⟩ hS fun hS => ?_
  refine block_n (then_n (rA [(0, .oi ((x22 + 1 : Nat) : Int))] trivial (fun _ => [iadd .i64 (x22 : Int) 1 = ((x22 + 1 : Nat) : Int)]) [2, 3, 4, 5, 22] [0, 1, 2, 3, 4] 5 ⟨by rw [iadd64 omm omm]; omega, trivial⟩ hS fun hS => ?_))
  refine then_n ?_
  exact next_y hg0 hS (s := (x22, o4_0, o5_0)) (x22 + 1, upd o4_0 x22 (ixor .u8 (o4_0 x22) 54), upd o5_0 x22 (ixor .u8 (o4_0 x22) 92)) [(0, 0), (1, 1), (2, 2), (3, 3), (4, 4)] (show 64 - (x22 + 1) < 64 - x22 from by omega) ⟨omm, (it_next (F := newkey_l1 key) (st := newkey_l1_s key) (fun _ => rfl) hq1 rfl), trivial⟩
 ·have hScur := hS
  obtain rfl : 64 = x22 := by omega
  obtain rfl : (newkey_l1 key 64).1 = o4_0 := Eq.symm (congrArg (fun z => z.1) hq1)
  obtain rfl : (newkey_l1 key 64).2 = o5_0 := Eq.symm (congrArg (fun z => z.2) hq1)
  have hS := hScur
  clear hScur
  refine wp_exit (then_exit (then_exit (block_exit (then_n (wp_seq ?_)))))
  have hS := hS.wko 0 [.top, lb [], .top]
  refine rB [(4, .frz)] [(5, .call ⟨122, (c_hadd (fun _ => 0) [] 0 ((List.range 64).map ((newkey_l1 key 64).1))), [(0, 0)], []⟩)] ⟨hadd_ok _ _ _ _ lnn lnn, trivial⟩ (fun C => [ndC C 5]) [2, 3, 5] [0, 1, 2, 4] 5 ⟨rfl, trivial⟩ hS fun hS => ?_
  refine then_n (wp_seq ?_)
  have hS := hS.wko 1 [.top, lb [], .top]
  refine rB [(4, .frz)] [(5, .call ⟨122, (c_hadd (fun _ => 0) [] 0 ((List.range 64).map ((newkey_l1 key 64).2))), [(0, 1)], []⟩)] ⟨hadd_ok _ _ _ _ lnn lnn, trivial⟩ (fun C => [ndC C 5]) [2, 3] [0, 1, 2] 5 ⟨rfl, trivial⟩ hS fun hS => ?_
  obtain ⟨gs, hS⟩ := hS.im 0
  obtain ⟨gs, hS⟩ := hS.im 1
  obtain ⟨gs, hS⟩ := hS.im 2
  refine then_n (s0 [2] [] 5 hS fun hS => ?_)
  refine wp_ret ?_
  have hM : newkey_m key = ((hadd_m (fun _ => 0) ([] : List Int) 0 ((List.range 64).map ((newkey_l1 key 64).1))).1, (hadd_m (fun _ => 0) ([] : List Int) 0 ((List.range 64).map ((newkey_l1 key 64).1))).2.1, ((hadd_m (fun _ => 0) ([] : List Int) 0 ((List.range 64).map ((newkey_l1 key 64).1))).2.2), (hadd_m (fun _ => 0) ([] : List Int) 0 ((List.range 64).map ((newkey_l1 key 64).2))).1, (hadd_m (fun _ => 0) ([] : List Int) 0 ((List.range 64).map ((newkey_l1 key 64).2))).2.1, ((hadd_m (fun _ => 0) ([] : List Int) 0 ((List.range 64).map ((newkey_l1 key 64).2))).2.2)) := newkey_e key
  exact fin_y rfl (.inr rfl) hS [.im (chain [.im (chain [.ar .u32 8 ((hadd_m (fun _ => 0) ([] : List Int) 0 ((List.range 64).map ((newkey_l1 key 64).1))).1), lb ((hadd_m (fun _ => 0) ([] : List Int) 0 ((List.range 64).map ((newkey_l1 key 64).1))).2.1), .v (.int .u64 ((hadd_m (fun _ => 0) ([] : List Int) 0 ((List.range 64).map ((newkey_l1 key 64).1))).2.2))]) 0, .im (chain [.ar .u32 8 ((hadd_m (fun _ => 0) ([] : List Int) 0 ((List.range 64).map ((newkey_l1 key 64).2))).1), lb ((hadd_m (fun _ => 0) ([] : List Int) 0 ((List.range 64).map ((newkey_l1 key 64).2))).2.1), .v (.int .u64 ((hadd_m (fun _ => 0) ([] : List Int) 0 ((List.range 64).map ((newkey_l1 key 64).2))).2.2))]) 0]) 0] [] (by show weak _ (.im (chain [.im (chain [.ar .u32 8 ((newkey_m key).1), lb ((newkey_m key).2.1), .v (.int .u64 ((newkey_m key).2.2.1))]) 0, .im (chain [.ar .u32 8 ((newkey_m key).2.2.2.1), lb ((newkey_m key).2.2.2.2.1), .v (.int .u64 ((newkey_m key).2.2.2.2.2))]) 0]) 0) = (.im (chain [.im (chain [.ar .u32 8 ((newkey_m key).1), lb ((newkey_m key).2.1), .v (.int .u64 ((newkey_m key).2.2.1))]) 0, .im (chain [.ar .u32 8 ((newkey_m key).2.2.2.1), lb ((newkey_m key).2.2.2.2.1), .v (.int .u64 ((newkey_m key).2.2.2.2.2))]) 0]) 0); rw [hM]; first | (simp only []; rfl) | (simp only []; done) | rfl) trivial

def kmac_l1_s (u1 : Nat → Int) (r1 : List Int) (n1 : Int) (u2 : Nat → Int) (r2 : List Int) (n2 : Int) (l : List (List Int)) (x30 : Nat) : ((Nat → Int) × (List Int) × Int) → ((Nat → Int) × (List Int) × Int) := fun z_ => match z_ with | (o5_0, o5_1, o5_2) => ((hadd_m o5_0 o5_1 o5_2 (l.getD x30 (rz [.sl (.int .u8)]))).1, (hadd_m o5_0 o5_1 o5_2 (l.getD x30 (rz [.sl (.int .u8)]))).2.1, ((hadd_m o5_0 o5_1 o5_2 (l.getD x30 (rz [.sl (.int .u8)]))).2.2))
def kmac_l1 (u1 : Nat → Int) (r1 : List Int) (n1 : Int) (u2 : Nat → Int) (r2 : List Int) (n2 : Int) (l : List (List Int)) : Nat → (Nat → Int) × (List Int) × Int
 | 0 => (u1, r1, n1)
 | x30 + 1 => kmac_l1_s u1 r1 n1 u2 r2 n2 l x30 (kmac_l1 u1 r1 n1 u2 r2 n2 l x30)
def kmac_v (u1 : Nat → Int) (r1 : List Int) (n1 : Int) (u2 : Nat → Int) (r2 : List Int) (n2 : Int) (l : List (List Int)) : (List Int) := hsum_m ((hadd_m u2 r2 n2 (hsum_m ((kmac_l1 u1 r1 n1 u2 r2 n2 l l.length).1) ((kmac_l1 u1 r1 n1 u2 r2 n2 l l.length).2.1) ((kmac_l1 u1 r1 n1 u2 r2 n2 l l.length).2.2))).1) ((hadd_m u2 r2 n2 (hsum_m ((kmac_l1 u1 r1 n1 u2 r2 n2 l l.length).1) ((kmac_l1 u1 r1 n1 u2 r2 n2 l l.length).2.1) ((kmac_l1 u1 r1 n1 u2 r2 n2 l l.length).2.2))).2.1) ((hadd_m u2 r2 n2 (hsum_m ((kmac_l1 u1 r1 n1 u2 r2 n2 l l.length).1) ((kmac_l1 u1 r1 n1 u2 r2 n2 l l.length).2.1) ((kmac_l1 u1 r1 n1 u2 r2 n2 l l.length).2.2))).2.2)
def kmac_m (u1 : Nat → Int) (r1 : List Int) (n1 : Int) (u2 : Nat → Int) (r2 : List Int) (n2 : Int) (l : List (List Int)) : (List Int) := shut (kmac_v u1 r1 n1 u2 r2 n2 l)
theorem kmac_e (u1 : Nat → Int) (r1 : List Int) (n1 : Int) (u2 : Nat → Int) (r2 : List Int) (n2 : Int) (l : List (List Int)) : kmac_m u1 r1 n1 u2 r2 n2 l = kmac_v u1 r1 n1 u2 r2 n2 l := shut_eq _
def c_kmac (u1 : Nat → Int) (r1 : List Int) (n1 : Int) (u2 : Nat → Int) (r2 : List Int) (n2 : Int) (l : List (List Int)) : Con := ⟨[.im (chain [.im (chain [.ar .u32 8 u1, lb r1, .v (.int .u64 n1)]) 0, .im (chain [.ar .u32 8 u2, lb r2, .v (.int .u64 n2)]) 0]) 0, .ls false [.sl (.int .u8)] l], [], .sk 0, [(0, .sl 5 [.int .u8] (kmac_m u1 r1 n1 u2 r2 n2 l))]⟩
theorem kmac_ok (u1 : Nat → Int) (r1 : List Int) (n1 : Int) (u2 : Nat → Int) (r2 : List Int) (n2 : Int) (l : List (List Int)) (hr1 : r1.length ≤ 64) (hr2 : r2.length ≤ 64) (hl : l.flatten.length ≤ 50000000000) : ConOk Tryz.prog 86 (c_kmac u1 r1 n1 u2 r2 n2 l) := by
 refine conOk_of rfl (nb := 0) Tryz.func86 rfl rfl Tryz.ntmps86 rfl rfl rfl fun g0 w0 ac gs ws hg0 hS => ?_
 have hlen1 : l.length ≤ 9223372036854775807 := hS.len 1 rfl
 have hS := hS.sp
 refine s0 [0, 1, 4] [] 0 hS fun hS => ?_
 refine wp_seq (s0 [0, 1, 4, 10] [] 0 hS fun hS => ?_)
 refine cond_f hS ?_
 refine wp_skip (then_n (wp_seq (s0 [0, 1, 4, 15] [] 0 hS fun hS => ?_)))
 refine cond_f hS ?_
 refine wp_skip (then_n (sA [(4, .call ⟨124, (c_hcopy u1 r1 n1), [], [(0, 0)]⟩), (9, .call ⟨124, (c_hcopy u2 r2 n2), [], [(0, 1)]⟩)] ⟨hcopy_ok _ _ _ lnn, hcopy_ok _ _ _ lnn, trivial⟩ (fun C => [ndC C 4, ndC C 9]) [1, 4, 5, 6] [0, 1] 2 ⟨rfl, rfl, trivial⟩ hS fun hS => ?_))
 refine wp_seq (s0 [4, 5, 6, 28, 29, 30] [0, 1] 2 hS fun hS => ?_)
 refine wp_block (loop_y (ι := Nat × (Nat → Int) × (List Int) × Int) hg0 hS (fun z_ => match z_ with | (x30, o5_0, o5_1, o5_2) => l.length - x30) (fun z_ => match z_ with | (x30, o5_0, o5_1, o5_2) => [(4, .v (.slice none 0 0)), (5, .cp 0 0), (6, .cp 1 0), (28, .ls false [.sl (.int .u8)] l), (29, vi ((l.length : Nat) : Int)), (30, vi ((x30 : Nat) : Int))]) (fun z_ => match z_ with | (x30, o5_0, o5_1, o5_2) => [(0, .ob 179 (chain [.ar .u32 8 o5_0, lb o5_1, .v (.int .u64 o5_2)])), (1, .ob 179 (chain [.ar .u32 8 u2, lb r2, .v (.int .u64 n2)]))]) (fun z_ => match z_ with | (x30, o5_0, o5_1, o5_2) => (x30 ≤ l.length) ∧ ((o5_0, o5_1, o5_2) = kmac_l1 u1 r1 n1 u2 r2 n2 l x30) ∧ (o5_1.length ≤ r1.length + (l.take x30).flatten.length) ∧ True) 2 (0, u1, r1, n1) [(0, 0), (1, 1)] ⟨omm, rfl, (by simp), trivial⟩ ?_)
 rintro ⟨x30, o5_0, o5_1, o5_2⟩ ac gs ws ⟨hx30, hq1, p1, _⟩ hS
 refine s0 [4, 5, 6, 28, 29, 30, 31] [0, 1] 2 hS fun hS => ?_
 refine wp_seq ?_
 refine if_d ((x30 : Int) < ((l.length : Nat) : Int)) hS (fun h1 => ?_) (fun h1 => ?_)
 ·refine wp_skip (then_n (wp_seq (wp_block (sA [] trivial (fun _ => [(0 : Int) ≤ (x30 : Int) ∧ (x30 : Int) < ((l.length : Nat) : Int)]) [4, 5, 6, 8, 28, 29, 30] [0, 1] 2 ⟨by omega, trivial⟩ hS fun hS => ?_))))
  have hb := cat_le (l := l) (j := x30) omm hl
  refine rA [(2, .call ⟨122, (c_hadd o5_0 o5_1 o5_2 (l.getD x30 (rz [.sl (.int .u8)]))), [(0, 0)], []⟩)] ⟨hadd_ok _ _ _ _ lnn lnn, trivial⟩ (fun C => [ndC C 2]) [4, 5, 6, 28, 29, 30] [0, 1] 2 ⟨rfl, trivial⟩ hS fun hS => ?_
  refine block_n (then_n (rA [(0, .oi ((x30 + 1 : Nat) : Int))] trivial (fun _ => [iadd .i64 (x30 : Int) 1 = ((x30 + 1 : Nat) : Int)]) [4, 5, 6, 28, 29, 30] [0, 1] 2 ⟨by rw [iadd64 omm omm]; omega, trivial⟩ hS fun hS => ?_))
  refine then_n ?_
  exact next_y hg0 hS (s := (x30, o5_0, o5_1, o5_2)) (x30 + 1, (hadd_m o5_0 o5_1 o5_2 (l.getD x30 (rz [.sl (.int .u8)]))).1, (hadd_m o5_0 o5_1 o5_2 (l.getD x30 (rz [.sl (.int .u8)]))).2.1, ((hadd_m o5_0 o5_1 o5_2 (l.getD x30 (rz [.sl (.int .u8)]))).2.2)) [(0, 0), (1, 1)] (show l.length - (x30 + 1) < l.length - x30 from by omega) ⟨omm, (it_next (F := kmac_l1 u1 r1 n1 u2 r2 n2 l) (st := kmac_l1_s u1 r1 n1 u2 r2 n2 l) (fun _ => rfl) hq1 rfl), (by have hc := cat_len l x30 omm; have ha := hadd_len o5_0 o5_1 o5_2 (l.getD x30 (rz [.sl (.int .u8)])); omega), trivial⟩
 ·have hScur := hS
  obtain rfl : l.length = x30 := by omega
  obtain rfl : (kmac_l1 u1 r1 n1 u2 r2 n2 l l.length).1 = o5_0 := Eq.symm (congrArg (fun z => z.1) hq1)
  obtain rfl : (kmac_l1 u1 r1 n1 u2 r2 n2 l l.length).2.1 = o5_1 := Eq.symm (congrArg (fun z => z.2.1) hq1)
  obtain rfl : (kmac_l1 u1 r1 n1 u2 r2 n2 l l.length).2.2 = o5_2 := Eq.symm (congrArg (fun z => z.2.2) hq1)
  have hS := hScur
  clear hScur
  refine wp_exit (then_exit (then_exit (block_exit (then_n (wp_seq ?_)))))
  rw [List.take_length] at p1
  refine rA [(2, .call ⟨125, (c_hsumf ((kmac_l1 u1 r1 n1 u2 r2 n2 l l.length).1) ((kmac_l1 u1 r1 n1 u2 r2 n2 l l.length).2.1) ((kmac_l1 u1 r1 n1 u2 r2 n2 l l.length).2.2)), [(0, 0)], []⟩), (3, .call ⟨122, (c_hadd u2 r2 n2 (hsum_m ((kmac_l1 u1 r1 n1 u2 r2 n2 l l.length).1) ((kmac_l1 u1 r1 n1 u2 r2 n2 l l.length).2.1) ((kmac_l1 u1 r1 n1 u2 r2 n2 l l.length).2.2))), [(0, 1)], []⟩)] ⟨hsumf_ok _ _ _ lnn, hadd_ok _ _ _ _ lnn lnn, trivial⟩ (fun C => [ndC C 2, ndC C 3]) [4, 6] [1] 2 ⟨rfl, rfl, trivial⟩ hS fun hS => ?_
  refine then_n (wp_seq ?_)
  have hx := hadd_len u2 r2 n2 (hsum_m ((kmac_l1 u1 r1 n1 u2 r2 n2 l l.length).1) ((kmac_l1 u1 r1 n1 u2 r2 n2 l l.length).2.1) ((kmac_l1 u1 r1 n1 u2 r2 n2 l l.length).2.2))
  rw [hsum_len] at hx
  refine rA [(1, .call ⟨125, (c_hsum ((hadd_m u2 r2 n2 (hsum_m ((kmac_l1 u1 r1 n1 u2 r2 n2 l l.length).1) ((kmac_l1 u1 r1 n1 u2 r2 n2 l l.length).2.1) ((kmac_l1 u1 r1 n1 u2 r2 n2 l l.length).2.2))).1) ((hadd_m u2 r2 n2 (hsum_m ((kmac_l1 u1 r1 n1 u2 r2 n2 l l.length).1) ((kmac_l1 u1 r1 n1 u2 r2 n2 l l.length).2.1) ((kmac_l1 u1 r1 n1 u2 r2 n2 l l.length).2.2))).2.1) ((hadd_m u2 r2 n2 (hsum_m ((kmac_l1 u1 r1 n1 u2 r2 n2 l l.length).1) ((kmac_l1 u1 r1 n1 u2 r2 n2 l l.length).2.1) ((kmac_l1 u1 r1 n1 u2 r2 n2 l l.length).2.2))).2.2)), [(0, 1)], [(1, 2)]⟩)] ⟨hsum_ok _ _ _ lnn, trivial⟩ (fun C => [ndC C 1]) [4] [2] 3 ⟨rfl, trivial⟩ hS fun hS => ?_
  refine then_n (wp_ret ?_)
  have hM : kmac_m u1 r1 n1 u2 r2 n2 l = hsum_m ((hadd_m u2 r2 n2 (hsum_m ((kmac_l1 u1 r1 n1 u2 r2 n2 l l.length).1) ((kmac_l1 u1 r1 n1 u2 r2 n2 l l.length).2.1) ((kmac_l1 u1 r1 n1 u2 r2 n2 l l.length).2.2))).1) ((hadd_m u2 r2 n2 (hsum_m ((kmac_l1 u1 r1 n1 u2 r2 n2 l l.length).1) ((kmac_l1 u1 r1 n1 u2 r2 n2 l l.length).2.1) ((kmac_l1 u1 r1 n1 u2 r2 n2 l l.length).2.2))).2.1) ((hadd_m u2 r2 n2 (hsum_m ((kmac_l1 u1 r1 n1 u2 r2 n2 l l.length).1) ((kmac_l1 u1 r1 n1 u2 r2 n2 l l.length).2.1) ((kmac_l1 u1 r1 n1 u2 r2 n2 l l.length).2.2))).2.2) := kmac_e u1 r1 n1 u2 r2 n2 l
  obtain ⟨gs, hS⟩ := hS.rn [(0, 2)] [(4, .sk 0)] [(0, .sl 5 [.int .u8] (hsum_m ((hadd_m u2 r2 n2 (hsum_m ((kmac_l1 u1 r1 n1 u2 r2 n2 l l.length).1) ((kmac_l1 u1 r1 n1 u2 r2 n2 l l.length).2.1) ((kmac_l1 u1 r1 n1 u2 r2 n2 l l.length).2.2))).1) ((hadd_m u2 r2 n2 (hsum_m ((kmac_l1 u1 r1 n1 u2 r2 n2 l l.length).1) ((kmac_l1 u1 r1 n1 u2 r2 n2 l l.length).2.1) ((kmac_l1 u1 r1 n1 u2 r2 n2 l l.length).2.2))).2.1) ((hadd_m u2 r2 n2 (hsum_m ((kmac_l1 u1 r1 n1 u2 r2 n2 l l.length).1) ((kmac_l1 u1 r1 n1 u2 r2 n2 l l.length).2.1) ((kmac_l1 u1 r1 n1 u2 r2 n2 l l.length).2.2))).2.2)))] 1 hg0
  exact fin_y rfl (.inr rfl) hS [.sk 0] [(0, some (.sl 5 [.int .u8] (hsum_m ((hadd_m u2 r2 n2 (hsum_m ((kmac_l1 u1 r1 n1 u2 r2 n2 l l.length).1) ((kmac_l1 u1 r1 n1 u2 r2 n2 l l.length).2.1) ((kmac_l1 u1 r1 n1 u2 r2 n2 l l.length).2.2))).1) ((hadd_m u2 r2 n2 (hsum_m ((kmac_l1 u1 r1 n1 u2 r2 n2 l l.length).1) ((kmac_l1 u1 r1 n1 u2 r2 n2 l l.length).2.1) ((kmac_l1 u1 r1 n1 u2 r2 n2 l l.length).2.2))).2.1) ((hadd_m u2 r2 n2 (hsum_m ((kmac_l1 u1 r1 n1 u2 r2 n2 l l.length).1) ((kmac_l1 u1 r1 n1 u2 r2 n2 l l.length).2.1) ((kmac_l1 u1 r1 n1 u2 r2 n2 l l.length).2.2))).2.2))))] rfl (by show H1Ok _ [(0, .sl 5 [.int .u8] (kmac_m u1 r1 n1 u2 r2 n2 l))] true; rw [hM]; first | (simp only []; exact ⟨rfl, trivial⟩) | exact ⟨rfl, trivial⟩)

def c_kmacf (u1 : Nat → Int) (r1 : List Int) (n1 : Int) (u2 : Nat → Int) (r2 : List Int) (n2 : Int) (l : List (List Int)) : Con := ⟨[.im (chain [.im (chain [.ar .u32 8 u1, lb r1, .v (.int .u64 n1)]) 0, .im (chain [.ar .u32 8 u2, lb r2, .v (.int .u64 n2)]) 0]) 0, .ls false [.sl (.int .u8)] l], [], lb (kmac_m u1 r1 n1 u2 r2 n2 l), []⟩
theorem kmacf_ok (u1 : Nat → Int) (r1 : List Int) (n1 : Int) (u2 : Nat → Int) (r2 : List Int) (n2 : Int) (l : List (List Int)) (hr1 : r1.length ≤ 64) (hr2 : r2.length ≤ 64) (hl : l.flatten.length ≤ 50000000000) : ConOk Tryz.prog 86 (c_kmacf u1 r1 n1 u2 r2 n2 l) := ConOk.frz [] 0 5 [.int .u8] (kmac_m u1 r1 n1 u2 r2 n2 l) (kmac_ok u1 r1 n1 u2 r2 n2 l hr1 hr2 hl) (by kernel_rfl)
@[simp] theorem kmac_len (u1 : Nat → Int) (r1 : List Int) (n1 : Int) (u2 : Nat → Int) (r2 : List Int) (n2 : Int) (l : List (List Int)) : (kmac_m u1 r1 n1 u2 r2 n2 l).length = 32 := by rw [kmac_e]; exact hsum_len ..
def mac_v (key : List Int) (l : List (List Int)) : (List Int) := kmac_m ((newkey_m key).1) ((newkey_m key).2.1) ((newkey_m key).2.2.1) ((newkey_m key).2.2.2.1) ((newkey_m key).2.2.2.2.1) ((newkey_m key).2.2.2.2.2) l
def mac_m (key : List Int) (l : List (List Int)) : (List Int) := shut (mac_v key l)
theorem mac_e (key : List Int) (l : List (List Int)) : mac_m key l = mac_v key l := shut_eq _
@[simp] theorem mac_len (key : List Int) (l : List (List Int)) : (mac_m key l).length = 32 := by rw [mac_e]; exact kmac_len ..
def c_mac (key : List Int) (l : List (List Int)) : Con := ⟨[lb key, .ls false [.sl (.int .u8)] l], [], lb (mac_m key l), []⟩
theorem mac_ok (key : List Int) (l : List (List Int)) (hk : key.length ≤ 64) (hl : l.flatten.length ≤ 50000000000) : ConOk Tryz.prog 123 (c_mac key l) := by
 refine conOk_of rfl (nb := 0) Tryz.func123 rfl rfl Tryz.ntmps123 rfl rfl rfl fun g0 w0 ac gs ws hg0 hS => ?_
 have hlen0 : key.length ≤ 9223372036854775807 := hS.len 0 rfl
 have hlen1 : l.length ≤ 9223372036854775807 := hS.len 1 rfl
 have hS := hS.sp
 refine s0 [0, 1, 4] [] 0 hS fun hS => ?_
 refine sA [(1, .call ⟨85, (c_newkey key), [], []⟩), (3, .call ⟨86, (c_kmacf ((newkey_m key).1) ((newkey_m key).2.1) ((newkey_m key).2.2.1) ((newkey_m key).2.2.2.1) ((newkey_m key).2.2.2.2.1) ((newkey_m key).2.2.2.2.2) l), [], []⟩)] ⟨newkey_ok _ lnn, kmacf_ok _ _ _ _ _ _ _ (newkey_len _).1 (newkey_len _).2 (by first | assumption | omega | (simp only [List.flatten_cons, List.flatten_nil, List.length_append, List.length_cons, List.length_nil] <;> omega) | (simp <;> omega)), trivial⟩ (fun C => [ndC C 1, ndC C 3]) [4] [] 0 ⟨rfl, rfl, trivial⟩ hS fun hS => ?_
 refine wp_ret ?_
 have hM : mac_m key l = kmac_m ((newkey_m key).1) ((newkey_m key).2.1) ((newkey_m key).2.2.1) ((newkey_m key).2.2.2.1) ((newkey_m key).2.2.2.2.1) ((newkey_m key).2.2.2.2.2) l := mac_e key l
 exact fin_y rfl (.inr rfl) hS [lb (kmac_m ((newkey_m key).1) ((newkey_m key).2.1) ((newkey_m key).2.2.1) ((newkey_m key).2.2.2.1) ((newkey_m key).2.2.2.2.1) ((newkey_m key).2.2.2.2.2) l)] [] (by show weak _ (lb (mac_m key l)) = (lb (mac_m key l)); rw [hM]; first | (simp only []; rfl) | (simp only []; done) | rfl) trivial

def mac0_v (l : List (List Int)) : (List Int) := kmac_m ((newkey_m ([] : List Int)).1) ((newkey_m ([] : List Int)).2.1) ((newkey_m ([] : List Int)).2.2.1) ((newkey_m ([] : List Int)).2.2.2.1) ((newkey_m ([] : List Int)).2.2.2.2.1) ((newkey_m ([] : List Int)).2.2.2.2.2) l
def mac0_m (l : List (List Int)) : (List Int) := shut (mac0_v l)
theorem mac0_e (l : List (List Int)) : mac0_m l = mac0_v l := shut_eq _
@[simp] theorem mac0_len (l : List (List Int)) : (mac0_m l).length = 32 := by rw [mac0_e]; exact kmac_len ..
end
end Go.Sx.Tryz
namespace Go.Sx.Tryz
open Go.Mi Go.RowKit Go.Sx Go.Proofs
noncomputable section
def extract_v (key ikm : List Int) : (List Int) := mac_m key [ikm]
def extract_m (key ikm : List Int) : (List Int) := shut (extract_v key ikm)
theorem extract_e (key ikm : List Int) : extract_m key ikm = extract_v key ikm := shut_eq _
@[simp] theorem extract_len (key : List Int) (ikm : List Int) : (extract_m key ikm).length = 32 := by rw [extract_e]; exact mac_len ..
def c_extract (key ikm : List Int) : Con := ⟨[lb key, lb ikm], [], lb (extract_m key ikm), []⟩
theorem extract_ok (key ikm : List Int) (hk : key.length ≤ 64) (hi : ikm.length ≤ 1000000000) : ConOk Tryz.prog 113 (c_extract key ikm) := by
 refine conOk_of rfl (nb := 0) Tryz.func113 rfl rfl Tryz.ntmps113 rfl rfl rfl fun g0 w0 ac gs ws hg0 hS => ?_
 have hlen0 : key.length ≤ 9223372036854775807 := hS.len 0 rfl
 have hlen1 : ikm.length ≤ 9223372036854775807 := hS.len 1 rfl
 have hS := hS.sp
 refine s0 [0, 1, 4] [] 0 hS fun hS => ?_
 refine sA [(3, .call ⟨123, (c_mac key [ikm]), [], []⟩)] ⟨mac_ok _ _ lnn (by first | assumption | omega | (simp only [List.flatten_cons, List.flatten_nil, List.length_append, List.length_cons, List.length_nil] <;> omega) | (simp <;> omega)), trivial⟩ (fun C => [ndC C 3]) [4] [] 0 ⟨rfl, trivial⟩ hS fun hS => ?_
 refine wp_ret ?_
 have hM : extract_m key ikm = mac_m key [ikm] := extract_e key ikm
 exact fin_y rfl (.inr rfl) hS [lb (mac_m key [ikm])] [] (by show weak _ (lb (extract_m key ikm)) = (lb (extract_m key ikm)); rw [hM]; first | (simp only []; rfl) | (simp only []; done) | rfl) trivial

def extract0_v (ikm : List Int) : (List Int) := mac_m ([] : List Int) [ikm]
def extract0_m (ikm : List Int) : (List Int) := shut (extract0_v ikm)
theorem extract0_e (ikm : List Int) : extract0_m ikm = extract0_v ikm := shut_eq _
@[simp] theorem extract0_len (ikm : List Int) : (extract0_m ikm).length = 32 := by rw [extract0_e]; exact mac0_len ..
def expand32_l1_s (key info : List Int) (k1 : Nat) : (Int × (List Int) × (List Int)) → (Int × (List Int) × (List Int)) := fun z_ => match z_ with | (x10, x8, x9) => ((iadd .u8 x10 1), x8 ++ (kmac_m ((newkey_m key).1) ((newkey_m key).2.1) ((newkey_m key).2.2.1) ((newkey_m key).2.2.2.1) ((newkey_m key).2.2.2.2.1) ((newkey_m key).2.2.2.2.2) [x9, info, [x10]]), kmac_m ((newkey_m key).1) ((newkey_m key).2.1) ((newkey_m key).2.2.1) ((newkey_m key).2.2.2.1) ((newkey_m key).2.2.2.2.1) ((newkey_m key).2.2.2.2.2) [x9, info, [x10]])
def expand32_l1 (key info : List Int) : Nat → Int × (List Int) × (List Int)
 | 0 => (1, [], [])
 | k1 + 1 => expand32_l1_s key info k1 (expand32_l1 key info k1)
def expand32_l1_c (key info : List Int) : (Int × (List Int) × (List Int)) → Prop := fun z_ => match z_ with | (x10, x8, x9) => ((x8.length : Nat) : Int) < 32
def expand32_v (key info : List Int) : (List Int) := [] ++ (((expand32_l1 key info (lst fun j => expand32_l1_c key info (expand32_l1 key info j))).2.1).take 32)
def expand32_m (key info : List Int) : (List Int) := shut (expand32_v key info)
theorem expand32_e (key info : List Int) : expand32_m key info = expand32_v key info := shut_eq _
theorem expand32_k (key info : List Int) : ∀ k, (expand32_l1 key info k).2.1.length = 32 * k
 | 0 => rfl
 | k + 1 => by
  show ((expand32_l1 key info k).2.1 ++ kmac_m _ _ _ _ _ _ _).length = _
  rw [List.length_append, kmac_len, expand32_k key info k]; omega
@[simp] theorem expand32_len (key info : List Int) : (expand32_m key info).length = 32 := by
 have h : (lst fun j => expand32_l1_c key info (expand32_l1 key info j)) = 1 := by
  refine (lst_eq ?_ ?_).symm
  ·show ¬ (((expand32_l1 key info 1).2.1.length : Nat) : Int) < 32
   rw [expand32_k]; omega
  ·intro j hj
   show (((expand32_l1 key info j).2.1.length : Nat) : Int) < 32
   rw [expand32_k]; omega
 rw [expand32_e]
 unfold expand32_v
 rw [h, List.nil_append, List.length_take, expand32_k]
 omega
def c_expand32 (key info : List Int) : Con := ⟨[lb key, lb info, vi 32], [], lb (expand32_m key info), []⟩
theorem expand32_ok (key info : List Int) (hk : key.length ≤ 64) (hf : info.length ≤ 1000000000) : ConOk Tryz.prog 112 (c_expand32 key info) := by
 refine conOk_of rfl (nb := 0) Tryz.func112 rfl rfl Tryz.ntmps112 rfl rfl rfl fun g0 w0 ac gs ws hg0 hS => ?_
 have hlen0 : key.length ≤ 9223372036854775807 := hS.len 0 rfl
 have hlen1 : info.length ≤ 9223372036854775807 := hS.len 1 rfl
 have hS := hS.sp
 refine s0 [0, 1, 2, 6] [] 0 hS fun hS => ?_
 refine wp_seq (s0 [0, 1, 2, 6, 16] [] 0 hS fun hS => ?_)
 refine cond_f hS ?_
 refine wp_skip (then_n (sA [(1, .call ⟨85, (c_newkey key), [], []⟩)] ⟨newkey_ok _ lnn, trivial⟩ (fun C => [ndC C 1]) [1, 2, 6, 7] [] 0 ⟨rfl, trivial⟩ hS fun hS => ?_))
 refine s0 [1, 2, 6, 7, 8, 9] [] 0 hS fun hS => ?_
 refine wp_seq (s0 [1, 2, 6, 7, 8, 9, 10] [] 0 hS fun hS => ?_)
 refine wp_block ?_
 obtain ⟨gs, hS⟩ := hS.nilk 8 5 [.int .u8]
 have hS := hS.wk 9 (lb [])
 refine loop_y (ι := Nat × Int × (List Int) × (List Int)) hg0 hS (fun z_ => match z_ with | (k1, x10, x8, x9) => 32 - x8.length) (fun z_ => match z_ with | (k1, x10, x8, x9) => [(1, lb info), (2, vi 32), (6, .v (.slice none 0 0)), (7, .fn 86 (chain [.im (chain [.im (chain [.ar .u32 8 ((newkey_m key).1), lb ((newkey_m key).2.1), .v (.int .u64 ((newkey_m key).2.2.1))]) 0, .im (chain [.ar .u32 8 ((newkey_m key).2.2.2.1), lb ((newkey_m key).2.2.2.2.1), .v (.int .u64 ((newkey_m key).2.2.2.2.2))]) 0]) 0]) (chain [])), (8, .sk 0), (9, lb x9), (10, .v (.int .u8 x10))]) (fun z_ => match z_ with | (k1, x10, x8, x9) => [(0, .sl 5 [.int .u8] x8)]) (fun z_ => match z_ with | (k1, x10, x8, x9) => ((x10, x8, x9) = expand32_l1 key info k1) ∧ (∀ j, j < k1 → expand32_l1_c key info (expand32_l1 key info j)) ∧ (x9.length ≤ 32) ∧ (x8.length = 32 * k1) ∧ True) 1 (0, 1, [], []) [(0, 0)] ⟨rfl, (fun j h => absurd h (Nat.not_lt_zero j)), (by simp), rfl, trivial⟩ ?_
 rintro ⟨k1, x10, x8, x9⟩ ac gs ws ⟨hq1, hj1, p1, p2, _⟩ hS
 refine wp_seq (s0 [1, 2, 6, 7, 8, 9, 10, 23] [0] 1 hS fun hS => ?_)
 refine if_d (((x8.length : Nat) : Int) < 32) hS (fun h1 => ?_) (fun h1 => ?_)
 ·refine wp_skip (then_n (wp_seq (wp_block (sA [(6, .call ⟨86, (c_kmacf ((newkey_m key).1) ((newkey_m key).2.1) ((newkey_m key).2.2.1) ((newkey_m key).2.2.2.1) ((newkey_m key).2.2.2.2.1) ((newkey_m key).2.2.2.2.2) [x9, info, [x10]]), [], []⟩)] ⟨kmacf_ok _ _ _ _ _ _ _ (newkey_len _).1 (newkey_len _).2 (by first | assumption | omega | (simp only [List.flatten_cons, List.flatten_nil, List.length_append, List.length_cons, List.length_nil, kmac_len, mac_len, mac0_len] <;> omega) | (simp <;> omega)), trivial⟩ (fun C => [ndC C 6]) [1, 2, 6, 7, 8, 9, 10] [0] 1 ⟨rfl, trivial⟩ hS fun hS => ?_))))
  refine rA [] trivial (fun _ => [x8.length + (kmac_m ((newkey_m key).1) ((newkey_m key).2.1) ((newkey_m key).2.2.1) ((newkey_m key).2.2.2.1) ((newkey_m key).2.2.2.2.1) ((newkey_m key).2.2.2.2.2) [x9, info, [x10]]).length ≤ 9223372036854775807, (x8.length + (kmac_m ((newkey_m key).1) ((newkey_m key).2.1) ((newkey_m key).2.2.1) ((newkey_m key).2.2.2.1) ((newkey_m key).2.2.2.2.1) ((newkey_m key).2.2.2.2.2) [x9, info, [x10]]).length) * 1 ≤ 140737488355328]) [1, 2, 6, 7, 8, 9, 10] [1] 2 ⟨by (first | omega | (rw [kmac_len]; omega) | (simp only [List.length_nil, List.length_take]; omega)), by (first | omega | (rw [kmac_len]; omega) | (simp only [List.length_nil, List.length_take]; omega)), trivial⟩ hS fun hS => ?_
  refine block_n (then_n (r0 [1, 2, 6, 7, 8, 9, 10] [1] 2 hS fun hS => ?_))
  refine then_n ?_
  exact next_y hg0 hS (s := (k1, x10, x8, x9)) (k1 + 1, (iadd .u8 x10 1), x8 ++ (kmac_m ((newkey_m key).1) ((newkey_m key).2.1) ((newkey_m key).2.2.1) ((newkey_m key).2.2.2.1) ((newkey_m key).2.2.2.2.1) ((newkey_m key).2.2.2.2.2) [x9, info, [x10]]), kmac_m ((newkey_m key).1) ((newkey_m key).2.1) ((newkey_m key).2.2.1) ((newkey_m key).2.2.2.1) ((newkey_m key).2.2.2.2.1) ((newkey_m key).2.2.2.2.2) [x9, info, [x10]]) [(0, 1)] (show 32 - (x8 ++ kmac_m _ _ _ _ _ _ _).length < 32 - x8.length from by rw [List.length_append, kmac_len]; omega) ⟨(it_next (F := expand32_l1 key info) (st := expand32_l1_s key info) (fun _ => rfl) hq1 rfl), (lst_next hj1 (by rw [← hq1]; exact h1)), (by rw [kmac_len]; omega), (by rw [List.length_append, kmac_len]; omega), trivial⟩
 ·have hScur := hS
  obtain rfl := lst_eq (P := fun j => expand32_l1_c key info (expand32_l1 key info j)) (by rw [← hq1]; first | exact h1 | exact not_not_intro h1) hj1
  obtain rfl : (expand32_l1 key info (lst fun j => expand32_l1_c key info (expand32_l1 key info j))).1 = x10 := Eq.symm (congrArg (fun z => z.1) hq1)
  obtain rfl : (expand32_l1 key info (lst fun j => expand32_l1_c key info (expand32_l1 key info j))).2.1 = x8 := Eq.symm (congrArg (fun z => z.2.1) hq1)
  obtain rfl : (expand32_l1 key info (lst fun j => expand32_l1_c key info (expand32_l1 key info j))).2.2 = x9 := Eq.symm (congrArg (fun z => z.2.2) hq1)
  have hS := hScur
  clear hScur
  refine wp_exit (then_exit (then_exit (block_exit (then_n (wp_seq ?_)))))
  have hz := h1
  obtain ⟨gs, hS⟩ := hS.fz 0
  refine rA [] trivial (fun _ => [bndP none (some 32) none ((expand32_l1 key info (lst fun j => expand32_l1_c key info (expand32_l1 key info j))).2.1).length ((expand32_l1 key info (lst fun j => expand32_l1_c key info (expand32_l1 key info j))).2.1).length, ([] : List (RT [.int .u8])).length + (((expand32_l1 key info (lst fun j => expand32_l1_c key info (expand32_l1 key info j))).2.1).take 32).length ≤ 9223372036854775807, (([] : List (RT [.int .u8])).length + (((expand32_l1 key info (lst fun j => expand32_l1_c key info (expand32_l1 key info j))).2.1).take 32).length) * 1 ≤ 140737488355328]) [6] [1] 2 ⟨⟨by simp only [nnI] <;> omega, by simp only [nnI] <;> omega, by simp only [nnI] <;> omega, by simp, by simp only [bl] <;> omega, by simp only [bl] <;> omega, by simp only [bl] <;> omega⟩, by (first | omega | (rw [kmac_len]; omega) | (simp only [List.length_nil, List.length_take]; omega)), by (first | omega | (rw [kmac_len]; omega) | (simp only [List.length_nil, List.length_take]; omega)), trivial⟩ hS fun hS => ?_
  refine then_n (wp_ret ?_)
  have hM : expand32_m key info = [] ++ (((expand32_l1 key info (lst fun j => expand32_l1_c key info (expand32_l1 key info j))).2.1).take 32) := expand32_e key info
  obtain ⟨gs, hS⟩ := hS.fz 1
  exact fin_y rfl (.inr rfl) hS [lb ([] ++ (((expand32_l1 key info (lst fun j => expand32_l1_c key info (expand32_l1 key info j))).2.1).take 32))] [] (by show weak _ (lb (expand32_m key info)) = (lb (expand32_m key info)); rw [hM]; first | (simp only []; rfl) | (simp only []; done) | rfl) trivial

def expand64_l1_s (key info : List Int) (k1 : Nat) : (Int × (List Int) × (List Int)) → (Int × (List Int) × (List Int)) := fun z_ => match z_ with | (x10, x8, x9) => ((iadd .u8 x10 1), x8 ++ (kmac_m ((newkey_m key).1) ((newkey_m key).2.1) ((newkey_m key).2.2.1) ((newkey_m key).2.2.2.1) ((newkey_m key).2.2.2.2.1) ((newkey_m key).2.2.2.2.2) [x9, info, [x10]]), kmac_m ((newkey_m key).1) ((newkey_m key).2.1) ((newkey_m key).2.2.1) ((newkey_m key).2.2.2.1) ((newkey_m key).2.2.2.2.1) ((newkey_m key).2.2.2.2.2) [x9, info, [x10]])
def expand64_l1 (key info : List Int) : Nat → Int × (List Int) × (List Int)
 | 0 => (1, [], [])
 | k1 + 1 => expand64_l1_s key info k1 (expand64_l1 key info k1)
def expand64_l1_c (key info : List Int) : (Int × (List Int) × (List Int)) → Prop := fun z_ => match z_ with | (x10, x8, x9) => ((x8.length : Nat) : Int) < 64
def expand64_v (key info : List Int) : (List Int) := [] ++ (((expand64_l1 key info (lst fun j => expand64_l1_c key info (expand64_l1 key info j))).2.1).take 64)
def expand64_m (key info : List Int) : (List Int) := shut (expand64_v key info)
theorem expand64_e (key info : List Int) : expand64_m key info = expand64_v key info := shut_eq _
theorem expand64_k (key info : List Int) : ∀ k, (expand64_l1 key info k).2.1.length = 32 * k
 | 0 => rfl
 | k + 1 => by
  show ((expand64_l1 key info k).2.1 ++ kmac_m _ _ _ _ _ _ _).length = _
  rw [List.length_append, kmac_len, expand64_k key info k]; omega
@[simp] theorem expand64_len (key info : List Int) : (expand64_m key info).length = 64 := by
 have h : (lst fun j => expand64_l1_c key info (expand64_l1 key info j)) = 2 := by
  refine (lst_eq ?_ ?_).symm
  ·show ¬ (((expand64_l1 key info 2).2.1.length : Nat) : Int) < 64
   rw [expand64_k]; omega
  ·intro j hj
   show (((expand64_l1 key info j).2.1.length : Nat) : Int) < 64
   rw [expand64_k]; omega
 rw [expand64_e]
 unfold expand64_v
 rw [h, List.nil_append, List.length_take, expand64_k]
 omega
def c_expand64 (key info : List Int) : Con := ⟨[lb key, lb info, vi 64], [], lb (expand64_m key info), []⟩
theorem expand64_ok (key info : List Int) (hk : key.length ≤ 64) (hf : info.length ≤ 1000000000) : ConOk Tryz.prog 112 (c_expand64 key info) := by
 refine conOk_of rfl (nb := 0) Tryz.func112 rfl rfl Tryz.ntmps112 rfl rfl rfl fun g0 w0 ac gs ws hg0 hS => ?_
 have hlen0 : key.length ≤ 9223372036854775807 := hS.len 0 rfl
 have hlen1 : info.length ≤ 9223372036854775807 := hS.len 1 rfl
 have hS := hS.sp
 refine s0 [0, 1, 2, 6] [] 0 hS fun hS => ?_
 refine wp_seq (s0 [0, 1, 2, 6, 16] [] 0 hS fun hS => ?_)
 refine cond_f hS ?_
 refine wp_skip (then_n (sA [(1, .call ⟨85, (c_newkey key), [], []⟩)] ⟨newkey_ok _ lnn, trivial⟩ (fun C => [ndC C 1]) [1, 2, 6, 7] [] 0 ⟨rfl, trivial⟩ hS fun hS => ?_))
 refine s0 [1, 2, 6, 7, 8, 9] [] 0 hS fun hS => ?_
 refine wp_seq (s0 [1, 2, 6, 7, 8, 9, 10] [] 0 hS fun hS => ?_)
 refine wp_block ?_
 obtain ⟨gs, hS⟩ := hS.nilk 8 5 [.int .u8]
 have hS := hS.wk 9 (lb [])
 refine loop_y (ι := Nat × Int × (List Int) × (List Int)) hg0 hS (fun z_ => match z_ with | (k1, x10, x8, x9) => 64 - x8.length) (fun z_ => match z_ with | (k1, x10, x8, x9) => [(1, lb info), (2, vi 64), (6, .v (.slice none 0 0)), (7, .fn 86 (chain [.im (chain [.im (chain [.ar .u32 8 ((newkey_m key).1), lb ((newkey_m key).2.1), .v (.int .u64 ((newkey_m key).2.2.1))]) 0, .im (chain [.ar .u32 8 ((newkey_m key).2.2.2.1), lb ((newkey_m key).2.2.2.2.1), .v (.int .u64 ((newkey_m key).2.2.2.2.2))]) 0]) 0]) (chain [])), (8, .sk 0), (9, lb x9), (10, .v (.int .u8 x10))]) (fun z_ => match z_ with | (k1, x10, x8, x9) => [(0, .sl 5 [.int .u8] x8)]) (fun z_ => match z_ with | (k1, x10, x8, x9) => ((x10, x8, x9) = expand64_l1 key info k1) ∧ (∀ j, j < k1 → expand64_l1_c key info (expand64_l1 key info j)) ∧ (x9.length ≤ 32) ∧ (x8.length = 32 * k1) ∧ True) 1 (0, 1, [], []) [(0, 0)] ⟨rfl, (fun j h => absurd h (Nat.not_lt_zero j)), (by simp), rfl, trivial⟩ ?_
 rintro ⟨k1, x10, x8, x9⟩ ac gs ws ⟨hq1, hj1, p1, p2, _⟩ hS
 refine wp_seq (s0 [1, 2, 6, 7, 8, 9, 10, 23] [0] 1 hS fun hS => ?_)
 refine if_d (((x8.length : Nat) : Int) < 64) hS (fun h1 => ?_) (fun h1 => ?_)
 ·refine wp_skip (then_n (wp_seq (wp_block (sA [(6, .call ⟨86, (c_kmacf ((newkey_m key).1) ((newkey_m key).2.1) ((newkey_m key).2.2.1) ((newkey_m key).2.2.2.1) ((newkey_m key).2.2.2.2.1) ((newkey_m key).2.2.2.2.2) [x9, info, [x10]]), [], []⟩)] ⟨kmacf_ok _ _ _ _ _ _ _ (newkey_len _).1 (newkey_len _).2 (by first | assumption | omega | (simp only [List.flatten_cons, List.flatten_nil, List.length_append, List.length_cons, List.length_nil, kmac_len, mac_len, mac0_len] <;> omega) | (simp <;> omega)), trivial⟩ (fun C => [ndC C 6]) [1, 2, 6, 7, 8, 9, 10] [0] 1 ⟨rfl, trivial⟩ hS fun hS => ?_))))
  refine rA [] trivial (fun _ => [x8.length + (kmac_m ((newkey_m key).1) ((newkey_m key).2.1) ((newkey_m key).2.2.1) ((newkey_m key).2.2.2.1) ((newkey_m key).2.2.2.2.1) ((newkey_m key).2.2.2.2.2) [x9, info, [x10]]).length ≤ 9223372036854775807, (x8.length + (kmac_m ((newkey_m key).1) ((newkey_m key).2.1) ((newkey_m key).2.2.1) ((newkey_m key).2.2.2.1) ((newkey_m key).2.2.2.2.1) ((newkey_m key).2.2.2.2.2) [x9, info, [x10]]).length) * 1 ≤ 140737488355328]) [1, 2, 6, 7, 8, 9, 10] [1] 2 ⟨by (first | omega | (rw [kmac_len]; omega) | (simp only [List.length_nil, List.length_take]; omega)), by (first | omega | (rw [kmac_len]; omega) | (simp only [List.length_nil, List.length_take]; omega)), trivial⟩ hS fun hS => ?_
  refine block_n (then_n (r0 [1, 2, 6, 7, 8, 9, 10] [1] 2 hS fun hS => ?_))
  refine then_n ?_
  exact next_y hg0 hS (s := (k1, x10, x8, x9)) (k1 + 1, (iadd .u8 x10 1), x8 ++ (kmac_m ((newkey_m key).1) ((newkey_m key).2.1) ((newkey_m key).2.2.1) ((newkey_m key).2.2.2.1) ((newkey_m key).2.2.2.2.1) ((newkey_m key).2.2.2.2.2) [x9, info, [x10]]), kmac_m ((newkey_m key).1) ((newkey_m key).2.1) ((newkey_m key).2.2.1) ((newkey_m key).2.2.2.1) ((newkey_m key).2.2.2.2.1) ((newkey_m key).2.2.2.2.2) [x9, info, [x10]]) [(0, 1)] (show 64 - (x8 ++ kmac_m _ _ _ _ _ _ _).length < 64 - x8.length from by rw [List.length_append, kmac_len]; omega) ⟨(it_next (F := expand64_l1 key info) (st := expand64_l1_s key info) (fun _ => rfl) hq1 rfl), (lst_next hj1 (by rw [← hq1]; exact h1)), (by rw [kmac_len]; omega), (by rw [List.length_append, kmac_len]; omega), trivial⟩
 ·have hScur := hS
  obtain rfl := lst_eq (P := fun j => expand64_l1_c key info (expand64_l1 key info j)) (by rw [← hq1]; first | exact h1 | exact not_not_intro h1) hj1
  obtain rfl : (expand64_l1 key info (lst fun j => expand64_l1_c key info (expand64_l1 key info j))).1 = x10 := Eq.symm (congrArg (fun z => z.1) hq1)
  obtain rfl : (expand64_l1 key info (lst fun j => expand64_l1_c key info (expand64_l1 key info j))).2.1 = x8 := Eq.symm (congrArg (fun z => z.2.1) hq1)
  obtain rfl : (expand64_l1 key info (lst fun j => expand64_l1_c key info (expand64_l1 key info j))).2.2 = x9 := Eq.symm (congrArg (fun z => z.2.2) hq1)
  have hS := hScur
  clear hScur
  refine wp_exit (then_exit (then_exit (block_exit (then_n (wp_seq ?_)))))
  have hz := h1
  obtain ⟨gs, hS⟩ := hS.fz 0
  refine rA [] trivial (fun _ => [bndP none (some 64) none ((expand64_l1 key info (lst fun j => expand64_l1_c key info (expand64_l1 key info j))).2.1).length ((expand64_l1 key info (lst fun j => expand64_l1_c key info (expand64_l1 key info j))).2.1).length, ([] : List (RT [.int .u8])).length + (((expand64_l1 key info (lst fun j => expand64_l1_c key info (expand64_l1 key info j))).2.1).take 64).length ≤ 9223372036854775807, (([] : List (RT [.int .u8])).length + (((expand64_l1 key info (lst fun j => expand64_l1_c key info (expand64_l1 key info j))).2.1).take 64).length) * 1 ≤ 140737488355328]) [6] [1] 2 ⟨⟨by simp only [nnI] <;> omega, by simp only [nnI] <;> omega, by simp only [nnI] <;> omega, by simp, by simp only [bl] <;> omega, by simp only [bl] <;> omega, by simp only [bl] <;> omega⟩, by (first | omega | (rw [kmac_len]; omega) | (simp only [List.length_nil, List.length_take]; omega)), by (first | omega | (rw [kmac_len]; omega) | (simp only [List.length_nil, List.length_take]; omega)), trivial⟩ hS fun hS => ?_
  refine then_n (wp_ret ?_)
  have hM : expand64_m key info = [] ++ (((expand64_l1 key info (lst fun j => expand64_l1_c key info (expand64_l1 key info j))).2.1).take 64) := expand64_e key info
  obtain ⟨gs, hS⟩ := hS.fz 1
  exact fin_y rfl (.inr rfl) hS [lb ([] ++ (((expand64_l1 key info (lst fun j => expand64_l1_c key info (expand64_l1 key info j))).2.1).take 64))] [] (by show weak _ (lb (expand64_m key info)) = (lb (expand64_m key info)); rw [hM]; first | (simp only []; rfl) | (simp only []; done) | rfl) trivial

def derive32_v (key ikm info : List Int) : (List Int) := expand32_m (extract_m key ikm) info
def derive32_m (key ikm info : List Int) : (List Int) := shut (derive32_v key ikm info)
theorem derive32_e (key ikm info : List Int) : derive32_m key ikm info = derive32_v key ikm info := shut_eq _
@[simp] theorem derive32_len (key : List Int) (ikm info : List Int) : (derive32_m key ikm info).length = 32 := by rw [derive32_e]; exact expand32_len ..
def c_derive32 (key ikm info : List Int) : Con := ⟨[lb key, lb ikm, lb info, vi 32], [], lb (derive32_m key ikm info), []⟩
theorem derive32_ok (key ikm info : List Int) (hk : key.length ≤ 64) (hi : ikm.length ≤ 1000000000) (hf : info.length ≤ 1000000000) : ConOk Tryz.prog 75 (c_derive32 key ikm info) := by
 refine conOk_of rfl (nb := 0) Tryz.func75 rfl rfl Tryz.ntmps75 rfl rfl rfl fun g0 w0 ac gs ws hg0 hS => ?_
 have hlen0 : key.length ≤ 9223372036854775807 := hS.len 0 rfl
 have hlen1 : ikm.length ≤ 9223372036854775807 := hS.len 1 rfl
 have hlen2 : info.length ≤ 9223372036854775807 := hS.len 2 rfl
 have hS := hS.sp
 refine s0 [0, 1, 2, 3, 8] [] 0 hS fun hS => ?_
 refine wp_seq ?_
 have hl := extract_len key ikm
 refine rA [(2, .call ⟨113, (c_extract key ikm), [], []⟩), (5, .call ⟨112, (c_expand32 (extract_m key ikm) info), [], []⟩)] ⟨extract_ok _ _ lnn lnn, expand32_ok _ _ lnn lnn, trivial⟩ (fun C => [ndC C 2, ndC C 5]) [8] [] 0 ⟨rfl, rfl, trivial⟩ hS fun hS => ?_
 refine then_n (wp_ret ?_)
 have hM : derive32_m key ikm info = expand32_m (extract_m key ikm) info := derive32_e key ikm info
 exact fin_y rfl (.inr rfl) hS [lb (expand32_m (extract_m key ikm) info)] [] (by show weak _ (lb (derive32_m key ikm info)) = (lb (derive32_m key ikm info)); rw [hM]; first | (simp only []; rfl) | (simp only []; done) | rfl) trivial

def derive0_32_v (ikm info : List Int) : (List Int) := expand32_m (extract_m ([] : List Int) ikm) info
def derive0_32_m (ikm info : List Int) : (List Int) := shut (derive0_32_v ikm info)
theorem derive0_32_e (ikm info : List Int) : derive0_32_m ikm info = derive0_32_v ikm info := shut_eq _
def c_derive0_32 (ikm info : List Int) : Con := ⟨[.v (.slice none 0 0), lb ikm, lb info, vi 32], [], lb (derive0_32_m ikm info), []⟩
theorem derive0_32_ok (ikm info : List Int) (hi : ikm.length ≤ 1000000000) (hf : info.length ≤ 1000000000) : ConOk Tryz.prog 75 (c_derive0_32 ikm info) := by
 refine conOk_of rfl (nb := 0) Tryz.func75 rfl rfl Tryz.ntmps75 rfl rfl rfl fun g0 w0 ac gs ws hg0 hS => ?_
 have hlen1 : ikm.length ≤ 9223372036854775807 := hS.len 1 rfl
 have hlen2 : info.length ≤ 9223372036854775807 := hS.len 2 rfl
 have hS := hS.sp
 refine s0 [0, 1, 2, 3, 8] [] 0 hS fun hS => ?_
 refine wp_seq ?_
 have hl := extract0_len ikm
 refine rA [(2, .call ⟨113, (c_extract [] ikm), [], []⟩), (5, .call ⟨112, (c_expand32 (extract_m ([] : List Int) ikm) info), [], []⟩)] ⟨extract_ok _ _ lnn lnn, expand32_ok _ _ lnn lnn, trivial⟩ (fun C => [ndC C 2, ndC C 5]) [8] [] 0 ⟨rfl, rfl, trivial⟩ hS fun hS => ?_
 refine then_n (wp_ret ?_)
 have hM : derive0_32_m ikm info = expand32_m (extract_m ([] : List Int) ikm) info := derive0_32_e ikm info
 exact fin_y rfl (.inr rfl) hS [lb (expand32_m (extract_m ([] : List Int) ikm) info)] [] (by show weak _ (lb (derive0_32_m ikm info)) = (lb (derive0_32_m ikm info)); rw [hM]; first | (simp only []; rfl) | (simp only []; done) | rfl) trivial

def derive0_64_v (ikm info : List Int) : (List Int) := expand64_m (extract_m ([] : List Int) ikm) info
def derive0_64_m (ikm info : List Int) : (List Int) := shut (derive0_64_v ikm info)
theorem derive0_64_e (ikm info : List Int) : derive0_64_m ikm info = derive0_64_v ikm info := shut_eq _
@[simp] theorem derive0_64_len (ikm info : List Int) : (derive0_64_m ikm info).length = 64 := by rw [derive0_64_e]; exact expand64_len ..
def c_derive0_64 (ikm info : List Int) : Con := ⟨[.v (.slice none 0 0), lb ikm, lb info, vi 64], [], lb (derive0_64_m ikm info), []⟩
theorem derive0_64_ok (ikm info : List Int) (hi : ikm.length ≤ 1000000000) (hf : info.length ≤ 1000000000) : ConOk Tryz.prog 75 (c_derive0_64 ikm info) := by
 refine conOk_of rfl (nb := 0) Tryz.func75 rfl rfl Tryz.ntmps75 rfl rfl rfl fun g0 w0 ac gs ws hg0 hS => ?_
 have hlen1 : ikm.length ≤ 9223372036854775807 := hS.len 1 rfl
 have hlen2 : info.length ≤ 9223372036854775807 := hS.len 2 rfl
 have hS := hS.sp
 refine s0 [0, 1, 2, 3, 8] [] 0 hS fun hS => ?_
 refine wp_seq ?_
 have hl := extract0_len ikm
 refine rA [(2, .call ⟨113, (c_extract [] ikm), [], []⟩), (5, .call ⟨112, (c_expand64 (extract_m ([] : List Int) ikm) info), [], []⟩)] ⟨extract_ok _ _ lnn lnn, expand64_ok _ _ lnn lnn, trivial⟩ (fun C => [ndC C 2, ndC C 5]) [8] [] 0 ⟨rfl, rfl, trivial⟩ hS fun hS => ?_
 refine then_n (wp_ret ?_)
 have hM : derive0_64_m ikm info = expand64_m (extract_m ([] : List Int) ikm) info := derive0_64_e ikm info
 exact fin_y rfl (.inr rfl) hS [lb (expand64_m (extract_m ([] : List Int) ikm) info)] [] (by show weak _ (lb (derive0_64_m ikm info)) = (lb (derive0_64_m ikm info)); rw [hM]; first | (simp only []; rfl) | (simp only []; done) | rfl) trivial

end
end Go.Sx.Tryz
namespace Go.Sx
open Go.Mi Go.RowKit
def Rb (n : Nat) (f : Nat → Int) : Prop := ∀ j, j < n → 0 ≤ f j ∧ f j < 256
theorem w8_rg (x : Int) : 0 ≤ IntKind.wrap .u8 x ∧ IntKind.wrap .u8 x < 256 := by rw [wrap_u8m]; omega
theorem xor_rg (a b : Int) : 0 ≤ ixor .u8 a b ∧ ixor .u8 a b < 256 := w8_rg _
theorem Rb.zero (f : Nat → Int) : Rb 0 f := fun _ h => absurd h (Nat.not_lt_zero _)
theorem Rb.next {n : Nat} {f : Nat → Int} {v : Int} (h : Rb n f) (hv : 0 ≤ v ∧ v < 256) : Rb (n + 1) (upd f n v) := fun j hj => by
 unfold upd
 split
 ·exact hv
 ·exact h j (by omega)
theorem Rb.set {n : Nat} {f : Nat → Int} {v : Int} (h : Rb n f) (i : Nat) (hv : 0 ≤ v ∧ v < 256) : Rb n (upd f i v) := fun j hj => by
 unfold upd
 split
 ·exact hv
 ·exact h j hj
theorem Rb.mono {m n : Nat} {f : Nat → Int} (h : Rb n f) (hm : m ≤ n) : Rb m f := fun j hj => h j (by omega)
theorem shr1_lt {b : Int} (h : 0 < b) : (ishr .u8 b 1).toNat < b.toNat := by
 have := shr8 (a := b) (by omega) (n := 1) (by omega)
 rw [show ((1 : Nat) : Int) = 1 from rfl] at this
 rw [this, Int.toNat_natCast, Nat.shiftRight_eq_div_pow]
 omega
theorem xor8 {a b : Int} (ha : 0 ≤ a ∧ a < 256) (hb : 0 ≤ b ∧ b < 256) : ixor .u8 a b = ((a.toNat ^^^ b.toNat : Nat) : Int) := by
 have h : a.toNat ^^^ b.toNat < 2 ^ 8 := Nat.xor_lt_two_pow (by omega) (by omega)
 unfold ixor
 rw [wrap_u8m]
 show (((BitVec.ofInt 8 a ^^^ BitVec.ofInt 8 b).toNat : Nat) : Int) % 256 = _
 rw [BitVec.toNat_xor, ofI8 ha, ofI8 hb]
 omega
theorem xor_m8 (a b : Int) : ixor .u8 a b = ixor .u8 a (b % 256) := by
 unfold ixor
 congr 4
 show BitVec.ofInt 8 b = BitVec.ofInt 8 (b % 256)
 apply BitVec.eq_of_toNat_eq
 rw [BitVec.toNat_ofInt, BitVec.toNat_ofInt]
 omega
theorem xor_xor {a : Int} (ha : 0 ≤ a ∧ a < 256) (b : Int) : ixor .u8 (ixor .u8 a b) b = a := by
 have hb : 0 ≤ b % 256 ∧ b % 256 < 256 := by omega
 rw [xor_m8 _ b, xor_m8 a b, xor8 (xor_rg _ _) hb, xor8 ha hb]
 rw [Int.toNat_natCast, Nat.xor_assoc, Nat.xor_self, Nat.xor_zero]
 omega
end Go.Sx
namespace Go.Sx.Tryz
open Go.Mi Go.RowKit Go.Sx Go.Proofs
noncomputable section
def rot8_v (x : Int) (k : Nat) : Int := (ior .u8 (ishl .u8 x (iand .u64 (k : Int) 7)) (ishr .u8 x (isub .u64 8 (iand .u64 (k : Int) 7))))
def rot8_m (x : Int) (k : Nat) : Int := shut (rot8_v x k)
theorem rot8_e (x : Int) (k : Nat) : rot8_m x k = rot8_v x k := shut_eq _
def c_rot8 (x : Int) (k : Nat) : Con := ⟨[.v (.int .u8 x), vi (k : Int)], [], .v (.int .u8 (rot8_m x k)), []⟩
theorem rot8_ok (x : Int) (k : Nat) (hk : k ≤ 8) : ConOk Tryz.prog 212 (c_rot8 x k) := by
 refine conOk_of rfl (nb := 0) Tryz.func212 rfl rfl Tryz.ntmps212 rfl rfl rfl fun g0 w0 ac gs ws hg0 hS => ?_
 have hS := hS.sp
 refine s0 [0, 1, 4] [] 0 hS fun hS => ?_
 refine sA [(1, .oi (k : Int))] trivial (fun _ => [IntKind.wrap .u64 (k : Int) = (k : Int)]) [0, 4, 5] [] 0 ⟨wrap_u64 omm omm, trivial⟩ hS fun hS => ?_
 refine sA [] trivial (fun _ => [(0 : Int) ≤ (iand .u64 (k : Int) 7), (0 : Int) ≤ (isub .u64 8 (iand .u64 (k : Int) 7))]) [4] [] 0 ⟨wrap_nn rfl, wrap_nn rfl, trivial⟩ hS fun hS => ?_
 refine wp_ret ?_
 have hM : rot8_m x k = (ior .u8 (ishl .u8 x (iand .u64 (k : Int) 7)) (ishr .u8 x (isub .u64 8 (iand .u64 (k : Int) 7)))) := rot8_e x k
 exact fin_y rfl (.inr rfl) hS [.v (.int .u8 (ior .u8 (ishl .u8 x (iand .u64 (k : Int) 7)) (ishr .u8 x (isub .u64 8 (iand .u64 (k : Int) 7)))))] [] (by show weak _ (.v (.int .u8 (rot8_m x k))) = (.v (.int .u8 (rot8_m x k))); rw [hM]; first | (simp only []; rfl) | (simp only []; done) | rfl) trivial

def twice_v (x : Int) : Int := (ixor .u8 (ishl .u8 x 1) (imul .u8 (ishr .u8 x 7) 27))
def twice_m (x : Int) : Int := shut (twice_v x)
theorem twice_e (x : Int) : twice_m x = twice_v x := shut_eq _
def c_twice (x : Int) : Con := ⟨[.v (.int .u8 x)], [], .v (.int .u8 (twice_m x)), []⟩
theorem twice_ok (x : Int) : ConOk Tryz.prog 204 (c_twice x) := by
 refine conOk_of rfl (nb := 0) Tryz.func204 rfl rfl Tryz.ntmps204 rfl rfl rfl fun g0 w0 ac gs ws hg0 hS => ?_
 have hS := hS.sp
 refine s0 [0, 2] [] 0 hS fun hS => ?_
 refine sA [] trivial (fun _ => [(0 : Int) ≤ 1, (0 : Int) ≤ 7]) [2] [] 0 ⟨by omega, by omega, trivial⟩ hS fun hS => ?_
 refine wp_ret ?_
 have hM : twice_m x = (ixor .u8 (ishl .u8 x 1) (imul .u8 (ishr .u8 x 7) 27)) := twice_e x
 exact fin_y rfl (.inr rfl) hS [.v (.int .u8 (ixor .u8 (ishl .u8 x 1) (imul .u8 (ishr .u8 x 7) 27)))] [] (by show weak _ (.v (.int .u8 (twice_m x))) = (.v (.int .u8 (twice_m x))); rw [hM]; first | (simp only []; rfl) | (simp only []; done) | rfl) trivial

def times_l1_s (a b : Int) (k1 : Nat) : (Int × Int × Int) → (Int × Int × Int) := fun z_ => match z_ with | (x0, x1, x4) => ((twice_m x0), (ishr .u8 x1 1), (ixor .u8 x4 (imul .u8 x0 (iand .u8 x1 1))))
def times_l1 (a b : Int) : Nat → Int × Int × Int
 | 0 => (a, b, 0)
 | k1 + 1 => times_l1_s a b k1 (times_l1 a b k1)
def times_l1_c (a b : Int) : (Int × Int × Int) → Prop := fun z_ => match z_ with | (x0, x1, x4) => (0 : Int) < x1
def times_v (a b : Int) : Int := ((times_l1 a b (lst fun j => times_l1_c a b (times_l1 a b j))).2.2)
def times_m (a b : Int) : Int := shut (times_v a b)
theorem times_e (a b : Int) : times_m a b = times_v a b := shut_eq _
def c_times (a b : Int) : Con := ⟨[.v (.int .u8 a), .v (.int .u8 b)], [], .v (.int .u8 (times_m a b)), []⟩
theorem times_ok (a b : Int) : ConOk Tryz.prog 211 (c_times a b) := by
 refine conOk_of rfl (nb := 0) Tryz.func211 rfl rfl Tryz.ntmps211 rfl rfl rfl fun g0 w0 ac gs ws hg0 hS => ?_
 have hS := hS.sp
 refine s0 [0, 1, 4] [] 0 hS fun hS => ?_
 refine wp_seq (wp_block (loop_y (ι := Nat × Int × Int × Int) hg0 hS (fun z_ => match z_ with | (k1, x0, x1, x4) => x1.toNat) (fun z_ => match z_ with | (k1, x0, x1, x4) => [(0, .v (.int .u8 x0)), (1, .v (.int .u8 x1)), (4, .v (.int .u8 x4))]) (fun z_ => match z_ with | (k1, x0, x1, x4) => []) (fun z_ => match z_ with | (k1, x0, x1, x4) => ((x0, x1, x4) = times_l1 a b k1) ∧ (∀ j, j < k1 → times_l1_c a b (times_l1 a b j)) ∧ True) 0 (0, a, b, 0) [] ⟨rfl, (fun j h => absurd h (Nat.not_lt_zero j)), trivial⟩ ?_))
 rintro ⟨k1, x0, x1, x4⟩ ac gs ws ⟨hq1, hj1, _⟩ hS
 refine wp_seq (s0 [0, 1, 4, 6] [] 0 hS fun hS => ?_)
 refine if_d ((0 : Int) < x1) hS (fun h1 => ?_) (fun h1 => ?_)
 ·refine wp_skip (then_n (wp_seq (wp_block (s0 [0, 1, 4] [] 0 hS fun hS => ?_))))
  refine rA [(1, .call ⟨204, (c_twice x0), [], []⟩)] ⟨twice_ok _, trivial⟩ (fun C => [ndC C 1]) [0, 1, 4] [] 0 ⟨rfl, trivial⟩ hS fun hS => ?_
  refine block_n (then_n (rA [] trivial (fun _ => [(0 : Int) ≤ 1]) [0, 1, 4] [] 0 ⟨by omega, trivial⟩ hS fun hS => ?_))
  refine then_n ?_
  exact next_y hg0 hS (s := (k1, x0, x1, x4)) (k1 + 1, (twice_m x0), (ishr .u8 x1 1), (ixor .u8 x4 (imul .u8 x0 (iand .u8 x1 1)))) [] (show (ishr .u8 x1 1).toNat < x1.toNat from shr1_lt asm) ⟨(it_next (F := times_l1 a b) (st := times_l1_s a b) (fun _ => rfl) hq1 rfl), (lst_next hj1 (by rw [← hq1]; exact h1)), trivial⟩
 ·have hScur := hS
  obtain rfl := lst_eq (P := fun j => times_l1_c a b (times_l1 a b j)) (by rw [← hq1]; first | exact h1 | exact not_not_intro h1) hj1
  obtain rfl : (times_l1 a b (lst fun j => times_l1_c a b (times_l1 a b j))).1 = x0 := Eq.symm (congrArg (fun z => z.1) hq1)
  obtain rfl : (times_l1 a b (lst fun j => times_l1_c a b (times_l1 a b j))).2.1 = x1 := Eq.symm (congrArg (fun z => z.2.1) hq1)
  obtain rfl : (times_l1 a b (lst fun j => times_l1_c a b (times_l1 a b j))).2.2 = x4 := Eq.symm (congrArg (fun z => z.2.2) hq1)
  have hS := hScur
  clear hScur
  refine wp_exit (then_exit (then_exit (block_exit (then_n (s0 [4] [] 0 hS fun hS => ?_)))))
  refine wp_ret ?_
  have hM : times_m a b = ((times_l1 a b (lst fun j => times_l1_c a b (times_l1 a b j))).2.2) := times_e a b
  exact fin_y rfl (.inr rfl) hS [.v (.int .u8 ((times_l1 a b (lst fun j => times_l1_c a b (times_l1 a b j))).2.2))] [] (by show weak _ (.v (.int .u8 (times_m a b))) = (.v (.int .u8 (times_m a b))); rw [hM]; first | (simp only []; rfl) | (simp only []; done) | rfl) trivial

def sbox_l1_s (b : Int) (k1 : Nat) : (Int × Int) → (Int × Int) := fun z_ => match z_ with | (x3, x4) => if (0 : Int) < x4 then ((times_m (times_m x3 x3) b), (x4 - 1)) else ((times_m x3 x3), (x4 - 1))
def sbox_l1 (b : Int) : Nat → Int × Int
 | 0 => (1, 7)
 | k1 + 1 => sbox_l1_s b k1 (sbox_l1 b k1)
def sbox_l1_c (b : Int) : (Int × Int) → Prop := fun z_ => match z_ with | (x3, x4) => (0 : Int) ≤ x4
def sbox_l2_s (b : Int) (k2 : Nat) : (Int × Nat) → (Int × Nat) := fun z_ => match z_ with | (x5, x6) => ((ixor .u8 x5 (rot8_m ((sbox_l1 b (lst fun j => sbox_l1_c b (sbox_l1 b j))).1) x6)), x6 + 1)
def sbox_l2 (b : Int) : Nat → Int × Nat
 | 0 => (((sbox_l1 b (lst fun j => sbox_l1_c b (sbox_l1 b j))).1), 1)
 | k2 + 1 => sbox_l2_s b k2 (sbox_l2 b k2)
def sbox_l2_c (b : Int) : (Int × Nat) → Prop := fun z_ => match z_ with | (x5, x6) => ((x6 : Nat) : Int) < 5
def sbox_v (b : Int) : Int := (ixor .u8 ((sbox_l2 b (lst fun j => sbox_l2_c b (sbox_l2 b j))).1) 99)
def sbox_m (b : Int) : Int := shut (sbox_v b)
theorem sbox_e (b : Int) : sbox_m b = sbox_v b := shut_eq _
theorem sbox_rg (x : Int) : 0 ≤ sbox_m x ∧ sbox_m x < 256 := by rw [sbox_e]; exact xor_rg _ _
def c_sbox (b : Int) : Con := ⟨[.v (.int .u8 b)], [], .v (.int .u8 (sbox_m b)), []⟩
theorem sbox_ok (b : Int) : ConOk Tryz.prog 203 (c_sbox b) := by
 refine conOk_of rfl (nb := 0) Tryz.func203 rfl rfl Tryz.ntmps203 rfl rfl rfl fun g0 w0 ac gs ws hg0 hS => ?_
 have hS := hS.sp
 refine s0 [0, 2] [] 0 hS fun hS => ?_
 refine s0 [0, 2, 3] [] 0 hS fun hS => ?_
 refine wp_seq (s0 [0, 2, 3, 4] [] 0 hS fun hS => ?_)
 refine wp_block (loop_y (ι := Nat × Int × Int) hg0 hS (fun z_ => match z_ with | (k1, x3, x4) => (x4 + 1).toNat) (fun z_ => match z_ with | (k1, x3, x4) => [(0, .v (.int .u8 b)), (2, .v (.int .u8 0)), (3, .v (.int .u8 x3)), (4, vi x4)]) (fun z_ => match z_ with | (k1, x3, x4) => []) (fun z_ => match z_ with | (k1, x3, x4) => ((x3, x4) = sbox_l1 b k1) ∧ (∀ j, j < k1 → sbox_l1_c b (sbox_l1 b j)) ∧ (-1 ≤ x4 ∧ x4 ≤ 7) ∧ True) 0 (0, 1, 7) [] ⟨rfl, (fun j h => absurd h (Nat.not_lt_zero j)), omm, trivial⟩ ?_)
 rintro ⟨k1, x3, x4⟩ ac gs ws ⟨hq1, hj1, p1, _⟩ hS
 refine wp_seq (s0 [0, 2, 3, 4, 8] [] 0 hS fun hS => ?_)
 refine if_d ((0 : Int) ≤ x4) hS (fun h1 => ?_) (fun h1 => ?_)
 ·refine wp_skip (then_n (wp_seq (wp_block (sA [(2, .call ⟨211, (c_times x3 x3), [], []⟩)] ⟨times_ok _ _, trivial⟩ (fun C => [ndC C 2]) [0, 2, 3, 4] [] 0 ⟨rfl, trivial⟩ hS fun hS => ?_))))
  refine s0 [0, 2, 3, 4, 15] [] 0 hS fun hS => ?_
  refine if_d ((0 : Int) < x4) hS (fun h2 => ?_) (fun h2 => ?_)
  ·refine rA [(2, .call ⟨211, (c_times (times_m x3 x3) b), [], []⟩)] ⟨times_ok _ _, trivial⟩ (fun C => [ndC C 2]) [0, 2, 3, 4] [] 0 ⟨rfl, trivial⟩ hS fun hS => ?_
   refine block_n (then_n (rA [(1, .oi (x4 - 1))] trivial (fun _ => [isub .i64 x4 1 = (x4 - 1)]) [0, 2, 3, 4] [] 0 ⟨isub64 omm omm, trivial⟩ hS fun hS => ?_))
   refine then_n ?_
   exact next_y hg0 hS (s := (k1, x3, x4)) (k1 + 1, (times_m (times_m x3 x3) b), (x4 - 1)) [] (show ((x4 - 1) + 1).toNat < (x4 + 1).toNat from by omega) ⟨(it_next (F := sbox_l1 b) (st := sbox_l1_s b) (fun _ => rfl) hq1 (Eq.symm (if_pos h2))), (lst_next hj1 (by rw [← hq1]; exact h1)), omm, trivial⟩
  ·refine wp_skip (block_n (then_n (rA [(1, .oi (x4 - 1))] trivial (fun _ => [isub .i64 x4 1 = (x4 - 1)]) [0, 2, 3, 4] [] 0 ⟨isub64 omm omm, trivial⟩ hS fun hS => ?_)))
   refine then_n ?_
   exact next_y hg0 hS (s := (k1, x3, x4)) (k1 + 1, (times_m x3 x3), (x4 - 1)) [] (show ((x4 - 1) + 1).toNat < (x4 + 1).toNat from by omega) ⟨(it_next (F := sbox_l1 b) (st := sbox_l1_s b) (fun _ => rfl) hq1 (Eq.symm (if_neg h2))), (lst_next hj1 (by rw [← hq1]; exact h1)), omm, trivial⟩
 ·have hScur := hS
  obtain rfl := lst_eq (P := fun j => sbox_l1_c b (sbox_l1 b j)) (by rw [← hq1]; first | exact h1 | exact not_not_intro h1) hj1
  obtain rfl : (sbox_l1 b (lst fun j => sbox_l1_c b (sbox_l1 b j))).1 = x3 := Eq.symm (congrArg (fun z => z.1) hq1)
  obtain rfl : (sbox_l1 b (lst fun j => sbox_l1_c b (sbox_l1 b j))).2 = x4 := Eq.symm (congrArg (fun z => z.2) hq1)
  have hS := hScur
  clear hScur
  refine wp_exit (then_exit (then_exit (block_exit (then_n (s0 [2, 3, 5] [] 0 hS fun hS => ?_)))))
  refine wp_seq (s0 [2, 3, 5, 6] [] 0 hS fun hS => ?_)
  refine wp_block (loop_y (ι := Nat × Int × Nat) hg0 hS (fun z_ => match z_ with | (k2, x5, x6) => 5 - x6) (fun z_ => match z_ with | (k2, x5, x6) => [(2, .v (.int .u8 0)), (3, .v (.int .u8 ((sbox_l1 b (lst fun j => sbox_l1_c b (sbox_l1 b j))).1))), (5, .v (.int .u8 x5)), (6, vi ((x6 : Nat) : Int))]) (fun z_ => match z_ with | (k2, x5, x6) => []) (fun z_ => match z_ with | (k2, x5, x6) => ((x5, x6) = sbox_l2 b k2) ∧ (∀ j, j < k2 → sbox_l2_c b (sbox_l2 b j)) ∧ (1 ≤ x6) ∧ True) 0 (0, ((sbox_l1 b (lst fun j => sbox_l1_c b (sbox_l1 b j))).1), 1) [] ⟨rfl, (fun j h => absurd h (Nat.not_lt_zero j)), omm, trivial⟩ ?_)
  rintro ⟨k2, x5, x6⟩ ac gs ws ⟨hq2, hj2, p2, _⟩ hS
  refine wp_seq (s0 [2, 3, 5, 6, 21] [] 0 hS fun hS => ?_)
  refine if_d ((x6 : Int) < 5) hS (fun h3 => ?_) (fun h3 => ?_)
  ·refine wp_skip (then_n (wp_seq (wp_block (rA [(3, .call ⟨212, (c_rot8 ((sbox_l1 b (lst fun j => sbox_l1_c b (sbox_l1 b j))).1) x6), [], []⟩)] ⟨rot8_ok _ _ omm, trivial⟩ (fun C => [ndC C 3]) [2, 3, 5, 6] [] 0 ⟨rfl, trivial⟩ hS fun hS => ?_))))
   refine block_n (then_n (rA [(1, .oi ((x6 + 1 : Nat) : Int))] trivial (fun _ => [iadd .i64 (x6 : Int) 1 = ((x6 + 1 : Nat) : Int)]) [2, 3, 5, 6] [] 0 ⟨by rw [iadd64 omm omm]; omega, trivial⟩ hS fun hS => ?_))
   refine then_n ?_
   exact next_y hg0 hS (s := (k2, x5, x6)) (k2 + 1, (ixor .u8 x5 (rot8_m ((sbox_l1 b (lst fun j => sbox_l1_c b (sbox_l1 b j))).1) x6)), x6 + 1) [] (show 5 - (x6 + 1) < 5 - x6 from by omega) ⟨(it_next (F := sbox_l2 b) (st := sbox_l2_s b) (fun _ => rfl) hq2 rfl), (lst_next hj2 (by rw [← hq2]; exact h3)), omm, trivial⟩
  ·have hScur := hS
   obtain rfl := lst_eq (P := fun j => sbox_l2_c b (sbox_l2 b j)) (by rw [← hq2]; first | exact h3 | exact not_not_intro h3) hj2
   obtain rfl : (sbox_l2 b (lst fun j => sbox_l2_c b (sbox_l2 b j))).1 = x5 := Eq.symm (congrArg (fun z => z.1) hq2)
   obtain rfl : (sbox_l2 b (lst fun j => sbox_l2_c b (sbox_l2 b j))).2 = x6 := Eq.symm (congrArg (fun z => z.2) hq2)
   have hS := hScur
   clear hScur
   refine wp_exit (then_exit (then_exit (block_exit (then_n (s0 [2] [] 0 hS fun hS => ?_)))))
   refine wp_ret ?_
   have hM : sbox_m b = (ixor .u8 ((sbox_l2 b (lst fun j => sbox_l2_c b (sbox_l2 b j))).1) 99) := sbox_e b
   exact fin_y rfl (.inr rfl) hS [.v (.int .u8 (ixor .u8 ((sbox_l2 b (lst fun j => sbox_l2_c b (sbox_l2 b j))).1) 99))] [] (by show weak _ (.v (.int .u8 (sbox_m b))) = (.v (.int .u8 (sbox_m b))); rw [hM]; first | (simp only []; rfl) | (simp only []; done) | rfl) trivial

def mixed_v (a b : Int) (c d : Int) : (Nat → Int) := upd (upd (upd (upd (fun _ => 0) 0 (ixor .u8 (ixor .u8 a (ixor .u8 (ixor .u8 (ixor .u8 a b) c) d)) (twice_m (ixor .u8 a b)))) 1 (ixor .u8 (ixor .u8 b (ixor .u8 (ixor .u8 (ixor .u8 a b) c) d)) (twice_m (ixor .u8 b c)))) 2 (ixor .u8 (ixor .u8 c (ixor .u8 (ixor .u8 (ixor .u8 a b) c) d)) (twice_m (ixor .u8 c d)))) 3 (ixor .u8 (ixor .u8 d (ixor .u8 (ixor .u8 (ixor .u8 a b) c) d)) (twice_m (ixor .u8 d a)))
def mixed_m (a b : Int) (c d : Int) : (Nat → Int) := shut (mixed_v a b c d)
theorem mixed_e (a b : Int) (c d : Int) : mixed_m a b c d = mixed_v a b c d := shut_eq _
def c_mixed (a b : Int) (c d : Int) : Con := ⟨[.v (.int .u8 a), .v (.int .u8 b), .v (.int .u8 c), .v (.int .u8 d)], [], .ar .u8 4 (mixed_m a b c d), []⟩
theorem mixed_ok (a b : Int) (c d : Int) : ConOk Tryz.prog 205 (c_mixed a b c d) := by
 refine conOk_of rfl (nb := 0) Tryz.func205 rfl rfl Tryz.ntmps205 rfl rfl rfl fun g0 w0 ac gs ws hg0 hS => ?_
 have hS := hS.sp
 refine s0 [0, 1, 2, 3, 8] [0] 1 hS fun hS => ?_
 refine s0 [0, 1, 2, 3, 8, 9] [0] 1 hS fun hS => ?_
 refine sA [(6, .call ⟨204, (c_twice (ixor .u8 a b)), [], []⟩), (14, .call ⟨204, (c_twice (ixor .u8 b c)), [], []⟩), (22, .call ⟨204, (c_twice (ixor .u8 c d)), [], []⟩), (30, .call ⟨204, (c_twice (ixor .u8 d a)), [], []⟩)] ⟨twice_ok _, twice_ok _, twice_ok _, twice_ok _, trivial⟩ (fun C => [ndC C 6, ndC C 14, ndC C 22, ndC C 30]) [8] [0] 1 ⟨rfl, rfl, rfl, rfl, trivial⟩ hS fun hS => ?_
 refine wp_ret ?_
 have hM : mixed_m a b c d = upd (upd (upd (upd (fun _ => 0) 0 (ixor .u8 (ixor .u8 a (ixor .u8 (ixor .u8 (ixor .u8 a b) c) d)) (twice_m (ixor .u8 a b)))) 1 (ixor .u8 (ixor .u8 b (ixor .u8 (ixor .u8 (ixor .u8 a b) c) d)) (twice_m (ixor .u8 b c)))) 2 (ixor .u8 (ixor .u8 c (ixor .u8 (ixor .u8 (ixor .u8 a b) c) d)) (twice_m (ixor .u8 c d)))) 3 (ixor .u8 (ixor .u8 d (ixor .u8 (ixor .u8 (ixor .u8 a b) c) d)) (twice_m (ixor .u8 d a))) := mixed_e a b c d
 exact fin_y rfl (.inr rfl) hS [.ar .u8 4 (upd (upd (upd (upd (fun _ => 0) 0 (ixor .u8 (ixor .u8 a (ixor .u8 (ixor .u8 (ixor .u8 a b) c) d)) (twice_m (ixor .u8 a b)))) 1 (ixor .u8 (ixor .u8 b (ixor .u8 (ixor .u8 (ixor .u8 a b) c) d)) (twice_m (ixor .u8 b c)))) 2 (ixor .u8 (ixor .u8 c (ixor .u8 (ixor .u8 (ixor .u8 a b) c) d)) (twice_m (ixor .u8 c d)))) 3 (ixor .u8 (ixor .u8 d (ixor .u8 (ixor .u8 (ixor .u8 a b) c) d)) (twice_m (ixor .u8 d a))))] [] (by show weak _ (.ar .u8 4 (mixed_m a b c d)) = (.ar .u8 4 (mixed_m a b c d)); rw [hM]; first | (simp only []; rfl) | (simp only []; done) | rfl) trivial

end
end Go.Sx.Tryz
namespace Go.Sx.Tryz
open Go.Mi Go.RowKit Go.Sx Go.Proofs
noncomputable section
theorem by_getD {xs : List Int} (h : By xs) (j : Nat) : 0 ≤ xs.getD j 0 ∧ xs.getD j 0 < 256 := by
 rw [List.getD_eq_getElem?_getD]
 cases hx : xs[j]? with
 | none => exact ⟨Int.le_refl _, by decide⟩
 | some x => exact h x (List.mem_of_getElem? hx)
theorem rb_key {key : List Int} (h : By key) : Rb 240 (updW (fun _ => 0) 0 (min key.length 240) (fun j => key.getD j 0)) := fun j hj => by
 unfold updW
 cases Nat.ble 0 j && Nat.blt j (0 + min key.length 240) with
 | true => exact by_getD h _
 | false => exact ⟨Int.le_refl _, (by decide : (0 : Int) < 256)⟩
def ready_l1_s (key : List Int) (x11 : Nat) : (Nat → Int) → (Nat → Int) := fun o3_0 => upd o3_0 x11 (sbox_m (IntKind.wrap .u8 (x11 : Int)))
def ready_l1 (key : List Int) : Nat → (Nat → Int)
 | 0 => fun _ => 0
 | x11 + 1 => ready_l1_s key x11 (ready_l1 key x11)
def ready_l3_s (key : List Int) (k2 : Nat) (x5 : Int) (x6 : Nat) (o3_1 : Nat → Int) (x111 : Nat) : (Nat → Int) → (Nat → Int) := fun o3_1_3 => upd o3_1_3 (x6 + x111) (ixor .u8 (o3_1_3 ((x6 + x111) - 32)) ((upd (upd (upd (upd (fun _ => 0) 0 (ixor .u8 ((ready_l1 key 256) (Int.toNat ((fun j => o3_1 ((x6 - 4) + j)) 1))) x5)) 1 ((ready_l1 key 256) (Int.toNat ((fun j => o3_1 ((x6 - 4) + j)) 2)))) 2 ((ready_l1 key 256) (Int.toNat ((fun j => o3_1 ((x6 - 4) + j)) 3)))) 3 ((ready_l1 key 256) (Int.toNat ((fun j => o3_1 ((x6 - 4) + j)) 0)))) x111))
def ready_l3 (key : List Int) (k2 : Nat) (x5 : Int) (x6 : Nat) (o3_1 : Nat → Int) : Nat → (Nat → Int)
 | 0 => o3_1
 | x111 + 1 => ready_l3_s key k2 x5 x6 o3_1 x111 (ready_l3 key k2 x5 x6 o3_1 x111)
def ready_l4_s (key : List Int) (k2 : Nat) (x5 : Int) (x6 : Nat) (o3_1 : Nat → Int) (x111 : Nat) : (Nat → Int) → (Nat → Int) := fun o3_1_4 => upd o3_1_4 (x6 + x111) (ixor .u8 (o3_1_4 ((x6 + x111) - 32)) ((upd (upd (upd (upd (fun _ => 0) 0 ((ready_l1 key 256) (Int.toNat ((fun j => o3_1 ((x6 - 4) + j)) 0)))) 1 ((ready_l1 key 256) (Int.toNat ((fun j => o3_1 ((x6 - 4) + j)) 1)))) 2 ((ready_l1 key 256) (Int.toNat ((fun j => o3_1 ((x6 - 4) + j)) 2)))) 3 ((ready_l1 key 256) (Int.toNat ((fun j => o3_1 ((x6 - 4) + j)) 3)))) x111))
def ready_l4 (key : List Int) (k2 : Nat) (x5 : Int) (x6 : Nat) (o3_1 : Nat → Int) : Nat → (Nat → Int)
 | 0 => o3_1
 | x111 + 1 => ready_l4_s key k2 x5 x6 o3_1 x111 (ready_l4 key k2 x5 x6 o3_1 x111)
def ready_l5_s (key : List Int) (k2 : Nat) (x5 : Int) (x6 : Nat) (o3_1 : Nat → Int) (x111 : Nat) : (Nat → Int) → (Nat → Int) := fun o3_1_5 => upd o3_1_5 (x6 + x111) (ixor .u8 (o3_1_5 ((x6 + x111) - 32)) ((fun j => o3_1 ((x6 - 4) + j)) x111))
def ready_l5 (key : List Int) (k2 : Nat) (x5 : Int) (x6 : Nat) (o3_1 : Nat → Int) : Nat → (Nat → Int)
 | 0 => o3_1
 | x111 + 1 => ready_l5_s key k2 x5 x6 o3_1 x111 (ready_l5 key k2 x5 x6 o3_1 x111)
def ready_l2_s (key : List Int) (k2 : Nat) : (Int × Nat × (Nat → Int)) → (Int × Nat × (Nat → Int)) := fun z_ => match z_ with | (x5, x6, o3_1) => if (((x6 / 4) % 8 : Nat) : Int) = 0 then ((twice_m x5), x6 + 4, ready_l3 key k2 x5 x6 o3_1 4) else (if (((x6 / 4) % 8 : Nat) : Int) = 4 then (x5, x6 + 4, ready_l4 key k2 x5 x6 o3_1 4) else (x5, x6 + 4, ready_l5 key k2 x5 x6 o3_1 4))
def ready_l2 (key : List Int) : Nat → Int × Nat × (Nat → Int)
 | 0 => (1, 32, updW (fun _ => 0) 0 (min key.length 240) (fun j => key.getD j 0))
 | k2 + 1 => ready_l2_s key k2 (ready_l2 key k2)
def ready_l2_c (key : List Int) : (Int × Nat × (Nat → Int)) → Prop := fun z_ => match z_ with | (x5, x6, o3_1) => ((x6 : Nat) : Int) < 240
def ready_v (key : List Int) : (Nat → Int) × (Nat → Int) := (ready_l1 key 256, (ready_l2 key (lst fun j => ready_l2_c key (ready_l2 key j))).2.2)
def ready_m (key : List Int) : (Nat → Int) × (Nat → Int) := shut (ready_v key)
theorem ready_e (key : List Int) : ready_m key = ready_v key := shut_eq _
theorem ready_rb (key : List Int) : Rb 256 (ready_m key).1 := by
 have key1 : ∀ n, Rb n (ready_l1 key n) := by
  intro n
  induction n with
  | zero => exact Rb.zero _
  | succ n ih => exact Rb.next ih (sbox_rg _)
 rw [ready_e]
 exact key1 256
def c_ready (key : List Int) : Con := ⟨[lb key], [], .cp 0 0, [(0, .ob 258 (chain [.ar .u8 256 ((ready_m key).1), .ar .u8 240 ((ready_m key).2)]))]⟩
theorem ready_ok (key : List Int) (hk : key.length = 32) (hb : By key) : ConOk Tryz.prog 182 (c_ready key) := by
 refine conOk_of rfl (nb := 0) Tryz.func182 rfl rfl Tryz.ntmps182 rfl rfl rfl fun g0 w0 ac gs ws hg0 hS => ?_
 have hlen0 : key.length ≤ 9223372036854775807 := hS.len 0 rfl
 have hS := hS.sp
 refine s0 [0, 2] [] 0 hS fun hS => ?_
 refine s0 [0, 2, 3] [0] 1 hS fun hS => ?_
 refine wp_seq (s0 [0, 2, 3, 11] [0] 1 hS fun hS => ?_)
 refine wp_block (loop_y (ι := Nat × (Nat → Int)) hg0 hS (fun z_ => match z_ with | (x11, o3_0) => 256 - x11) (fun z_ => match z_ with | (x11, o3_0) => [(0, lb key), (2, .v (.pointer none)), (3, .cp 0 0), (11, vi ((x11 : Nat) : Int))]) (fun z_ => match z_ with | (x11, o3_0) => [(0, .ob 258 (chain [.ar .u8 256 o3_0, .ar .u8 240 (fun _ => 0)]))]) (fun z_ => match z_ with | (x11, o3_0) => (x11 ≤ 256) ∧ (o3_0 = ready_l1 key x11) ∧ (Rb x11 o3_0) ∧ True) 1 (0, fun _ => 0) [(0, 0)] ⟨omm, rfl, (Rb.zero _), trivial⟩ ?_)
 rintro ⟨x11, o3_0⟩ ac gs ws ⟨hx11, hq1, p1, _⟩ hS
 refine s0 [0, 2, 3, 11, 12] [0] 1 hS fun hS => ?_
 refine wp_seq ?_
 refine if_d ((x11 : Int) < 256) hS (fun h1 => ?_) (fun h1 => ?_)
 ·refine wp_skip (then_n (wp_seq (wp_block (s0 [0, 2, 3, 4, 11] [0] 1 hS fun hS => ?_))))
  refine rA [(4, .call ⟨203, (c_sbox (IntKind.wrap .u8 (x11 : Int))), [], []⟩)] ⟨sbox_ok _, trivial⟩ (fun C => [ndC C 4, (0 : Int) ≤ (x11 : Int) ∧ ((x11 : Int) : Int) < 256]) [0, 2, 3, 11] [0] 1 ⟨rfl, by omega, trivial⟩ hS fun hS => ?_
  refine block_n (then_n (rA [(0, .oi ((x11 + 1 : Nat) : Int))] trivial (fun _ => [iadd .i64 (x11 : Int) 1 = ((x11 + 1 : Nat) : Int)]) [0, 2, 3, 11] [0] 1 ⟨by rw [iadd64 omm omm]; omega, trivial⟩ hS fun hS => ?_))
  refine then_n ?_
  exact next_y hg0 hS (s := (x11, o3_0)) (x11 + 1, upd o3_0 x11 (sbox_m (IntKind.wrap .u8 (x11 : Int)))) [(0, 0)] (show 256 - (x11 + 1) < 256 - x11 from by omega) ⟨omm, (it_next (F := ready_l1 key) (st := ready_l1_s key) (fun _ => rfl) hq1 rfl), (Rb.next p1 (sbox_rg _)), trivial⟩
 ·have hScur := hS
  obtain rfl : 256 = x11 := by omega
  obtain rfl : ready_l1 key 256 = o3_0 := Eq.symm (congrArg (fun z => z) hq1)
  have hS := hScur
  clear hScur
  refine wp_exit (then_exit (then_exit (block_exit (then_n (sA [] trivial (fun _ => [bndP none none none 240 240, 240 ≤ 9223372036854775807, bl none 0 < bl none 240]) [2, 3] [0] 1 ⟨⟨by simp only [nnI] <;> omega, by simp only [nnI] <;> omega, by simp only [nnI] <;> omega, by simp, by simp only [bl] <;> omega, by simp only [bl] <;> omega, by simp only [bl] <;> omega⟩, by omega, by decide, trivial⟩ hS fun hS => ?_)))))
  refine s0 [2, 3, 5] [0] 1 hS fun hS => ?_
  refine wp_seq (s0 [2, 3, 5, 6] [0] 1 hS fun hS => ?_)
  refine wp_block (loop_y (ι := Nat × Int × Nat × (Nat → Int)) hg0 hS (fun z_ => match z_ with | (k2, x5, x6, o3_1) => 240 - x6) (fun z_ => match z_ with | (k2, x5, x6, o3_1) => [(2, .v (.pointer none)), (3, .cp 0 0), (5, .v (.int .u8 x5)), (6, vi ((x6 : Nat) : Int))]) (fun z_ => match z_ with | (k2, x5, x6, o3_1) => [(0, .ob 258 (chain [.ar .u8 256 (ready_l1 key 256), .ar .u8 240 o3_1]))]) (fun z_ => match z_ with | (k2, x5, x6, o3_1) => ((x5, x6, o3_1) = ready_l2 key k2) ∧ (∀ j, j < k2 → ready_l2_c key (ready_l2 key j)) ∧ (x6 % 4 = 0 ∧ 32 ≤ x6 ∧ x6 ≤ 240) ∧ (Rb 240 o3_1) ∧ True) 1 (0, 1, 32, updW (fun _ => 0) 0 (min key.length 240) (fun j => key.getD j 0)) [(0, 0)] ⟨rfl, (fun j h => absurd h (Nat.not_lt_zero j)), omm, (rb_key hb), trivial⟩ ?_)
  rintro ⟨k2, x5, x6, o3_1⟩ ac gs ws ⟨hq2, hj2, p2, p4, _⟩ hS
  refine wp_seq (s0 [2, 3, 5, 6, 30] [0] 1 hS fun hS => ?_)
  refine if_d ((x6 : Int) < 240) hS (fun h2 => ?_) (fun h2 => ?_)
  ·refine wp_skip (then_n (wp_seq (wp_block (sB [(7, .frz), (8, .at 1 (x6 - 4))] [(4, .oi ((x6 - 4 : Nat) : Int))] trivial (fun _ => [isub .i64 (x6 : Int) 4 = ((x6 - 4 : Nat) : Int), bndP (some ((x6 - 4 : Nat) : Int)) (some (x6 : Int)) none 240 240, 240 ≤ 9223372036854775807, bl (some ((x6 - 4 : Nat) : Int)) 0 < bl none 240, 4 ≤ x6 - (x6 - 4), 256 + (x6 - 4) = szS (([.ar .u8 256 (ready_l1 key 256), .ar .u8 240 o3_1] : List D).take 1) + (x6 - 4), (x6 - 4) + 4 ≤ 240]) [2, 3, 5, 6, 7] [0, 1] 2 ⟨by rw [isub64 omm omm]; omega, ⟨by simp only [nnI] <;> omega, by simp only [nnI] <;> omega, by simp only [nnI] <;> omega, by simp, by simp only [bl] <;> omega, by simp only [bl] <;> omega, by simp only [bl] <;> omega⟩, by omega, by simp only [bl] <;> omega, by omega, rfl, by omega, trivial⟩ hS fun hS => ?_))))
   refine wp_seq (sA [(1, .oi ((x6 / 4 : Nat) : Int)), (2, .oi (((x6 / 4) % 8 : Nat) : Int))] trivial (fun _ => [iquo .i64 (x6 : Int) 4 = ((x6 / 4 : Nat) : Int), (4 : Int) ≠ 0, irem ((x6 / 4 : Nat) : Int) 8 = (((x6 / 4) % 8 : Nat) : Int), (8 : Int) ≠ 0]) [2, 3, 5, 6, 7, 44] [0, 1] 2 ⟨by rw [iquo64 omm omm omm]; omega, by omega, by rw [irem64 omm]; omega, by omega, trivial⟩ hS fun hS => ?_)
   refine wp_block (s0 [2, 3, 5, 6, 7, 44, 45] [0, 1] 2 hS fun hS => ?_)
   refine if_d ((((x6 / 4) % 8 : Nat) : Int) = 0) hS (fun h3 => ?_) (fun h3 => ?_)
   ·refine wp_seq ?_
    have hr0 : 0 ≤ (fun j => o3_1 (x6 - 4 + j)) 0 ∧ (fun j => o3_1 (x6 - 4 + j)) 0 < 256 := p4 (x6 - 4 + 0) omm
    have hr1 : 0 ≤ (fun j => o3_1 (x6 - 4 + j)) 1 ∧ (fun j => o3_1 (x6 - 4 + j)) 1 < 256 := p4 (x6 - 4 + 1) omm
    have hr2 : 0 ≤ (fun j => o3_1 (x6 - 4 + j)) 2 ∧ (fun j => o3_1 (x6 - 4 + j)) 2 < 256 := p4 (x6 - 4 + 2) omm
    have hr3 : 0 ≤ (fun j => o3_1 (x6 - 4 + j)) 3 ∧ (fun j => o3_1 (x6 - 4 + j)) 3 < 256 := p4 (x6 - 4 + 3) omm
    refine rA [] trivial (fun _ => [(0 : Int) ≤ 1 ∧ (1 : Int) < 4, (0 : Int) ≤ ((fun j => o3_1 ((x6 - 4) + j)) 1) ∧ (((fun j => o3_1 ((x6 - 4) + j)) 1) : Int) < 256, (0 : Int) ≤ 2 ∧ (2 : Int) < 4, (0 : Int) ≤ ((fun j => o3_1 ((x6 - 4) + j)) 2) ∧ (((fun j => o3_1 ((x6 - 4) + j)) 2) : Int) < 256, (0 : Int) ≤ 3 ∧ (3 : Int) < 4, (0 : Int) ≤ ((fun j => o3_1 ((x6 - 4) + j)) 3) ∧ (((fun j => o3_1 ((x6 - 4) + j)) 3) : Int) < 256, (0 : Int) ≤ 0 ∧ (0 : Int) < 4, (0 : Int) ≤ ((fun j => o3_1 ((x6 - 4) + j)) 0) ∧ (((fun j => o3_1 ((x6 - 4) + j)) 0) : Int) < 256]) [2, 3, 5, 6, 7] [0, 1] 2 ⟨by omega, by omega, by omega, by omega, by omega, by omega, by omega, by omega, trivial⟩ hS fun hS => ?_
    refine then_n (rA [(1, .call ⟨204, (c_twice x5), [], []⟩)] ⟨twice_ok _, trivial⟩ (fun C => [ndC C 1]) [2, 3, 5, 6, 7] [0, 1] 2 ⟨rfl, trivial⟩ hS fun hS => ?_)
    refine block_n (then_n (s0 [2, 3, 5, 6, 7, 111] [0, 1] 2 hS fun hS => ?_))
    refine wp_block (loop_y (ι := Nat × (Nat → Int)) hg0 hS (fun z_ => match z_ with | (x111, o3_1_3) => 4 - x111) (fun z_ => match z_ with | (x111, o3_1_3) => [(2, .v (.pointer none)), (3, .cp 0 0), (5, .v (.int .u8 (twice_m x5))), (6, vi (x6 : Int)), (7, .cp 1 0), (111, vi ((x111 : Nat) : Int))]) (fun z_ => match z_ with | (x111, o3_1_3) => [(0, .ob 258 (chain [.ar .u8 256 (ready_l1 key 256), .ar .u8 240 o3_1_3])), (1, .ob 260 (chain [.ar .u8 4 (upd (upd (upd (upd (fun _ => 0) 0 (ixor .u8 ((ready_l1 key 256) (Int.toNat ((fun j => o3_1 ((x6 - 4) + j)) 1))) x5)) 1 ((ready_l1 key 256) (Int.toNat ((fun j => o3_1 ((x6 - 4) + j)) 2)))) 2 ((ready_l1 key 256) (Int.toNat ((fun j => o3_1 ((x6 - 4) + j)) 3)))) 3 ((ready_l1 key 256) (Int.toNat ((fun j => o3_1 ((x6 - 4) + j)) 0))))]))]) (fun z_ => match z_ with | (x111, o3_1_3) => (x111 ≤ 4) ∧ (o3_1_3 = ready_l3 key k2 x5 x6 o3_1 x111) ∧ (Rb 240 o3_1_3) ∧ True) 2 (0, o3_1) [(0, 0), (1, 1)] ⟨omm, rfl, p4, trivial⟩ ?_)
    rintro ⟨x111, o3_1_3⟩ ac gs ws ⟨hx111, hq3, p5, _⟩ hS
    refine s0 [2, 3, 5, 6, 7, 111, 112] [0, 1] 2 hS fun hS => ?_
    refine wp_seq ?_
    refine if_d ((x111 : Int) < 4) hS (fun h4 => ?_) (fun h4 => ?_)
    ·refine wp_skip (then_n (wp_seq (wp_block (s0 [2, 3, 5, 6, 7, 8, 111] [0, 1] 2 hS fun hS => ?_))))
     refine rA [(3, .oi ((x6 + x111 : Nat) : Int)), (7, .oi ((x6 + x111 : Nat) : Int)), (8, .oi (((x6 + x111) - 32 : Nat) : Int))] trivial (fun _ => [iadd .i64 (x6 : Int) (x111 : Int) = ((x6 + x111 : Nat) : Int), iadd .i64 (x6 : Int) (x111 : Int) = ((x6 + x111 : Nat) : Int), isub .i64 ((x6 + x111 : Nat) : Int) 32 = (((x6 + x111) - 32 : Nat) : Int), (0 : Int) ≤ (((x6 + x111) - 32 : Nat) : Int) ∧ ((((x6 + x111) - 32 : Nat) : Int) : Int) < 240, (0 : Int) ≤ (x111 : Int) ∧ ((x111 : Int) : Int) < 4, (0 : Int) ≤ ((x6 + x111 : Nat) : Int) ∧ (((x6 + x111 : Nat) : Int) : Int) < 240]) [2, 3, 5, 6, 7, 111] [0, 1] 2 ⟨by rw [iadd64 omm omm]; omega, by rw [iadd64 omm omm]; omega, by rw [isub64 omm omm]; omega, by omega, by omega, by omega, trivial⟩ hS fun hS => ?_
     refine block_n (then_n (rA [(0, .oi ((x111 + 1 : Nat) : Int))] trivial (fun _ => [iadd .i64 (x111 : Int) 1 = ((x111 + 1 : Nat) : Int)]) [2, 3, 5, 6, 7, 111] [0, 1] 2 ⟨by rw [iadd64 omm omm]; omega, trivial⟩ hS fun hS => ?_))
     refine then_n ?_
     exact next_y hg0 hS (s := (x111, o3_1_3)) (x111 + 1, upd o3_1_3 (x6 + x111) (ixor .u8 (o3_1_3 ((x6 + x111) - 32)) ((upd (upd (upd (upd (fun _ => 0) 0 (ixor .u8 ((ready_l1 key 256) (Int.toNat ((fun j => o3_1 ((x6 - 4) + j)) 1))) x5)) 1 ((ready_l1 key 256) (Int.toNat ((fun j => o3_1 ((x6 - 4) + j)) 2)))) 2 ((ready_l1 key 256) (Int.toNat ((fun j => o3_1 ((x6 - 4) + j)) 3)))) 3 ((ready_l1 key 256) (Int.toNat ((fun j => o3_1 ((x6 - 4) + j)) 0)))) x111))) [(0, 0), (1, 1)] (show 4 - (x111 + 1) < 4 - x111 from by omega) ⟨omm, (it_next (F := ready_l3 key k2 x5 x6 o3_1) (st := ready_l3_s key k2 x5 x6 o3_1) (fun _ => rfl) hq3 rfl), (Rb.set p5 _ (xor_rg _ _)), trivial⟩
    ·have hScur := hS
     obtain rfl : 4 = x111 := by omega
     obtain rfl : ready_l3 key k2 x5 x6 o3_1 4 = o3_1_3 := Eq.symm (congrArg (fun z => z) hq3)
     have hS := hScur
     clear hScur
     refine wp_exit (then_exit (then_exit (block_exit (block_n (then_n (rA [(1, .oi ((x6 + 4 : Nat) : Int))] trivial (fun _ => [iadd .i64 (x6 : Int) 4 = ((x6 + 4 : Nat) : Int)]) [2, 3, 5, 6] [0] 2 ⟨by rw [iadd64 omm omm]; omega, trivial⟩ hS fun hS => ?_))))))
     refine then_n ?_
     exact next_y hg0 hS (s := (k2, x5, x6, o3_1)) (k2 + 1, (twice_m x5), x6 + 4, ready_l3 key k2 x5 x6 o3_1 4) [(0, 0)] (show 240 - (x6 + 4) < 240 - x6 from by omega) ⟨(it_next (F := ready_l2 key) (st := ready_l2_s key) (fun _ => rfl) hq2 (Eq.symm (if_pos h3))), (lst_next hj2 (by rw [← hq2]; exact h2)), omm, p5, trivial⟩
   ·refine s0 [2, 3, 5, 6, 7, 80] [0, 1] 2 hS fun hS => ?_
    refine if_d ((((x6 / 4) % 8 : Nat) : Int) = 4) hS (fun h5 => ?_) (fun h5 => ?_)
    ·have hr0 : 0 ≤ (fun j => o3_1 (x6 - 4 + j)) 0 ∧ (fun j => o3_1 (x6 - 4 + j)) 0 < 256 := p4 (x6 - 4 + 0) omm
     have hr1 : 0 ≤ (fun j => o3_1 (x6 - 4 + j)) 1 ∧ (fun j => o3_1 (x6 - 4 + j)) 1 < 256 := p4 (x6 - 4 + 1) omm
     have hr2 : 0 ≤ (fun j => o3_1 (x6 - 4 + j)) 2 ∧ (fun j => o3_1 (x6 - 4 + j)) 2 < 256 := p4 (x6 - 4 + 2) omm
     have hr3 : 0 ≤ (fun j => o3_1 (x6 - 4 + j)) 3 ∧ (fun j => o3_1 (x6 - 4 + j)) 3 < 256 := p4 (x6 - 4 + 3) omm
     refine rA [] trivial (fun _ => [(0 : Int) ≤ 0 ∧ (0 : Int) < 4, (0 : Int) ≤ ((fun j => o3_1 ((x6 - 4) + j)) 0) ∧ (((fun j => o3_1 ((x6 - 4) + j)) 0) : Int) < 256, (0 : Int) ≤ 1 ∧ (1 : Int) < 4, (0 : Int) ≤ ((fun j => o3_1 ((x6 - 4) + j)) 1) ∧ (((fun j => o3_1 ((x6 - 4) + j)) 1) : Int) < 256, (0 : Int) ≤ 2 ∧ (2 : Int) < 4, (0 : Int) ≤ ((fun j => o3_1 ((x6 - 4) + j)) 2) ∧ (((fun j => o3_1 ((x6 - 4) + j)) 2) : Int) < 256, (0 : Int) ≤ 3 ∧ (3 : Int) < 4, (0 : Int) ≤ ((fun j => o3_1 ((x6 - 4) + j)) 3) ∧ (((fun j => o3_1 ((x6 - 4) + j)) 3) : Int) < 256]) [2, 3, 5, 6, 7] [0, 1] 2 ⟨by omega, by omega, by omega, by omega, by omega, by omega, by omega, by omega, trivial⟩ hS fun hS => ?_
     refine block_n (then_n (s0 [2, 3, 5, 6, 7, 111] [0, 1] 2 hS fun hS => ?_))
     refine wp_block (loop_y (ι := Nat × (Nat → Int)) hg0 hS (fun z_ => match z_ with | (x111, o3_1_4) => 4 - x111) (fun z_ => match z_ with | (x111, o3_1_4) => [(2, .v (.pointer none)), (3, .cp 0 0), (5, .v (.int .u8 x5)), (6, vi (x6 : Int)), (7, .cp 1 0), (111, vi ((x111 : Nat) : Int))]) (fun z_ => match z_ with | (x111, o3_1_4) => [(0, .ob 258 (chain [.ar .u8 256 (ready_l1 key 256), .ar .u8 240 o3_1_4])), (1, .ob 260 (chain [.ar .u8 4 (upd (upd (upd (upd (fun _ => 0) 0 ((ready_l1 key 256) (Int.toNat ((fun j => o3_1 ((x6 - 4) + j)) 0)))) 1 ((ready_l1 key 256) (Int.toNat ((fun j => o3_1 ((x6 - 4) + j)) 1)))) 2 ((ready_l1 key 256) (Int.toNat ((fun j => o3_1 ((x6 - 4) + j)) 2)))) 3 ((ready_l1 key 256) (Int.toNat ((fun j => o3_1 ((x6 - 4) + j)) 3))))]))]) (fun z_ => match z_ with | (x111, o3_1_4) => (x111 ≤ 4) ∧ (o3_1_4 = ready_l4 key k2 x5 x6 o3_1 x111) ∧ (Rb 240 o3_1_4) ∧ True) 2 (0, o3_1) [(0, 0), (1, 1)] ⟨omm, rfl, p4, trivial⟩ ?_)
     rintro ⟨x111, o3_1_4⟩ ac gs ws ⟨hx111, hq4, p5, _⟩ hS
     refine s0 [2, 3, 5, 6, 7, 111, 112] [0, 1] 2 hS fun hS => ?_
     refine wp_seq ?_
     refine if_d ((x111 : Int) < 4) hS (fun h6 => ?_) (fun h6 => ?_)
     ·refine wp_skip (then_n (wp_seq (wp_block (s0 [2, 3, 5, 6, 7, 8, 111] [0, 1] 2 hS fun hS => ?_))))
      refine rA [(3, .oi ((x6 + x111 : Nat) : Int)), (7, .oi ((x6 + x111 : Nat) : Int)), (8, .oi (((x6 + x111) - 32 : Nat) : Int))] trivial (fun _ => [iadd .i64 (x6 : Int) (x111 : Int) = ((x6 + x111 : Nat) : Int), iadd .i64 (x6 : Int) (x111 : Int) = ((x6 + x111 : Nat) : Int), isub .i64 ((x6 + x111 : Nat) : Int) 32 = (((x6 + x111) - 32 : Nat) : Int), (0 : Int) ≤ (((x6 + x111) - 32 : Nat) : Int) ∧ ((((x6 + x111) - 32 : Nat) : Int) : Int) < 240, (0 : Int) ≤ (x111 : Int) ∧ ((x111 : Int) : Int) < 4, (0 : Int) ≤ ((x6 + x111 : Nat) : Int) ∧ (((x6 + x111 : Nat) : Int) : Int) < 240]) [2, 3, 5, 6, 7, 111] [0, 1] 2 ⟨by rw [iadd64 omm omm]; omega, by rw [iadd64 omm omm]; omega, by rw [isub64 omm omm]; omega, by omega, by omega, by omega, trivial⟩ hS fun hS => ?_
      refine block_n (then_n (rA [(0, .oi ((x111 + 1 : Nat) : Int))] trivial (fun _ => [iadd .i64 (x111 : Int) 1 = ((x111 + 1 : Nat) : Int)]) [2, 3, 5, 6, 7, 111] [0, 1] 2 ⟨by rw [iadd64 omm omm]; omega, trivial⟩ hS fun hS => ?_))
      refine then_n ?_
      exact next_y hg0 hS (s := (x111, o3_1_4)) (x111 + 1, upd o3_1_4 (x6 + x111) (ixor .u8 (o3_1_4 ((x6 + x111) - 32)) ((upd (upd (upd (upd (fun _ => 0) 0 ((ready_l1 key 256) (Int.toNat ((fun j => o3_1 ((x6 - 4) + j)) 0)))) 1 ((ready_l1 key 256) (Int.toNat ((fun j => o3_1 ((x6 - 4) + j)) 1)))) 2 ((ready_l1 key 256) (Int.toNat ((fun j => o3_1 ((x6 - 4) + j)) 2)))) 3 ((ready_l1 key 256) (Int.toNat ((fun j => o3_1 ((x6 - 4) + j)) 3)))) x111))) [(0, 0), (1, 1)] (show 4 - (x111 + 1) < 4 - x111 from by omega) ⟨omm, (it_next (F := ready_l4 key k2 x5 x6 o3_1) (st := ready_l4_s key k2 x5 x6 o3_1) (fun _ => rfl) hq4 rfl), (Rb.set p5 _ (xor_rg _ _)), trivial⟩
     ·have hScur := hS
      obtain rfl : 4 = x111 := by omega
      obtain rfl : ready_l4 key k2 x5 x6 o3_1 4 = o3_1_4 := Eq.symm (congrArg (fun z => z) hq4)
      have hS := hScur
      clear hScur
      refine wp_exit (then_exit (then_exit (block_exit (block_n (then_n (rA [(1, .oi ((x6 + 4 : Nat) : Int))] trivial (fun _ => [iadd .i64 (x6 : Int) 4 = ((x6 + 4 : Nat) : Int)]) [2, 3, 5, 6] [0] 2 ⟨by rw [iadd64 omm omm]; omega, trivial⟩ hS fun hS => ?_))))))
      refine then_n ?_
      exact next_y hg0 hS (s := (k2, x5, x6, o3_1)) (k2 + 1, x5, x6 + 4, ready_l4 key k2 x5 x6 o3_1 4) [(0, 0)] (show 240 - (x6 + 4) < 240 - x6 from by omega) ⟨(it_next (F := ready_l2 key) (st := ready_l2_s key) (fun _ => rfl) hq2 (Eq.symm ((if_neg h3).trans (if_pos h5)))), (lst_next hj2 (by rw [← hq2]; exact h2)), omm, p5, trivial⟩
    ·refine wp_skip (block_n (then_n (s0 [2, 3, 5, 6, 7, 111] [0, 1] 2 hS fun hS => ?_)))
     refine wp_block (loop_y (ι := Nat × (Nat → Int)) hg0 hS (fun z_ => match z_ with | (x111, o3_1_5) => 4 - x111) (fun z_ => match z_ with | (x111, o3_1_5) => [(2, .v (.pointer none)), (3, .cp 0 0), (5, .v (.int .u8 x5)), (6, vi (x6 : Int)), (7, .cp 1 0), (111, vi ((x111 : Nat) : Int))]) (fun z_ => match z_ with | (x111, o3_1_5) => [(0, .ob 258 (chain [.ar .u8 256 (ready_l1 key 256), .ar .u8 240 o3_1_5])), (1, .ob 260 (chain [.ar .u8 4 (fun j => o3_1 ((x6 - 4) + j))]))]) (fun z_ => match z_ with | (x111, o3_1_5) => (x111 ≤ 4) ∧ (o3_1_5 = ready_l5 key k2 x5 x6 o3_1 x111) ∧ (Rb 240 o3_1_5) ∧ True) 2 (0, o3_1) [(0, 0), (1, 1)] ⟨omm, rfl, p4, trivial⟩ ?_)
     rintro ⟨x111, o3_1_5⟩ ac gs ws ⟨hx111, hq5, p5, _⟩ hS
     refine s0 [2, 3, 5, 6, 7, 111, 112] [0, 1] 2 hS fun hS => ?_
     refine wp_seq ?_
     refine if_d ((x111 : Int) < 4) hS (fun h7 => ?_) (fun h7 => ?_)
     ·refine wp_skip (then_n (wp_seq (wp_block (s0 [2, 3, 5, 6, 7, 8, 111] [0, 1] 2 hS fun hS => ?_))))
      refine rA [(3, .oi ((x6 + x111 : Nat) : Int)), (7, .oi ((x6 + x111 : Nat) : Int)), (8, .oi (((x6 + x111) - 32 : Nat) : Int))] trivial (fun _ => [iadd .i64 (x6 : Int) (x111 : Int) = ((x6 + x111 : Nat) : Int), iadd .i64 (x6 : Int) (x111 : Int) = ((x6 + x111 : Nat) : Int), isub .i64 ((x6 + x111 : Nat) : Int) 32 = (((x6 + x111) - 32 : Nat) : Int), (0 : Int) ≤ (((x6 + x111) - 32 : Nat) : Int) ∧ ((((x6 + x111) - 32 : Nat) : Int) : Int) < 240, (0 : Int) ≤ (x111 : Int) ∧ ((x111 : Int) : Int) < 4, (0 : Int) ≤ ((x6 + x111 : Nat) : Int) ∧ (((x6 + x111 : Nat) : Int) : Int) < 240]) [2, 3, 5, 6, 7, 111] [0, 1] 2 ⟨by rw [iadd64 omm omm]; omega, by rw [iadd64 omm omm]; omega, by rw [isub64 omm omm]; omega, by omega, by omega, by omega, trivial⟩ hS fun hS => ?_
      refine block_n (then_n (rA [(0, .oi ((x111 + 1 : Nat) : Int))] trivial (fun _ => [iadd .i64 (x111 : Int) 1 = ((x111 + 1 : Nat) : Int)]) [2, 3, 5, 6, 7, 111] [0, 1] 2 ⟨by rw [iadd64 omm omm]; omega, trivial⟩ hS fun hS => ?_))
      refine then_n ?_
      exact next_y hg0 hS (s := (x111, o3_1_5)) (x111 + 1, upd o3_1_5 (x6 + x111) (ixor .u8 (o3_1_5 ((x6 + x111) - 32)) ((fun j => o3_1 ((x6 - 4) + j)) x111))) [(0, 0), (1, 1)] (show 4 - (x111 + 1) < 4 - x111 from by omega) ⟨omm, (it_next (F := ready_l5 key k2 x5 x6 o3_1) (st := ready_l5_s key k2 x5 x6 o3_1) (fun _ => rfl) hq5 rfl), (Rb.set p5 _ (xor_rg _ _)), trivial⟩
     ·have hScur := hS
      obtain rfl : 4 = x111 := by omega
      obtain rfl : ready_l5 key k2 x5 x6 o3_1 4 = o3_1_5 := Eq.symm (congrArg (fun z => z) hq5)
      have hS := hScur
      clear hScur
      refine wp_exit (then_exit (then_exit (block_exit (block_n (then_n (rA [(1, .oi ((x6 + 4 : Nat) : Int))] trivial (fun _ => [iadd .i64 (x6 : Int) 4 = ((x6 + 4 : Nat) : Int)]) [2, 3, 5, 6] [0] 2 ⟨by rw [iadd64 omm omm]; omega, trivial⟩ hS fun hS => ?_))))))
      refine then_n ?_
      exact next_y hg0 hS (s := (k2, x5, x6, o3_1)) (k2 + 1, x5, x6 + 4, ready_l5 key k2 x5 x6 o3_1 4) [(0, 0)] (show 240 - (x6 + 4) < 240 - x6 from by omega) ⟨(it_next (F := ready_l2 key) (st := ready_l2_s key) (fun _ => rfl) hq2 (Eq.symm ((if_neg h3).trans (if_neg h5)))), (lst_next hj2 (by rw [← hq2]; exact h2)), omm, p5, trivial⟩
  ·have hScur := hS
   obtain rfl := lst_eq (P := fun j => ready_l2_c key (ready_l2 key j)) (by rw [← hq2]; first | exact h2 | exact not_not_intro h2) hj2
   obtain rfl : (ready_l2 key (lst fun j => ready_l2_c key (ready_l2 key j))).1 = x5 := Eq.symm (congrArg (fun z => z.1) hq2)
   obtain rfl : (ready_l2 key (lst fun j => ready_l2_c key (ready_l2 key j))).2.1 = x6 := Eq.symm (congrArg (fun z => z.2.1) hq2)
   obtain rfl : (ready_l2 key (lst fun j => ready_l2_c key (ready_l2 key j))).2.2 = o3_1 := Eq.symm (congrArg (fun z => z.2.2) hq2)
   have hS := hScur
   clear hScur
   refine wp_exit (then_exit (then_exit (block_exit (then_n (s0 [2] [0] 1 hS fun hS => ?_)))))
   refine wp_ret ?_
   have hM : ready_m key = (ready_l1 key 256, (ready_l2 key (lst fun j => ready_l2_c key (ready_l2 key j))).2.2) := ready_e key
   exact fin_y rfl (.inr rfl) hS [.cp 0 0] [(0, some (.ob 258 (chain [.ar .u8 256 (ready_l1 key 256), .ar .u8 240 ((ready_l2 key (lst fun j => ready_l2_c key (ready_l2 key j))).2.2)])))] rfl (by show H1Ok _ [(0, .ob 258 (chain [.ar .u8 256 ((ready_m key).1), .ar .u8 240 ((ready_m key).2)]))] true; rw [hM]; first | (simp only []; exact ⟨rfl, trivial⟩) | exact ⟨rfl, trivial⟩)

def mixN (t : Nat → Int) : Nat → Nat → Int
 | 0 => t
 | i + 1 => if i % 4 = 3 then updW (mixN t i) (i - 3) (min ((List.range 4).map (mixed_m (mixN t i (i - 3)) (mixN t i (i - 2)) (mixN t i (i - 1)) (mixN t i i))).length (16 - (i - 3))) (fun j => ((List.range 4).map (mixed_m (mixN t i (i - 3)) (mixN t i (i - 2)) (mixN t i (i - 1)) (mixN t i i))).getD j 0) else mixN t i
def block_l1_s (f g s : Nat → Int) (x12 : Nat) : (Nat → Int) → (Nat → Int) := fun o3_0 => upd o3_0 x12 (ixor .u8 (o3_0 x12) (g x12))
def block_l1 (f g s : Nat → Int) : Nat → (Nat → Int)
 | 0 => s
 | x12 + 1 => block_l1_s f g s x12 (block_l1 f g s x12)
def block_l3_s (f g s : Nat → Int) (k2 x6 : Nat) (o3_0 : Nat → Int) (x31 : Nat) : (Nat → Int) → (Nat → Int) := fun o7_0 => upd o7_0 x31 (f (Int.toNat (o3_0 ((x31 + ((x31 % 4) * 4)) % 16))))
def block_l3 (f g s : Nat → Int) (k2 x6 : Nat) (o3_0 : Nat → Int) : Nat → (Nat → Int)
 | 0 => fun _ => 0
 | x31 + 1 => block_l3_s f g s k2 x6 o3_0 x31 (block_l3 f g s k2 x6 o3_0 x31)
def block_l5_s (f g s : Nat → Int) (k2 x6 : Nat) (o3_0 : Nat → Int) (x78 : Nat) : (Nat → Int) → (Nat → Int) := fun o3_0_5 => upd o3_0_5 x78 (ixor .u8 ((block_l3 f g s k2 x6 o3_0 16) x78) (g ((x6 * 16) + x78)))
def block_l5 (f g s : Nat → Int) (k2 x6 : Nat) (o3_0 : Nat → Int) : Nat → (Nat → Int)
 | 0 => o3_0
 | x78 + 1 => block_l5_s f g s k2 x6 o3_0 x78 (block_l5 f g s k2 x6 o3_0 x78)
def block_l6_s (f g s : Nat → Int) (k2 x6 : Nat) (o3_0 : Nat → Int) (x78 : Nat) : (Nat → Int) → (Nat → Int) := fun o3_0_6 => upd o3_0_6 x78 (ixor .u8 ((mixN (block_l3 f g s k2 x6 o3_0 16) 16) x78) (g ((x6 * 16) + x78)))
def block_l6 (f g s : Nat → Int) (k2 x6 : Nat) (o3_0 : Nat → Int) : Nat → (Nat → Int)
 | 0 => o3_0
 | x78 + 1 => block_l6_s f g s k2 x6 o3_0 x78 (block_l6 f g s k2 x6 o3_0 x78)
def block_l2_s (f g s : Nat → Int) (k2 : Nat) : (Nat × (Nat → Int)) → (Nat × (Nat → Int)) := fun z_ => match z_ with | (x6, o3_0) => if ((x6 : Nat) : Int) < 14 then (x6 + 1, block_l6 f g s k2 x6 o3_0 16) else (x6 + 1, block_l5 f g s k2 x6 o3_0 16)
def block_l2 (f g s : Nat → Int) : Nat → Nat × (Nat → Int)
 | 0 => (1, block_l1 f g s 16)
 | k2 + 1 => block_l2_s f g s k2 (block_l2 f g s k2)
def block_l2_c (f g s : Nat → Int) : (Nat × (Nat → Int)) → Prop := fun z_ => match z_ with | (x6, o3_0) => ((x6 : Nat) : Int) ≤ 14
def block_v (f g s : Nat → Int) : (Nat → Int) := (block_l2 f g s (lst fun j => block_l2_c f g s (block_l2 f g s j))).2
def block_m (f g s : Nat → Int) : (Nat → Int) := shut (block_v f g s)
theorem block_e (f g s : Nat → Int) : block_m f g s = block_v f g s := shut_eq _
def c_block (f g s : Nat → Int) : Con := ⟨[.cp 0 0, .ar .u8 16 s], [(0, .ob 258 (chain [.ar .u8 256 f, .ar .u8 240 g]))], .ar .u8 16 (block_m f g s), [(0, .ob 258 (chain [.ar .u8 256 f, .ar .u8 240 g]))]⟩
theorem block_ok (f g s : Nat → Int) (hf : Rb 256 f) : ConOk Tryz.prog 183 (c_block f g s) := by
 refine conOk_of rfl (nb := 1) Tryz.func183 rfl rfl Tryz.ntmps183 rfl rfl rfl fun g0 w0 ac gs ws hg0 hS => ?_
 have hS := hS.sp
 refine s0 [0, 3, 4] [0, 1, 2] 3 hS fun hS => ?_
 refine wp_seq (s0 [0, 3, 4, 12] [0, 1, 2] 3 hS fun hS => ?_)
 refine wp_block (loop_y (ι := Nat × (Nat → Int)) hg0 hS (fun z_ => match z_ with | (x12, o3_0) => 16 - x12) (fun z_ => match z_ with | (x12, o3_0) => [(0, .cp 0 0), (3, .cp 1 0), (4, .cp 2 0), (12, vi ((x12 : Nat) : Int))]) (fun z_ => match z_ with | (x12, o3_0) => [(0, .ob 258 (chain [.ar .u8 256 f, .ar .u8 240 g])), (1, .ob 241 (chain [.ar .u8 16 o3_0])), (2, .ob 241 (chain [.ar .u8 16 (fun _ => 0)]))]) (fun z_ => match z_ with | (x12, o3_0) => (x12 ≤ 16) ∧ (o3_0 = block_l1 f g s x12) ∧ (Rb x12 o3_0) ∧ True) 3 (0, s) [(0, 0), (1, 1), (2, 2)] ⟨omm, rfl, (Rb.zero _), trivial⟩ ?_)
 rintro ⟨x12, o3_0⟩ ac gs ws ⟨hx12, hq1, p1, _⟩ hS
 refine s0 [0, 3, 4, 12, 13] [0, 1, 2] 3 hS fun hS => ?_
 refine wp_seq ?_
 refine if_d ((x12 : Int) < 16) hS (fun h1 => ?_) (fun h1 => ?_)
 ·refine wp_skip (then_n (wp_seq (wp_block (s0 [0, 3, 4, 5, 12] [0, 1, 2] 3 hS fun hS => ?_))))
  refine rA [] trivial (fun _ => [(0 : Int) ≤ (x12 : Int) ∧ ((x12 : Int) : Int) < 16, (0 : Int) ≤ (x12 : Int) ∧ ((x12 : Int) : Int) < 240, (0 : Int) ≤ (x12 : Int) ∧ ((x12 : Int) : Int) < 16]) [0, 3, 4, 12] [0, 1, 2] 3 ⟨by omega, by omega, by omega, trivial⟩ hS fun hS => ?_
  refine block_n (then_n (rA [(0, .oi ((x12 + 1 : Nat) : Int))] trivial (fun _ => [iadd .i64 (x12 : Int) 1 = ((x12 + 1 : Nat) : Int)]) [0, 3, 4, 12] [0, 1, 2] 3 ⟨by rw [iadd64 omm omm]; omega, trivial⟩ hS fun hS => ?_))
  refine then_n ?_
  exact next_y hg0 hS (s := (x12, o3_0)) (x12 + 1, upd o3_0 x12 (ixor .u8 (o3_0 x12) (g x12))) [(0, 0), (1, 1), (2, 2)] (show 16 - (x12 + 1) < 16 - x12 from by omega) ⟨omm, (it_next (F := block_l1 f g s) (st := block_l1_s f g s) (fun _ => rfl) hq1 rfl), (Rb.next p1 (xor_rg _ _)), trivial⟩
 ·have hScur := hS
  obtain rfl : 16 = x12 := by omega
  obtain rfl : block_l1 f g s 16 = o3_0 := Eq.symm (congrArg (fun z => z) hq1)
  have hS := hScur
  clear hScur
  refine wp_exit (then_exit (then_exit (block_exit (then_n (wp_seq (s0 [0, 3, 4, 6] [0, 1, 2] 3 hS fun hS => ?_))))))
  refine wp_block (loop_y (ι := Nat × Nat × (Nat → Int)) hg0 hS (fun z_ => match z_ with | (k2, x6, o3_0) => 15 - x6) (fun z_ => match z_ with | (k2, x6, o3_0) => [(0, .cp 0 0), (3, .cp 1 0), (4, .cp 2 0), (6, vi ((x6 : Nat) : Int))]) (fun z_ => match z_ with | (k2, x6, o3_0) => [(0, .ob 258 (chain [.ar .u8 256 f, .ar .u8 240 g])), (1, .ob 241 (chain [.ar .u8 16 o3_0])), (2, .ob 241 (chain [.ar .u8 16 (fun _ => 0)]))]) (fun z_ => match z_ with | (k2, x6, o3_0) => ((x6, o3_0) = block_l2 f g s k2) ∧ (∀ j, j < k2 → block_l2_c f g s (block_l2 f g s j)) ∧ (1 ≤ x6 ∧ x6 ≤ 15) ∧ (Rb 16 o3_0) ∧ True) 3 (0, 1, block_l1 f g s 16) [(0, 0), (1, 1), (2, 2)] ⟨rfl, (fun j h => absurd h (Nat.not_lt_zero j)), omm, p1, trivial⟩ ?_)
  rintro ⟨k2, x6, o3_0⟩ ac gs ws ⟨hq2, hj2, p2, p3, _⟩ hS
  refine wp_seq (s0 [0, 3, 4, 6, 28] [0, 1, 2] 3 hS fun hS => ?_)
  refine if_d ((x6 : Int) ≤ 14) hS (fun h2 => ?_) (fun h2 => ?_)
  ·refine wp_skip (then_n (wp_seq (wp_block (s0 [0, 3, 4, 6, 7] [0, 1, 2, 3] 4 hS fun hS => ?_))))
   refine wp_seq (s0 [0, 3, 4, 6, 7, 31] [0, 1, 2, 3] 4 hS fun hS => ?_)
   refine wp_block (loop_y (ι := Nat × (Nat → Int)) hg0 hS (fun z_ => match z_ with | (x31, o7_0) => 16 - x31) (fun z_ => match z_ with | (x31, o7_0) => [(0, .cp 0 0), (3, .cp 1 0), (4, .cp 2 0), (6, vi (x6 : Int)), (7, .cp 3 0), (31, vi ((x31 : Nat) : Int))]) (fun z_ => match z_ with | (x31, o7_0) => [(0, .ob 258 (chain [.ar .u8 256 f, .ar .u8 240 g])), (1, .ob 241 (chain [.ar .u8 16 o3_0])), (2, .ob 241 (chain [.ar .u8 16 (fun _ => 0)])), (3, .ob 241 (chain [.ar .u8 16 o7_0]))]) (fun z_ => match z_ with | (x31, o7_0) => (x31 ≤ 16) ∧ (o7_0 = block_l3 f g s k2 x6 o3_0 x31) ∧ True) 4 (0, fun _ => 0) [(0, 0), (1, 1), (2, 2), (3, 3)] ⟨omm, rfl, trivial⟩ ?_)
   rintro ⟨x31, o7_0⟩ ac gs ws ⟨hx31, hq3, _⟩ hS
   refine s0 [0, 3, 4, 6, 7, 31, 32] [0, 1, 2, 3] 4 hS fun hS => ?_
   refine wp_seq ?_
   refine if_d ((x31 : Int) < 16) hS (fun h3 => ?_) (fun h3 => ?_)
   ·refine wp_skip (then_n (wp_seq (wp_block (s0 [0, 3, 4, 6, 7, 8, 31] [0, 1, 2, 3] 4 hS fun hS => ?_))))
    have hq13 := p3 ((x31 + x31 % 4 * 4) % 16) omm
    refine rA [(4, .oi ((x31 % 4 : Nat) : Int)), (5, .oi (((x31 % 4) * 4 : Nat) : Int)), (6, .oi ((x31 + ((x31 % 4) * 4) : Nat) : Int)), (7, .oi (((x31 + ((x31 % 4) * 4)) % 16 : Nat) : Int))] trivial (fun _ => [irem (x31 : Int) 4 = ((x31 % 4 : Nat) : Int), (4 : Int) ≠ 0, imul .i64 ((x31 % 4 : Nat) : Int) 4 = (((x31 % 4) * 4 : Nat) : Int), iadd .i64 (x31 : Int) (((x31 % 4) * 4 : Nat) : Int) = ((x31 + ((x31 % 4) * 4) : Nat) : Int), irem ((x31 + ((x31 % 4) * 4) : Nat) : Int) 16 = (((x31 + ((x31 % 4) * 4)) % 16 : Nat) : Int), (16 : Int) ≠ 0, (0 : Int) ≤ (((x31 + ((x31 % 4) * 4)) % 16 : Nat) : Int) ∧ ((((x31 + ((x31 % 4) * 4)) % 16 : Nat) : Int) : Int) < 16, (0 : Int) ≤ (o3_0 ((x31 + ((x31 % 4) * 4)) % 16)) ∧ ((o3_0 ((x31 + ((x31 % 4) * 4)) % 16)) : Int) < 256, (0 : Int) ≤ (x31 : Int) ∧ ((x31 : Int) : Int) < 16]) [0, 3, 4, 6, 7, 31] [0, 1, 2, 3] 4 ⟨by rw [irem64 omm]; omega, by omega, by rw [imul64 omm omm]; omega, by rw [iadd64 omm omm]; omega, by rw [irem64 omm]; omega, by omega, by omega, by omega, by omega, trivial⟩ hS fun hS => ?_
    refine block_n (then_n (rA [(0, .oi ((x31 + 1 : Nat) : Int))] trivial (fun _ => [iadd .i64 (x31 : Int) 1 = ((x31 + 1 : Nat) : Int)]) [0, 3, 4, 6, 7, 31] [0, 1, 2, 3] 4 ⟨by rw [iadd64 omm omm]; omega, trivial⟩ hS fun hS => ?_))
    refine then_n ?_
    exact next_y hg0 hS (s := (x31, o7_0)) (x31 + 1, upd o7_0 x31 (f (Int.toNat (o3_0 ((x31 + ((x31 % 4) * 4)) % 16))))) [(0, 0), (1, 1), (2, 2), (3, 3)] (show 16 - (x31 + 1) < 16 - x31 from by omega) ⟨omm, (it_next (F := block_l3 f g s k2 x6 o3_0) (st := block_l3_s f g s k2 x6 o3_0) (fun _ => rfl) hq3 rfl), trivial⟩
   ·have hScur := hS
    obtain rfl : 16 = x31 := by omega
    obtain rfl : block_l3 f g s k2 x6 o3_0 16 = o7_0 := Eq.symm (congrArg (fun z => z) hq3)
    have hS := hScur
    clear hScur
    refine wp_exit (then_exit (then_exit (block_exit (then_n (wp_seq (s0 [0, 3, 4, 6, 7, 9] [0, 1, 2, 3] 4 hS fun hS => ?_))))))
    refine wp_block (loop_y (ι := Nat × (Nat → Int)) hg0 hS (fun z_ => match z_ with | (x9, tt) => 16 - x9) (fun z_ => match z_ with | (x9, tt) => [(0, .cp 0 0), (3, .cp 1 0), (4, .cp 2 0), (6, vi (x6 : Int)), (7, .cp 3 0), (9, vi ((x9 : Nat) : Int))]) (fun z_ => match z_ with | (x9, tt) => [(0, .ob 258 (chain [.ar .u8 256 f, .ar .u8 240 g])), (1, .ob 241 (chain [.ar .u8 16 o3_0])), (2, .ob 241 (chain [.ar .u8 16 (fun _ => 0)])), (3, .ob 241 (chain [.ar .u8 16 tt]))]) (fun z_ => match z_ with | (x9, tt) => (x9 % 4 = 0 ∧ x9 ≤ 16) ∧ (x9 = 0 ∨ x6 < 14) ∧ (tt = mixN (block_l3 f g s k2 x6 o3_0 16) x9) ∧ True) 4 (0, block_l3 f g s k2 x6 o3_0 16) [(0, 0), (1, 1), (2, 2), (3, 3)] ⟨omm, omm, rfl, trivial⟩ ?_)
    rintro ⟨x9, tt⟩ ac gs ws ⟨px, pt, ht, _⟩ hS
    refine wp_seq (wp_seq ?_)
    have hScur := hS
    rcases (by omega : x9 = 0 ∨ x9 = 4 ∨ x9 = 8 ∨ x9 = 12 ∨ x9 = 16) with rfl | rfl | rfl | rfl | rfl
    ·have hS := hScur
     clear hScur
     refine r0 [0, 3, 4, 6, 7, 9, 55] [0, 1, 2, 3] 4 hS fun hS => ?_
     refine then_n ?_
     refine if_d ((x6 : Int) < 14) hS (fun h4 => ?_) (fun h4 => ?_)
     ·refine wp_skip (then_n (wp_seq (wp_block (sA [(15, .call ⟨205, (c_mixed (tt 0) (tt 1) (tt 2) (tt 3)), [], []⟩)] ⟨mixed_ok _ _ _ _, trivial⟩ (fun C => [(0 : Int) ≤ 0 ∧ (0 : Int) < 16, (0 : Int) ≤ 1 ∧ (1 : Int) < 16, (0 : Int) ≤ 2 ∧ (2 : Int) < 16, (0 : Int) ≤ 3 ∧ (3 : Int) < 16, ndC C 15]) [0, 3, 4, 6, 7, 9, 10] [0, 1, 2, 3, 4] 5 ⟨by omega, by omega, by omega, by omega, rfl, trivial⟩ hS fun hS => ?_))))
      refine rB [(2, .frz)] [] trivial (fun _ => [bndP (some 0) none none 16 16, 16 ≤ 9223372036854775807, bl (some 0) 0 < bl none 16]) [0, 3, 4, 6, 7, 9] [0, 1, 2, 3] 5 ⟨⟨by simp only [nnI] <;> omega, by simp only [nnI] <;> omega, by simp only [nnI] <;> omega, by simp, by simp only [bl] <;> omega, by simp only [bl] <;> omega, by simp only [bl] <;> omega⟩, by omega, by decide, trivial⟩ hS fun hS => ?_
      refine block_n (then_n (r0 [0, 3, 4, 6, 7, 9] [0, 1, 2, 3] 5 hS fun hS => ?_))
      refine then_n ?_
      exact next_y hg0 hS (s := (0, tt)) (4, updW tt 0 (min ((List.range 4).map (mixed_m (tt 0) (tt 1) (tt 2) (tt 3))).length 16) (fun j => ((List.range 4).map (mixed_m (tt 0) (tt 1) (tt 2) (tt 3))).getD j 0)) [(0, 0), (1, 1), (2, 2), (3, 3)] (show 16 - 4 < 16 - 0 from by omega) ⟨omm, omm, (by rw [ht]; rfl), trivial⟩
     ·obtain rfl : block_l3 f g s k2 x6 o3_0 16 = tt := ht.symm
      refine wp_exit (then_exit (then_exit (block_exit (then_n (s0 [0, 3, 4, 6, 7, 78] [0, 1, 2, 3] 4 hS fun hS => ?_)))))
      refine wp_block (loop_y (ι := Nat × (Nat → Int)) hg0 hS (fun z_ => match z_ with | (x78, o3_0_5) => 16 - x78) (fun z_ => match z_ with | (x78, o3_0_5) => [(0, .cp 0 0), (3, .cp 1 0), (4, .cp 2 0), (6, vi (x6 : Int)), (7, .cp 3 0), (78, vi ((x78 : Nat) : Int))]) (fun z_ => match z_ with | (x78, o3_0_5) => [(0, .ob 258 (chain [.ar .u8 256 f, .ar .u8 240 g])), (1, .ob 241 (chain [.ar .u8 16 o3_0_5])), (2, .ob 241 (chain [.ar .u8 16 (fun _ => 0)])), (3, .ob 241 (chain [.ar .u8 16 (block_l3 f g s k2 x6 o3_0 16)]))]) (fun z_ => match z_ with | (x78, o3_0_5) => (x78 ≤ 16) ∧ (o3_0_5 = block_l5 f g s k2 x6 o3_0 x78) ∧ (Rb x78 o3_0_5) ∧ True) 4 (0, o3_0) [(0, 0), (1, 1), (2, 2), (3, 3)] ⟨omm, rfl, (Rb.zero _), trivial⟩ ?_)
      rintro ⟨x78, o3_0_5⟩ ac gs ws ⟨hx78, hq5, p6, _⟩ hS
      refine s0 [0, 3, 4, 6, 7, 78, 79] [0, 1, 2, 3] 4 hS fun hS => ?_
      refine wp_seq ?_
      refine if_d ((x78 : Int) < 16) hS (fun h5 => ?_) (fun h5 => ?_)
      ·refine wp_skip (then_n (wp_seq (wp_block (s0 [0, 3, 4, 6, 7, 11, 78] [0, 1, 2, 3] 4 hS fun hS => ?_))))
       refine rA [(6, .oi ((x6 * 16 : Nat) : Int)), (8, .oi (((x6 * 16) + x78 : Nat) : Int))] trivial (fun _ => [(0 : Int) ≤ (x78 : Int) ∧ ((x78 : Int) : Int) < 16, imul .i64 (x6 : Int) 16 = ((x6 * 16 : Nat) : Int), iadd .i64 ((x6 * 16 : Nat) : Int) (x78 : Int) = (((x6 * 16) + x78 : Nat) : Int), (0 : Int) ≤ (((x6 * 16) + x78 : Nat) : Int) ∧ ((((x6 * 16) + x78 : Nat) : Int) : Int) < 240, (0 : Int) ≤ (x78 : Int) ∧ ((x78 : Int) : Int) < 16]) [0, 3, 4, 6, 7, 78] [0, 1, 2, 3] 4 ⟨by omega, by rw [imul64 omm omm]; omega, by rw [iadd64 omm omm]; omega, by omega, by omega, trivial⟩ hS fun hS => ?_
       refine block_n (then_n (rA [(0, .oi ((x78 + 1 : Nat) : Int))] trivial (fun _ => [iadd .i64 (x78 : Int) 1 = ((x78 + 1 : Nat) : Int)]) [0, 3, 4, 6, 7, 78] [0, 1, 2, 3] 4 ⟨by rw [iadd64 omm omm]; omega, trivial⟩ hS fun hS => ?_))
       refine then_n ?_
       exact next_y hg0 hS (s := (x78, o3_0_5)) (x78 + 1, upd o3_0_5 x78 (ixor .u8 ((block_l3 f g s k2 x6 o3_0 16) x78) (g ((x6 * 16) + x78)))) [(0, 0), (1, 1), (2, 2), (3, 3)] (show 16 - (x78 + 1) < 16 - x78 from by omega) ⟨omm, (it_next (F := block_l5 f g s k2 x6 o3_0) (st := block_l5_s f g s k2 x6 o3_0) (fun _ => rfl) hq5 rfl), (Rb.next p6 (xor_rg _ _)), trivial⟩
      ·have hScur := hS
       obtain rfl : 16 = x78 := by omega
       obtain rfl : block_l5 f g s k2 x6 o3_0 16 = o3_0_5 := Eq.symm (congrArg (fun z => z) hq5)
       have hS := hScur
       clear hScur
       refine wp_exit (then_exit (then_exit (block_exit (block_n (then_n (rA [(1, .oi ((x6 + 1 : Nat) : Int))] trivial (fun _ => [iadd .i64 (x6 : Int) 1 = ((x6 + 1 : Nat) : Int)]) [0, 3, 4, 6] [0, 1, 2] 4 ⟨by rw [iadd64 omm omm]; omega, trivial⟩ hS fun hS => ?_))))))
       refine then_n ?_
       exact next_y hg0 hS (s := (k2, x6, o3_0)) (k2 + 1, x6 + 1, block_l5 f g s k2 x6 o3_0 16) [(0, 0), (1, 1), (2, 2)] (show 15 - (x6 + 1) < 15 - x6 from by omega) ⟨(it_next (F := block_l2 f g s) (st := block_l2_s f g s) (fun _ => rfl) hq2 (Eq.symm (if_neg h4))), (lst_next hj2 (by rw [← hq2]; exact h2)), omm, p6, trivial⟩
    ·have hS := hScur
     clear hScur
     have hturn : (x6 : Int) < 14 := by omega
     refine rA [(4, .ob true)] trivial (fun _ => [(decide ((x6 : Int) < 14)) = true]) [0, 3, 4, 6, 7, 9, 55] [0, 1, 2, 3] 4 ⟨decide_eq_true hturn, trivial⟩ hS fun hS => ?_
     refine then_n (cond_t hS ?_)
     refine wp_skip (then_n (wp_seq (wp_block (sA [(15, .call ⟨205, (c_mixed (tt 4) (tt 5) (tt 6) (tt 7)), [], []⟩)] ⟨mixed_ok _ _ _ _, trivial⟩ (fun C => [(0 : Int) ≤ 4 ∧ (4 : Int) < 16, (0 : Int) ≤ 5 ∧ (5 : Int) < 16, (0 : Int) ≤ 6 ∧ (6 : Int) < 16, (0 : Int) ≤ 7 ∧ (7 : Int) < 16, ndC C 15]) [0, 3, 4, 6, 7, 9, 10] [0, 1, 2, 3, 4] 5 ⟨by omega, by omega, by omega, by omega, rfl, trivial⟩ hS fun hS => ?_))))
     refine rB [(2, .frz)] [] trivial (fun _ => [bndP (some 4) none none 16 16, 16 ≤ 9223372036854775807, bl (some 4) 0 < bl none 16]) [0, 3, 4, 6, 7, 9] [0, 1, 2, 3] 5 ⟨⟨by simp only [nnI] <;> omega, by simp only [nnI] <;> omega, by simp only [nnI] <;> omega, by simp, by simp only [bl] <;> omega, by simp only [bl] <;> omega, by simp only [bl] <;> omega⟩, by omega, by decide, trivial⟩ hS fun hS => ?_
     refine block_n (then_n (r0 [0, 3, 4, 6, 7, 9] [0, 1, 2, 3] 5 hS fun hS => ?_))
     refine then_n ?_
     exact next_y hg0 hS (s := (4, tt)) (8, updW tt 4 (min ((List.range 4).map (mixed_m (tt 4) (tt 5) (tt 6) (tt 7))).length 12) (fun j => ((List.range 4).map (mixed_m (tt 4) (tt 5) (tt 6) (tt 7))).getD j 0)) [(0, 0), (1, 1), (2, 2), (3, 3)] (show 16 - 8 < 16 - 4 from by omega) ⟨omm, omm, (by rw [ht]; rfl), trivial⟩
    ·have hS := hScur
     clear hScur
     have hturn : (x6 : Int) < 14 := by omega
     refine rA [(4, .ob true)] trivial (fun _ => [(decide ((x6 : Int) < 14)) = true]) [0, 3, 4, 6, 7, 9, 55] [0, 1, 2, 3] 4 ⟨decide_eq_true hturn, trivial⟩ hS fun hS => ?_
     refine then_n (cond_t hS ?_)
     refine wp_skip (then_n (wp_seq (wp_block (sA [(15, .call ⟨205, (c_mixed (tt 8) (tt 9) (tt 10) (tt 11)), [], []⟩)] ⟨mixed_ok _ _ _ _, trivial⟩ (fun C => [(0 : Int) ≤ 8 ∧ (8 : Int) < 16, (0 : Int) ≤ 9 ∧ (9 : Int) < 16, (0 : Int) ≤ 10 ∧ (10 : Int) < 16, (0 : Int) ≤ 11 ∧ (11 : Int) < 16, ndC C 15]) [0, 3, 4, 6, 7, 9, 10] [0, 1, 2, 3, 4] 5 ⟨by omega, by omega, by omega, by omega, rfl, trivial⟩ hS fun hS => ?_))))
     refine rB [(2, .frz)] [] trivial (fun _ => [bndP (some 8) none none 16 16, 16 ≤ 9223372036854775807, bl (some 8) 0 < bl none 16]) [0, 3, 4, 6, 7, 9] [0, 1, 2, 3] 5 ⟨⟨by simp only [nnI] <;> omega, by simp only [nnI] <;> omega, by simp only [nnI] <;> omega, by simp, by simp only [bl] <;> omega, by simp only [bl] <;> omega, by simp only [bl] <;> omega⟩, by omega, by decide, trivial⟩ hS fun hS => ?_
     refine block_n (then_n (r0 [0, 3, 4, 6, 7, 9] [0, 1, 2, 3] 5 hS fun hS => ?_))
     refine then_n ?_
     exact next_y hg0 hS (s := (8, tt)) (12, updW tt 8 (min ((List.range 4).map (mixed_m (tt 8) (tt 9) (tt 10) (tt 11))).length 8) (fun j => ((List.range 4).map (mixed_m (tt 8) (tt 9) (tt 10) (tt 11))).getD j 0)) [(0, 0), (1, 1), (2, 2), (3, 3)] (show 16 - 12 < 16 - 8 from by omega) ⟨omm, omm, (by rw [ht]; rfl), trivial⟩
    ·have hS := hScur
     clear hScur
     have hturn : (x6 : Int) < 14 := by omega
     refine rA [(4, .ob true)] trivial (fun _ => [(decide ((x6 : Int) < 14)) = true]) [0, 3, 4, 6, 7, 9, 55] [0, 1, 2, 3] 4 ⟨decide_eq_true hturn, trivial⟩ hS fun hS => ?_
     refine then_n (cond_t hS ?_)
     refine wp_skip (then_n (wp_seq (wp_block (sA [(15, .call ⟨205, (c_mixed (tt 12) (tt 13) (tt 14) (tt 15)), [], []⟩)] ⟨mixed_ok _ _ _ _, trivial⟩ (fun C => [(0 : Int) ≤ 12 ∧ (12 : Int) < 16, (0 : Int) ≤ 13 ∧ (13 : Int) < 16, (0 : Int) ≤ 14 ∧ (14 : Int) < 16, (0 : Int) ≤ 15 ∧ (15 : Int) < 16, ndC C 15]) [0, 3, 4, 6, 7, 9, 10] [0, 1, 2, 3, 4] 5 ⟨by omega, by omega, by omega, by omega, rfl, trivial⟩ hS fun hS => ?_))))
     refine rB [(2, .frz)] [] trivial (fun _ => [bndP (some 12) none none 16 16, 16 ≤ 9223372036854775807, bl (some 12) 0 < bl none 16]) [0, 3, 4, 6, 7, 9] [0, 1, 2, 3] 5 ⟨⟨by simp only [nnI] <;> omega, by simp only [nnI] <;> omega, by simp only [nnI] <;> omega, by simp, by simp only [bl] <;> omega, by simp only [bl] <;> omega, by simp only [bl] <;> omega⟩, by omega, by decide, trivial⟩ hS fun hS => ?_
     refine block_n (then_n (r0 [0, 3, 4, 6, 7, 9] [0, 1, 2, 3] 5 hS fun hS => ?_))
     refine then_n ?_
     exact next_y hg0 hS (s := (12, tt)) (16, updW tt 12 (min ((List.range 4).map (mixed_m (tt 12) (tt 13) (tt 14) (tt 15))).length 4) (fun j => ((List.range 4).map (mixed_m (tt 12) (tt 13) (tt 14) (tt 15))).getD j 0)) [(0, 0), (1, 1), (2, 2), (3, 3)] (show 16 - 16 < 16 - 12 from by omega) ⟨omm, omm, (by rw [ht]; rfl), trivial⟩
    ·have hS := hScur
     clear hScur
     have hturn : (x6 : Int) < 14 := by omega
     refine r0 [0, 3, 4, 6, 7, 9, 55] [0, 1, 2, 3] 4 hS fun hS => ?_
     obtain rfl : mixN (block_l3 f g s k2 x6 o3_0 16) 16 = tt := ht.symm
     refine then_n (cond_f hS ?_)
     refine wp_exit (then_exit (then_exit (block_exit (then_n (s0 [0, 3, 4, 6, 7, 78] [0, 1, 2, 3] 4 hS fun hS => ?_)))))
     refine wp_block (loop_y (ι := Nat × (Nat → Int)) hg0 hS (fun z_ => match z_ with | (x78, o3_0_6) => 16 - x78) (fun z_ => match z_ with | (x78, o3_0_6) => [(0, .cp 0 0), (3, .cp 1 0), (4, .cp 2 0), (6, vi (x6 : Int)), (7, .cp 3 0), (78, vi ((x78 : Nat) : Int))]) (fun z_ => match z_ with | (x78, o3_0_6) => [(0, .ob 258 (chain [.ar .u8 256 f, .ar .u8 240 g])), (1, .ob 241 (chain [.ar .u8 16 o3_0_6])), (2, .ob 241 (chain [.ar .u8 16 (fun _ => 0)])), (3, .ob 241 (chain [.ar .u8 16 (mixN (block_l3 f g s k2 x6 o3_0 16) 16)]))]) (fun z_ => match z_ with | (x78, o3_0_6) => (x78 ≤ 16) ∧ (o3_0_6 = block_l6 f g s k2 x6 o3_0 x78) ∧ (Rb x78 o3_0_6) ∧ True) 4 (0, o3_0) [(0, 0), (1, 1), (2, 2), (3, 3)] ⟨omm, rfl, (Rb.zero _), trivial⟩ ?_)
     rintro ⟨x78, o3_0_6⟩ ac gs ws ⟨hx78, hq6, p6, _⟩ hS
     refine s0 [0, 3, 4, 6, 7, 78, 79] [0, 1, 2, 3] 4 hS fun hS => ?_
     refine wp_seq ?_
     refine if_d ((x78 : Int) < 16) hS (fun h6 => ?_) (fun h6 => ?_)
     ·refine wp_skip (then_n (wp_seq (wp_block (s0 [0, 3, 4, 6, 7, 11, 78] [0, 1, 2, 3] 4 hS fun hS => ?_))))
      refine rA [(6, .oi ((x6 * 16 : Nat) : Int)), (8, .oi (((x6 * 16) + x78 : Nat) : Int))] trivial (fun _ => [(0 : Int) ≤ (x78 : Int) ∧ ((x78 : Int) : Int) < 16, imul .i64 (x6 : Int) 16 = ((x6 * 16 : Nat) : Int), iadd .i64 ((x6 * 16 : Nat) : Int) (x78 : Int) = (((x6 * 16) + x78 : Nat) : Int), (0 : Int) ≤ (((x6 * 16) + x78 : Nat) : Int) ∧ ((((x6 * 16) + x78 : Nat) : Int) : Int) < 240, (0 : Int) ≤ (x78 : Int) ∧ ((x78 : Int) : Int) < 16]) [0, 3, 4, 6, 7, 78] [0, 1, 2, 3] 4 ⟨by omega, by rw [imul64 omm omm]; omega, by rw [iadd64 omm omm]; omega, by omega, by omega, trivial⟩ hS fun hS => ?_
      refine block_n (then_n (rA [(0, .oi ((x78 + 1 : Nat) : Int))] trivial (fun _ => [iadd .i64 (x78 : Int) 1 = ((x78 + 1 : Nat) : Int)]) [0, 3, 4, 6, 7, 78] [0, 1, 2, 3] 4 ⟨by rw [iadd64 omm omm]; omega, trivial⟩ hS fun hS => ?_))
      refine then_n ?_
      exact next_y hg0 hS (s := (x78, o3_0_6)) (x78 + 1, upd o3_0_6 x78 (ixor .u8 ((mixN (block_l3 f g s k2 x6 o3_0 16) 16) x78) (g ((x6 * 16) + x78)))) [(0, 0), (1, 1), (2, 2), (3, 3)] (show 16 - (x78 + 1) < 16 - x78 from by omega) ⟨omm, (it_next (F := block_l6 f g s k2 x6 o3_0) (st := block_l6_s f g s k2 x6 o3_0) (fun _ => rfl) hq6 rfl), (Rb.next p6 (xor_rg _ _)), trivial⟩
     ·have hScur := hS
      obtain rfl : 16 = x78 := by omega
      obtain rfl : block_l6 f g s k2 x6 o3_0 16 = o3_0_6 := Eq.symm (congrArg (fun z => z) hq6)
      have hS := hScur
      clear hScur
      refine wp_exit (then_exit (then_exit (block_exit (block_n (then_n (rA [(1, .oi ((x6 + 1 : Nat) : Int))] trivial (fun _ => [iadd .i64 (x6 : Int) 1 = ((x6 + 1 : Nat) : Int)]) [0, 3, 4, 6] [0, 1, 2] 4 ⟨by rw [iadd64 omm omm]; omega, trivial⟩ hS fun hS => ?_))))))
      refine then_n ?_
      exact next_y hg0 hS (s := (k2, x6, o3_0)) (k2 + 1, x6 + 1, block_l6 f g s k2 x6 o3_0 16) [(0, 0), (1, 1), (2, 2)] (show 15 - (x6 + 1) < 15 - x6 from by omega) ⟨(it_next (F := block_l2 f g s) (st := block_l2_s f g s) (fun _ => rfl) hq2 (Eq.symm (if_pos hturn))), (lst_next hj2 (by rw [← hq2]; exact h2)), omm, p6, trivial⟩
  ·have hScur := hS
   obtain rfl := lst_eq (P := fun j => block_l2_c f g s (block_l2 f g s j)) (by rw [← hq2]; first | exact h2 | exact not_not_intro h2) hj2
   obtain rfl : (block_l2 f g s (lst fun j => block_l2_c f g s (block_l2 f g s j))).1 = x6 := Eq.symm (congrArg (fun z => z.1) hq2)
   obtain rfl : (block_l2 f g s (lst fun j => block_l2_c f g s (block_l2 f g s j))).2 = o3_0 := Eq.symm (congrArg (fun z => z.2) hq2)
   have hS := hScur
   clear hScur
   refine wp_exit (then_exit (then_exit (block_exit (then_n (s0 [4] [0, 2] 3 hS fun hS => ?_)))))
   refine wp_ret ?_
   have hM : block_m f g s = (block_l2 f g s (lst fun j => block_l2_c f g s (block_l2 f g s j))).2 := block_e f g s
   exact fin_y rfl (.inr rfl) hS [.ar .u8 16 ((block_l2 f g s (lst fun j => block_l2_c f g s (block_l2 f g s j))).2)] [(0, some (.ob 258 (chain [.ar .u8 256 f, .ar .u8 240 g])))] (by show weak _ (.ar .u8 16 (block_m f g s)) = (.ar .u8 16 (block_m f g s)); rw [hM]; first | (simp only []; rfl) | (simp only []; done) | rfl) ⟨rfl, trivial⟩

end
end Go.Sx.Tryz
namespace Go.Sx.Tryz
open Go.Mi Go.RowKit Go.Sx Go.Proofs
noncomputable section
def stream_l1_s (key num : List Int) (n k1 : Nat) : (Int × (List Int)) → (Int × (List Int)) := fun z_ => match z_ with | (x10, x9) => ((iadd .u32 x10 1), x9 ++ ((List.range 16).map (block_m ((ready_m key).1) ((ready_m key).2) (fun j => List.getD (α := Int) ([num, put32_m x10].flatten) (0 + j) 0))))
def stream_l1 (key num : List Int) (n : Nat) : Nat → Int × (List Int)
 | 0 => (0, [])
 | k1 + 1 => stream_l1_s key num n k1 (stream_l1 key num n k1)
def stream_l1_c (key num : List Int) (n : Nat) : (Int × (List Int)) → Prop := fun z_ => match z_ with | (x10, x9) => ((x9.length : Nat) : Int) < (n : Int)
def stream_v (key num : List Int) (n : Nat) : (List Int) := first_m ((stream_l1 key num n (lst fun j => stream_l1_c key num n (stream_l1 key num n j))).2) n
def stream_m (key num : List Int) (n : Nat) : (List Int) := shut (stream_v key num n)
theorem stream_e (key num : List Int) (n : Nat) : stream_m key num n = stream_v key num n := shut_eq _
@[simp] theorem first_len (xs : List Int) (n : Nat) : (first_m xs n).length = n := by
 rw [first_e]; unfold first_v
 simp only [List.length_append, List.length_take, List.length_drop, List.length_replicate]
 omega
@[simp] theorem stream_len (key num : List Int) (n : Nat) : (stream_m key num n).length = n := by rw [stream_e]; exact first_len _ _
def c_stream (key num : List Int) (n : Nat) : Con := ⟨[lb key, lb num, vi (n : Int)], [], .tu (chain [lb (stream_m key num n), vi 0]), []⟩
theorem stream_ok (key num : List Int) (n : Nat) (hk : key.length = 32) (hb : By key) (hn : num.length = 12) (hl : n ≤ 1000000) : ConOk Tryz.prog 158 (c_stream key num n) := by
 refine conOk_of rfl (nb := 0) Tryz.func158 rfl rfl Tryz.ntmps158 rfl rfl rfl fun g0 w0 ac gs ws hg0 hS => ?_
 have hlen0 : key.length ≤ 9223372036854775807 := hS.len 0 rfl
 have hlen1 : num.length ≤ 9223372036854775807 := hS.len 1 rfl
 have hS := hS.sp
 have hk1 : ((key.length : Nat) : Int) = 32 := omm
 have hn1 : ((num.length : Nat) : Int) = 12 := omm
 have hz1 : ¬ (n : Int) < 0 := omm
 have hz2 : ¬ (1048576 : Int) < (n : Int) := omm
 refine s0 [0, 1, 2, 6, 7] [] 0 hS fun hS => ?_
 refine wp_seq (sA [(2, .ob false), (6, .ob false), (10, .ob false), (14, .ob false)] trivial (fun _ => [(!decide (((key.length : Nat) : Int) = 32)) = false, (!decide (((num.length : Nat) : Int) = 12)) = false, (decide ((n : Int) < 0)) = false, (decide ((1048576 : Int) < (n : Int))) = false]) [0, 1, 2, 6, 7, 27] [] 0 ⟨by rw [decide_eq_true hk1]; rfl, by rw [decide_eq_true hn1]; rfl, decide_eq_false hz1, decide_eq_false hz2, trivial⟩ hS fun hS => ?_)
 refine cond_f hS ?_
 refine wp_skip (then_n (sA [(1, .call ⟨182, (c_ready key), [], [(0, 0)]⟩)] ⟨ready_ok _ lnn asm, trivial⟩ (fun C => [ndC C 1]) [1, 2, 6, 7, 8] [0] 1 ⟨rfl, trivial⟩ hS fun hS => ?_))
 refine s0 [1, 2, 6, 7, 8, 9] [0] 1 hS fun hS => ?_
 refine wp_seq (s0 [1, 2, 6, 7, 8, 9, 10] [0] 1 hS fun hS => ?_)
 refine wp_block ?_
 obtain ⟨gs, hS⟩ := hS.nilk 9 5 [.int .u8]
 refine loop_y (ι := Nat × Int × (List Int)) hg0 hS (fun z_ => match z_ with | (k1, x10, x9) => n - x9.length) (fun z_ => match z_ with | (k1, x10, x9) => [(1, lb num), (2, vi (n : Int)), (6, .v (.slice none 0 0)), (7, vi 0), (8, .cp 0 0), (9, .sk 1), (10, .v (.int .u32 x10))]) (fun z_ => match z_ with | (k1, x10, x9) => [(0, .ob 258 (chain [.ar .u8 256 ((ready_m key).1), .ar .u8 240 ((ready_m key).2)])), (1, .sl 5 [.int .u8] x9)]) (fun z_ => match z_ with | (k1, x10, x9) => ((x10, x9) = stream_l1 key num n k1) ∧ (∀ j, j < k1 → stream_l1_c key num n (stream_l1 key num n j)) ∧ (x9.length ≤ n + 16) ∧ True) 2 (0, 0, []) [(0, 0), (1, 1)] ⟨rfl, (fun j h => absurd h (Nat.not_lt_zero j)), (by simp), trivial⟩ ?_
 rintro ⟨k1, x10, x9⟩ ac gs ws ⟨hq1, hj1, p1, _⟩ hS
 refine wp_seq (s0 [1, 2, 6, 7, 8, 9, 10, 33] [0, 1] 2 hS fun hS => ?_)
 refine if_d (((x9.length : Nat) : Int) < (n : Int)) hS (fun h1 => ?_) (fun h1 => ?_)
 ·refine wp_skip (then_n (wp_seq (wp_block (sB [(6, .frz), (7, .at 0 0)] [(3, .call ⟨165, (c_put32 x10), [], []⟩), (5, .call ⟨154, (c_cat [num, put32_m x10]), [], [(0, 2)]⟩), (8, .call ⟨183, (c_block ((ready_m key).1) ((ready_m key).2) (fun j => List.getD (α := Int) ([num, put32_m x10].flatten) (0 + j) 0)), [(0, 0)], []⟩)] ⟨put32_ok _, cat_ok _ (by first | omega | (simp only [List.flatten_cons, List.flatten_nil, List.length_append, List.length_cons, List.length_nil, List.length_take, List.length_drop, List.length_replicate] <;> omega) | (simp <;> omega)), block_ok _ _ _ (ready_rb key), trivial⟩ (fun C => [ndC C 3, ndC C 5, 16 ≤ ([num, put32_m x10].flatten).length, 0 < ([num, put32_m x10].flatten).length, 0 + 16 ≤ ([num, put32_m x10].flatten).length, nd [.cp 0 0, .ar .u8 16 (fun j => List.getD (α := Int) ([num, put32_m x10].flatten) (0 + j) 0)] [some (.ob 258 (chain [.ar .u8 256 ((ready_m key).1), .ar .u8 240 ((ready_m key).2)]))]]) [1, 2, 6, 7, 8, 9, 10, 11] [0, 1, 3] 4 ⟨rfl, rfl, by (first | omega | (simp only [List.length_append, List.length_map, List.length_range, List.length_nil, List.flatten_cons, List.flatten_nil, put32_len]; omega)), by (first | omega | (simp only [List.length_append, List.length_map, List.length_range, List.length_nil, List.flatten_cons, List.flatten_nil, put32_len]; omega)), by (first | omega | (simp only [List.length_append, List.length_map, List.length_range, List.length_nil, List.flatten_cons, List.flatten_nil, put32_len]; omega)), rfl, trivial⟩ hS fun hS => ?_))))
  refine rB [(1, .frz)] [] trivial (fun _ => [x9.length + ((List.range 16).map (block_m ((ready_m key).1) ((ready_m key).2) (fun j => List.getD (α := Int) ([num, put32_m x10].flatten) (0 + j) 0))).length ≤ 9223372036854775807, (x9.length + ((List.range 16).map (block_m ((ready_m key).1) ((ready_m key).2) (fun j => List.getD (α := Int) ([num, put32_m x10].flatten) (0 + j) 0))).length) * 1 ≤ 140737488355328]) [1, 2, 6, 7, 8, 9, 10] [0, 4] 5 ⟨by (first | omega | (simp only [List.length_append, List.length_map, List.length_range, List.length_nil, List.flatten_cons, List.flatten_nil, put32_len]; omega)), by (first | omega | (simp only [List.length_append, List.length_map, List.length_range, List.length_nil, List.flatten_cons, List.flatten_nil, put32_len]; omega)), trivial⟩ hS fun hS => ?_
  refine block_n (then_n (r0 [1, 2, 6, 7, 8, 9, 10] [0, 4] 5 hS fun hS => ?_))
  refine then_n ?_
  exact next_y hg0 hS (s := (k1, x10, x9)) (k1 + 1, (iadd .u32 x10 1), x9 ++ ((List.range 16).map (block_m ((ready_m key).1) ((ready_m key).2) (fun j => List.getD (α := Int) ([num, put32_m x10].flatten) (0 + j) 0)))) [(0, 0), (1, 4)] (show n - (x9 ++ (List.range 16).map _).length < n - x9.length from by rw [List.length_append, List.length_map, List.length_range]; omega) ⟨(it_next (F := stream_l1 key num n) (st := stream_l1_s key num n) (fun _ => rfl) hq1 rfl), (lst_next hj1 (by rw [← hq1]; exact h1)), (by rw [List.length_append, List.length_map, List.length_range]; omega), trivial⟩
 ·have hScur := hS
  obtain rfl := lst_eq (P := fun j => stream_l1_c key num n (stream_l1 key num n j)) (by rw [← hq1]; first | exact h1 | exact not_not_intro h1) hj1
  obtain rfl : (stream_l1 key num n (lst fun j => stream_l1_c key num n (stream_l1 key num n j))).1 = x10 := Eq.symm (congrArg (fun z => z.1) hq1)
  obtain rfl : (stream_l1 key num n (lst fun j => stream_l1_c key num n (stream_l1 key num n j))).2 = x9 := Eq.symm (congrArg (fun z => z.2) hq1)
  have hS := hScur
  clear hScur
  refine wp_exit (then_exit (then_exit (block_exit (then_n (wp_seq ?_)))))
  obtain ⟨gs, hS⟩ := hS.fz 1
  refine rA [(2, .call ⟨184, (c_first ((stream_l1 key num n (lst fun j => stream_l1_c key num n (stream_l1 key num n j))).2) n), [], [(0, 2)]⟩)] ⟨first_ok _ _ omm, trivial⟩ (fun C => [ndC C 2]) [6, 7] [2] 3 ⟨rfl, trivial⟩ hS fun hS => ?_
  refine then_n (wp_ret ?_)
  have hM : stream_m key num n = first_m ((stream_l1 key num n (lst fun j => stream_l1_c key num n (stream_l1 key num n j))).2) n := stream_e key num n
  obtain ⟨gs, hS⟩ := hS.fz 2
  exact fin_y rfl (.inr rfl) hS [lb (first_m ((stream_l1 key num n (lst fun j => stream_l1_c key num n (stream_l1 key num n j))).2) n), vi 0] [] (by show weak _ (.tu (chain [lb (stream_m key num n), vi 0])) = (.tu (chain [lb (stream_m key num n), vi 0])); rw [hM]; first | (simp only []; rfl) | (simp only []; done) | rfl) trivial

theorem xor_k (xs ys : List Int) : ∀ k, (xor_l1 xs ys k).length = min xs.length ys.length ∧ ∀ i, i < k → i < min xs.length ys.length → (xor_l1 xs ys k).getD i 0 = ixor .u8 (xs.getD i 0) (ys.getD i 0)
 | 0 => ⟨List.length_replicate, fun i h => absurd h (Nat.not_lt_zero _)⟩
 | k + 1 => by
  obtain ⟨h1, h2⟩ := xor_k xs ys k
  have e : xor_l1 xs ys (k + 1) = (xor_l1 xs ys k).set k (ixor .u8 (xs.getD k 0) (ys.getD k 0)) := rfl
  refine ⟨by rw [e, List.length_set, h1], fun i hi hl => ?_⟩
  rw [e, List.getD_eq_getElem?_getD]
  by_cases hk : i = k
  ·subst hk
   rw [List.getElem?_set_self (by rw [h1]; exact hl)]; rfl
  ·rw [List.getElem?_set_ne (fun h => hk h.symm), ← List.getD_eq_getElem?_getD]
   exact h2 i omm hl
theorem xor_at (xs ys : List Int) {i : Nat} (h : i < min xs.length ys.length) : (xor_m xs ys).getD i 0 = ixor .u8 (xs.getD i 0) (ys.getD i 0) := by
 rw [xor_e]; exact (xor_k xs ys _).2 i h h
@[simp] theorem xor_len (xs ys : List Int) : (xor_m xs ys).length = min xs.length ys.length := by
 rw [xor_e]; exact (xor_k xs ys _).1
theorem xor_inv {xs ys : List Int} (hb : By xs) (hl : xs.length ≤ ys.length) : xor_m (xor_m xs ys) ys = xs := by
 have h1 : (xor_m xs ys).length = xs.length := by rw [xor_len]; omega
 refine List.ext_getElem (by rw [xor_len, h1]; omega) fun i h2 h3 => ?_
 have k1 := xor_at (xor_m xs ys) ys (i := i) omm
 rw [xor_at xs ys (i := i) omm, xor_xor (by_getD hb i)] at k1
 rw [List.getD_eq_getElem?_getD, List.getElem?_eq_getElem h2, List.getD_eq_getElem?_getD, List.getElem?_eq_getElem h3] at k1
 exact k1
def crypt_v (key num xs : List Int) : (List Int) := xor_m xs (stream_m key num xs.length)
def crypt_m (key num xs : List Int) : (List Int) := shut (crypt_v key num xs)
theorem crypt_e (key num xs : List Int) : crypt_m key num xs = crypt_v key num xs := shut_eq _
@[simp] theorem crypt_len (key num xs : List Int) : (crypt_m key num xs).length = xs.length := by
 rw [crypt_e]; unfold crypt_v; rw [xor_len, stream_len]; omega
theorem crypt_inv (key num : List Int) {xs : List Int} (h : By xs) : crypt_m key num (crypt_m key num xs) = xs := by
 have e : ∀ ys, crypt_m key num ys = xor_m ys (stream_m key num ys.length) := fun ys => crypt_e key num ys
 rw [e (crypt_m key num xs), crypt_len, e xs]
 exact xor_inv h (by rw [stream_len]; exact Nat.le_refl _)
def c_crypt (key num xs : List Int) : Con := ⟨[lb key, lb num, lb xs], [], .tu (chain [.sk 0, vi 0]), [(0, .sl 5 [.int .u8] (crypt_m key num xs))]⟩
theorem crypt_ok (key num xs : List Int) (hk : key.length = 32) (hb : By key) (hn : num.length = 12) (hl : xs.length ≤ 1000000) : ConOk Tryz.prog 119 (c_crypt key num xs) := by
 refine conOk_of rfl (nb := 0) Tryz.func119 rfl rfl Tryz.ntmps119 rfl rfl rfl fun g0 w0 ac gs ws hg0 hS => ?_
 have hlen0 : key.length ≤ 9223372036854775807 := hS.len 0 rfl
 have hlen1 : num.length ≤ 9223372036854775807 := hS.len 1 rfl
 have hlen2 : xs.length ≤ 9223372036854775807 := hS.len 2 rfl
 have hS := hS.sp
 refine s0 [0, 1, 2, 6, 7] [] 0 hS fun hS => ?_
 refine wp_seq ?_
 have hsl := stream_len key num xs.length
 refine rA [(4, .call ⟨158, (c_stream key num xs.length), [], []⟩)] ⟨stream_ok _ _ _ lnn asm lnn lnn, trivial⟩ (fun C => [ndC C 4]) [2, 6, 7, 8, 9] [] 0 ⟨rfl, trivial⟩ hS fun hS => ?_
 refine then_n (wp_seq (s0 [2, 6, 7, 8, 9, 19] [] 0 hS fun hS => ?_))
 refine cond_f hS ?_
 refine wp_skip (then_n (sA [(2, .call ⟨159, (c_xor xs (stream_m key num xs.length)), [], [(0, 0)]⟩)] ⟨xor_ok _ _ omm, trivial⟩ (fun C => [ndC C 2]) [6, 7] [0] 1 ⟨rfl, trivial⟩ hS fun hS => ?_))
 refine wp_ret ?_
 have hM : crypt_m key num xs = xor_m xs (stream_m key num xs.length) := crypt_e key num xs
 exact fin_y rfl (.inr rfl) hS [.sk 0, vi 0] [(0, some (.sl 5 [.int .u8] (xor_m xs (stream_m key num xs.length))))] rfl (by show H1Ok _ [(0, .sl 5 [.int .u8] (crypt_m key num xs))] true; rw [hM]; first | (simp only []; exact ⟨rfl, trivial⟩) | exact ⟨rfl, trivial⟩)

end
end Go.Sx.Tryz
namespace Go.Sx.Tryz
open Go.Mi Go.RowKit Go.Sx Go.Proofs
noncomputable section
theorem By.nil : By [] := fun x h => by cases h
theorem By.app {a b : List Int} (h : By a) (k : By b) : By (a ++ b) := fun x hx => (List.mem_append.1 hx).elim (h x) (k x)
theorem By.set {a : List Int} (h : By a) (i : Nat) {v : Int} (hv : 0 ≤ v ∧ v < 256) : By (a.set i v) := fun x hx => (List.mem_or_eq_of_mem_set hx).elim (h x) fun e => e ▸ hv
theorem By.take {a : List Int} (h : By a) (n : Nat) : By (a.take n) := fun x hx => h x (List.mem_of_mem_take hx)
theorem By.drop {a : List Int} (h : By a) (n : Nat) : By (a.drop n) := fun x hx => h x (List.mem_of_mem_drop hx)
theorem little64_by (x : Int) : By (little64_m x) := by
 have key : ∀ i, By (little64_l1 x i) := by
  intro i
  induction i with
  | zero => intro y hy; rw [show little64_l1 x 0 = List.replicate 8 (0 : Int) from rfl] at hy; rw [List.eq_of_mem_replicate hy]; exact ⟨Int.le_refl _, (by decide : (0 : Int) < 256)⟩
  | succ i ih => exact By.set ih _ (w8_rg _)
 rw [little64_e]
 exact key 8
theorem srev_by {xs : List Int} (h : By xs) : By (srev_m xs) := by
 have key : ∀ i, By (srev_l1 xs i).2.2 := by
  intro i
  induction i with
  | zero => exact h
  | succ i ih =>
   show By (((srev_l1 xs i).2.2.set _ _).set _ _)
   exact By.set (By.set ih _ (by_getD ih _)) _ (by_getD ih _)
 rw [srev_e]
 exact key _
theorem put64_by (x : Int) : By (put64_m x) := by rw [put64_e]; exact srev_by (little64_by _)
theorem put32_by (x : Int) : By (put32_m x) := by rw [put32_e]; exact By.drop (put64_by _) _
theorem hsum_by (h : Nat → Int) (r : List Int) (n : Int) : By (hsum_m h r n) := by
 have key : ∀ i, By (hsum_l2 h r n i) := by
  intro i
  induction i with
  | zero => exact By.nil
  | succ i ih => exact By.app ih (put32_by _)
 rw [hsum_e]
 exact key 8
theorem kmac_by (u1 : Nat → Int) (r1 : List Int) (n1 : Int) (u2 : Nat → Int) (r2 : List Int) (n2 : Int) (l : List (List Int)) : By (kmac_m u1 r1 n1 u2 r2 n2 l) := by rw [kmac_e]; exact hsum_by _ _ _
theorem expand64_by (key info : List Int) : By (expand64_m key info) := by
 have h : ∀ k, By (expand64_l1 key info k).2.1 := by
  intro k
  induction k with
  | zero => exact By.nil
  | succ k ih => exact By.app ih (kmac_by _ _ _ _ _ _ _)
 rw [expand64_e]
 unfold expand64_v
 rw [List.nil_append]
 exact By.take (h _) _
theorem derive0_64_by (ikm info : List Int) : By (derive0_64_m ikm info) := by rw [derive0_64_e]; exact expand64_by _ _
def stag_v (k : List Int) (u1 : Nat → Int) (r1 : List Int) (n1 : Int) (u2 : Nat → Int) (r2 : List Int) (n2 : Int) (num : List Int) (data text : List Int) : (List Int) := kmac_m u1 r1 n1 u2 r2 n2 [num, put64_m ((data.length : Nat) : Int), data, text]
def stag_m (k : List Int) (u1 : Nat → Int) (r1 : List Int) (n1 : Int) (u2 : Nat → Int) (r2 : List Int) (n2 : Int) (num : List Int) (data text : List Int) : (List Int) := shut (stag_v k u1 r1 n1 u2 r2 n2 num data text)
theorem stag_e (k : List Int) (u1 : Nat → Int) (r1 : List Int) (n1 : Int) (u2 : Nat → Int) (r2 : List Int) (n2 : Int) (num : List Int) (data text : List Int) : stag_m k u1 r1 n1 u2 r2 n2 num data text = stag_v k u1 r1 n1 u2 r2 n2 num data text := shut_eq _
@[simp] theorem stag_len (k : List Int) (u1 : Nat → Int) (r1 : List Int) (n1 : Int) (u2 : Nat → Int) (r2 : List Int) (n2 : Int) (num data text : List Int) : (stag_m k u1 r1 n1 u2 r2 n2 num data text).length = 32 := by rw [stag_e]; exact kmac_len ..
def c_stag (k : List Int) (u1 : Nat → Int) (r1 : List Int) (n1 : Int) (u2 : Nat → Int) (r2 : List Int) (n2 : Int) (num : List Int) (data text : List Int) : Con := ⟨[.im (chain [lb k, .im (chain [.im (chain [.ar .u32 8 u1, lb r1, .v (.int .u64 n1)]) 0, .im (chain [.ar .u32 8 u2, lb r2, .v (.int .u64 n2)]) 0]) 0]) 0, lb num, lb data, lb text], [], .sk 0, [(0, .sl 5 [.int .u8] (stag_m k u1 r1 n1 u2 r2 n2 num data text))]⟩
theorem stag_ok (k : List Int) (u1 : Nat → Int) (r1 : List Int) (n1 : Int) (u2 : Nat → Int) (r2 : List Int) (n2 : Int) (num : List Int) (data text : List Int) (hr1 : r1.length ≤ 64) (hr2 : r2.length ≤ 64) (hd : data.length ≤ 60000) (ht : text.length ≤ 60000) (hn : num.length = 12) : ConOk Tryz.prog 120 (c_stag k u1 r1 n1 u2 r2 n2 num data text) := by
 refine conOk_of rfl (nb := 0) Tryz.func120 rfl rfl Tryz.ntmps120 rfl rfl rfl fun g0 w0 ac gs ws hg0 hS => ?_
 have hlen1 : num.length ≤ 9223372036854775807 := hS.len 1 rfl
 have hlen2 : data.length ≤ 9223372036854775807 := hS.len 2 rfl
 have hlen3 : text.length ≤ 9223372036854775807 := hS.len 3 rfl
 have hS := hS.sp
 refine s0 [0, 1, 2, 3, 8] [] 0 hS fun hS => ?_
 refine sA [(7, .oi ((data.length : Nat) : Int)), (8, .call ⟨160, (c_put64 ((data.length : Nat) : Int)), [], []⟩), (12, .call ⟨86, (c_kmac u1 r1 n1 u2 r2 n2 [num, put64_m ((data.length : Nat) : Int), data, text]), [], [(0, 0)]⟩)] ⟨put64_ok _, kmac_ok _ _ _ _ _ _ _ hr1 hr2 (by first | assumption | omega | (simp only [List.flatten_cons, List.flatten_nil, List.length_append, List.length_cons, List.length_nil, put64_len] <;> omega) | (simp <;> omega)), trivial⟩ (fun C => [IntKind.wrap .u64 ((data.length : Nat) : Int) = ((data.length : Nat) : Int), ndC C 8, ndC C 12]) [8] [0] 1 ⟨wrap_u64 omm omm, rfl, rfl, trivial⟩ hS fun hS => ?_
 refine wp_ret ?_
 have hM : stag_m k u1 r1 n1 u2 r2 n2 num data text = kmac_m u1 r1 n1 u2 r2 n2 [num, put64_m ((data.length : Nat) : Int), data, text] := stag_e k u1 r1 n1 u2 r2 n2 num data text
 exact fin_y rfl (.inr rfl) hS [.sk 0] [(0, some (.sl 5 [.int .u8] (kmac_m u1 r1 n1 u2 r2 n2 [num, put64_m ((data.length : Nat) : Int), data, text])))] rfl (by show H1Ok _ [(0, .sl 5 [.int .u8] (stag_m k u1 r1 n1 u2 r2 n2 num data text))] true; rw [hM]; first | (simp only []; exact ⟨rfl, trivial⟩) | exact ⟨rfl, trivial⟩)

def c_stagf (k : List Int) (u1 : Nat → Int) (r1 : List Int) (n1 : Int) (u2 : Nat → Int) (r2 : List Int) (n2 : Int) (num : List Int) (data text : List Int) : Con := ⟨[.im (chain [lb k, .im (chain [.im (chain [.ar .u32 8 u1, lb r1, .v (.int .u64 n1)]) 0, .im (chain [.ar .u32 8 u2, lb r2, .v (.int .u64 n2)]) 0]) 0]) 0, lb num, lb data, lb text], [], lb (stag_m k u1 r1 n1 u2 r2 n2 num data text), []⟩
theorem stagf_ok (k : List Int) (u1 : Nat → Int) (r1 : List Int) (n1 : Int) (u2 : Nat → Int) (r2 : List Int) (n2 : Int) (num : List Int) (data text : List Int) (hr1 : r1.length ≤ 64) (hr2 : r2.length ≤ 64) (hd : data.length ≤ 60000) (ht : text.length ≤ 60000) (hn : num.length = 12) : ConOk Tryz.prog 120 (c_stagf k u1 r1 n1 u2 r2 n2 num data text) := ConOk.frz [] 0 5 [.int .u8] (stag_m k u1 r1 n1 u2 r2 n2 num data text) (stag_ok k u1 r1 n1 u2 r2 n2 num data text hr1 hr2 hd ht hn) (by kernel_rfl)
def c_stagl (k : List Int) (u1 : Nat → Int) (r1 : List Int) (n1 : Int) (u2 : Nat → Int) (r2 : List Int) (n2 : Int) (num : List Int) (data text : List Int) : Con := ⟨[.im (chain [lb k, .im (chain [.im (chain [.ar .u32 8 u1, lb r1, .v (.int .u64 n1)]) 0, .im (chain [.ar .u32 8 u2, lb r2, .v (.int .u64 n2)]) 0]) 0]) 0, lb num, lb data, .sk 1], [(1, .sl 5 [.int .u8] text)], .sk 0, [(1, .sl 5 [.int .u8] text), (0, .sl 5 [.int .u8] (stag_m k u1 r1 n1 u2 r2 n2 num data text))]⟩
theorem stagl_ok (k : List Int) (u1 : Nat → Int) (r1 : List Int) (n1 : Int) (u2 : Nat → Int) (r2 : List Int) (n2 : Int) (num : List Int) (data text : List Int) (hr1 : r1.length ≤ 64) (hr2 : r2.length ≤ 64) (hd : data.length ≤ 60000) (ht : text.length ≤ 60000) (hn : num.length = 12) : ConOk Tryz.prog 120 (c_stagl k u1 r1 n1 u2 r2 n2 num data text) := ConOk.lend (a1 := [.im (chain [lb k, .im (chain [.im (chain [.ar .u32 8 u1, lb r1, .v (.int .u64 n1)]) 0, .im (chain [.ar .u32 8 u2, lb r2, .v (.int .u64 n2)]) 0]) 0]) 0, lb num, lb data]) (a2 := []) (nn := false) (xs := text) (H0 := []) (H1 := [(0, .sl 5 [.int .u8] (stag_m k u1 r1 n1 u2 r2 n2 num data text))]) (res := (.sk 0)) 1 5 (stag_ok k u1 r1 n1 u2 r2 n2 num data text hr1 hr2 hd ht hn) (fun h => by cases h) (by kernel_rfl)
def c_smay65536 (k : List Int) (u1 : Nat → Int) (r1 : List Int) (n1 : Int) (u2 : Nat → Int) (r2 : List Int) (n2 : Int) (num : List Int) (data text : List Int) : Con := ⟨[.im (chain [lb k, .im (chain [.im (chain [.ar .u32 8 u1, lb r1, .v (.int .u64 n1)]) 0, .im (chain [.ar .u32 8 u2, lb r2, .v (.int .u64 n2)]) 0]) 0]) 0, lb num, lb data, lb text, vi 65536], [], vi 0, []⟩
theorem smay65536_ok (k : List Int) (u1 : Nat → Int) (r1 : List Int) (n1 : Int) (u2 : Nat → Int) (r2 : List Int) (n2 : Int) (num : List Int) (data text : List Int) (hd : data.length ≤ 60000) (ht : text.length ≤ 60000) (hn : num.length = 12) : ConOk Tryz.prog 118 (c_smay65536 k u1 r1 n1 u2 r2 n2 num data text) := by
 refine conOk_of rfl (nb := 0) Tryz.func118 rfl rfl Tryz.ntmps118 rfl rfl rfl fun g0 w0 ac gs ws hg0 hS => ?_
 have hlen1 : num.length ≤ 9223372036854775807 := hS.len 1 rfl
 have hlen2 : data.length ≤ 9223372036854775807 := hS.len 2 rfl
 have hlen3 : text.length ≤ 9223372036854775807 := hS.len 3 rfl
 have hS := hS.sp
 have hn1 : ((num.length : Nat) : Int) = 12 := omm
 have ht1 : ¬ (65536 : Int) < ((text.length : Nat) : Int) := omm
 have hd1 : ¬ (65536 : Int) < ((data.length : Nat) : Int) := omm
 refine s0 [0, 1, 2, 3, 4, 10] [] 0 hS fun hS => ?_
 refine wp_seq (wp_block (sA [(12, .ob false)] trivial (fun _ => [(!decide (((num.length : Nat) : Int) = 12)) = false]) [2, 3, 4, 10, 11] [] 0 ⟨by rw [decide_eq_true hn1]; rfl, trivial⟩ hS fun hS => ?_))
 refine cond_f hS ?_
 refine sA [(3, .ob false), (7, .ob false)] trivial (fun _ => [(decide ((65536 : Int) < ((text.length : Nat) : Int))) = false, (decide ((65536 : Int) < ((data.length : Nat) : Int))) = false]) [10, 26] [] 0 ⟨decide_eq_false ht1, decide_eq_false hd1, trivial⟩ hS fun hS => ?_
 refine cond_f hS ?_
 refine wp_skip (block_n (then_n (s0 [10] [] 0 hS fun hS => ?_)))
 refine wp_ret ?_
 exact fin_y rfl (.inr rfl) hS [vi 0] [] rfl trivial

def c_smay65568 (k : List Int) (u1 : Nat → Int) (r1 : List Int) (n1 : Int) (u2 : Nat → Int) (r2 : List Int) (n2 : Int) (num : List Int) (data text : List Int) : Con := ⟨[.im (chain [lb k, .im (chain [.im (chain [.ar .u32 8 u1, lb r1, .v (.int .u64 n1)]) 0, .im (chain [.ar .u32 8 u2, lb r2, .v (.int .u64 n2)]) 0]) 0]) 0, lb num, lb data, lb text, vi 65568], [], vi 0, []⟩
theorem smay65568_ok (k : List Int) (u1 : Nat → Int) (r1 : List Int) (n1 : Int) (u2 : Nat → Int) (r2 : List Int) (n2 : Int) (num : List Int) (data text : List Int) (hd : data.length ≤ 60000) (ht : text.length ≤ 60000) (hn : num.length = 12) : ConOk Tryz.prog 118 (c_smay65568 k u1 r1 n1 u2 r2 n2 num data text) := by
 refine conOk_of rfl (nb := 0) Tryz.func118 rfl rfl Tryz.ntmps118 rfl rfl rfl fun g0 w0 ac gs ws hg0 hS => ?_
 have hlen1 : num.length ≤ 9223372036854775807 := hS.len 1 rfl
 have hlen2 : data.length ≤ 9223372036854775807 := hS.len 2 rfl
 have hlen3 : text.length ≤ 9223372036854775807 := hS.len 3 rfl
 have hS := hS.sp
 have hn1 : ((num.length : Nat) : Int) = 12 := omm
 have ht1 : ¬ (65568 : Int) < ((text.length : Nat) : Int) := omm
 have hd1 : ¬ (65536 : Int) < ((data.length : Nat) : Int) := omm
 refine s0 [0, 1, 2, 3, 4, 10] [] 0 hS fun hS => ?_
 refine wp_seq (wp_block (sA [(12, .ob false)] trivial (fun _ => [(!decide (((num.length : Nat) : Int) = 12)) = false]) [2, 3, 4, 10, 11] [] 0 ⟨by rw [decide_eq_true hn1]; rfl, trivial⟩ hS fun hS => ?_))
 refine cond_f hS ?_
 refine sA [(3, .ob false), (7, .ob false)] trivial (fun _ => [(decide ((65568 : Int) < ((text.length : Nat) : Int))) = false, (decide ((65536 : Int) < ((data.length : Nat) : Int))) = false]) [10, 26] [] 0 ⟨decide_eq_false ht1, decide_eq_false hd1, trivial⟩ hS fun hS => ?_
 refine cond_f hS ?_
 refine wp_skip (block_n (then_n (s0 [10] [] 0 hS fun hS => ?_)))
 refine wp_ret ?_
 exact fin_y rfl (.inr rfl) hS [vi 0] [] rfl trivial

end
end Go.Sx.Tryz
namespace Go.Sx.Tryz
open Go.Mi Go.RowKit Go.Sx Go.Proofs
noncomputable section
def newbox_v (key : List Int) : (List Int) × (Nat → Int) × (List Int) × Int × (Nat → Int) × (List Int) × Int := ((derive0_64_m key [115, 101, 97, 108]).take 32, (newkey_m ((derive0_64_m key [115, 101, 97, 108]).drop 32)).1, (newkey_m ((derive0_64_m key [115, 101, 97, 108]).drop 32)).2.1, ((newkey_m ((derive0_64_m key [115, 101, 97, 108]).drop 32)).2.2.1), (newkey_m ((derive0_64_m key [115, 101, 97, 108]).drop 32)).2.2.2.1, (newkey_m ((derive0_64_m key [115, 101, 97, 108]).drop 32)).2.2.2.2.1, ((newkey_m ((derive0_64_m key [115, 101, 97, 108]).drop 32)).2.2.2.2.2))
def newbox_m (key : List Int) : (List Int) × (Nat → Int) × (List Int) × Int × (Nat → Int) × (List Int) × Int := shut (newbox_v key)
theorem newbox_e (key : List Int) : newbox_m key = newbox_v key := shut_eq _
theorem newbox_ok1 (key : List Int) : (newbox_m key).1.length = 32 ∧ By (newbox_m key).1 ∧ (newbox_m key).2.2.1.length ≤ 64 ∧ (newbox_m key).2.2.2.2.2.1.length ≤ 64 := by
 rw [newbox_e]
 refine ⟨?_, ?_, (newkey_len _).1, (newkey_len _).2⟩
 ·show ((derive0_64_m _ _).take 32).length = 32
  rw [List.length_take, derive0_64_len]; rfl
 ·exact By.take (derive0_64_by _ _) _
def c_newbox (key : List Int) : Con := ⟨[lb key], [], .tu (chain [.im (chain [lb ((newbox_m key).1), .im (chain [.im (chain [.ar .u32 8 ((newbox_m key).2.1), lb ((newbox_m key).2.2.1), .v (.int .u64 ((newbox_m key).2.2.2.1))]) 0, .im (chain [.ar .u32 8 ((newbox_m key).2.2.2.2.1), lb ((newbox_m key).2.2.2.2.2.1), .v (.int .u64 ((newbox_m key).2.2.2.2.2.2))]) 0]) 0]) 0, vi 0]), []⟩
theorem newbox_ok (key : List Int) (hk : key.length = 32) : ConOk Tryz.prog 82 (c_newbox key) := by
 refine conOk_of rfl (nb := 0) Tryz.func82 rfl rfl Tryz.ntmps82 rfl rfl rfl fun g0 w0 ac gs ws hg0 hS => ?_
 have hlen0 : key.length ≤ 9223372036854775807 := hS.len 0 rfl
 have hS := hS.sp
 have hk1 : ((key.length : Nat) : Int) = 32 := omm
 refine s0 [0, 2, 3] [] 0 hS fun hS => ?_
 refine wp_seq (sA [(2, .ob false)] trivial (fun _ => [(!decide (((key.length : Nat) : Int) = 32)) = false]) [0, 2, 3, 7] [] 0 ⟨by rw [decide_eq_true hk1]; rfl, trivial⟩ hS fun hS => ?_)
 refine cond_f hS ?_
 refine wp_skip (then_n (sA [(1, .own), (3, .call ⟨75, (c_derive0_64 key [115, 101, 97, 108]), [], []⟩)] ⟨derive0_64_ok _ _ lnn lnn, trivial⟩ (fun C => [0 < [115, 101, 97, 108].length, ndC C 3]) [2, 3, 4] [] 1 ⟨by decide, rfl, trivial⟩ hS fun hS => ?_))
 refine wp_seq ?_
 have hdl := derive0_64_len key [115, 101, 97, 108]
 refine rA [(4, .call ⟨85, (c_newkey ((derive0_64_m key [115, 101, 97, 108]).drop 32)), [], []⟩)] ⟨newkey_ok _ lnn, trivial⟩ (fun C => [bndP none (some 32) none (derive0_64_m key [115, 101, 97, 108]).length (derive0_64_m key [115, 101, 97, 108]).length, bndP (some 32) none none (derive0_64_m key [115, 101, 97, 108]).length (derive0_64_m key [115, 101, 97, 108]).length, ndC C 4]) [2, 3] [1] 2 ⟨⟨by simp only [nnI] <;> omega, by simp only [nnI] <;> omega, by simp only [nnI] <;> omega, by simp, by simp only [bl] <;> omega, by simp only [bl] <;> omega, by simp only [bl] <;> omega⟩, ⟨by simp only [nnI] <;> omega, by simp only [nnI] <;> omega, by simp only [nnI] <;> omega, by simp, by simp only [bl] <;> omega, by simp only [bl] <;> omega, by simp only [bl] <;> omega⟩, rfl, trivial⟩ hS fun hS => ?_
 obtain ⟨gs, hS⟩ := hS.im 1
 refine then_n (wp_ret ?_)
 have hM : newbox_m key = ((derive0_64_m key [115, 101, 97, 108]).take 32, (newkey_m ((derive0_64_m key [115, 101, 97, 108]).drop 32)).1, (newkey_m ((derive0_64_m key [115, 101, 97, 108]).drop 32)).2.1, ((newkey_m ((derive0_64_m key [115, 101, 97, 108]).drop 32)).2.2.1), (newkey_m ((derive0_64_m key [115, 101, 97, 108]).drop 32)).2.2.2.1, (newkey_m ((derive0_64_m key [115, 101, 97, 108]).drop 32)).2.2.2.2.1, ((newkey_m ((derive0_64_m key [115, 101, 97, 108]).drop 32)).2.2.2.2.2)) := newbox_e key
 exact fin_y rfl (.inr rfl) hS [.im (chain [lb ((derive0_64_m key [115, 101, 97, 108]).take 32), .im (chain [.im (chain [.ar .u32 8 ((newkey_m ((derive0_64_m key [115, 101, 97, 108]).drop 32)).1), lb ((newkey_m ((derive0_64_m key [115, 101, 97, 108]).drop 32)).2.1), .v (.int .u64 ((newkey_m ((derive0_64_m key [115, 101, 97, 108]).drop 32)).2.2.1))]) 0, .im (chain [.ar .u32 8 ((newkey_m ((derive0_64_m key [115, 101, 97, 108]).drop 32)).2.2.2.1), lb ((newkey_m ((derive0_64_m key [115, 101, 97, 108]).drop 32)).2.2.2.2.1), .v (.int .u64 ((newkey_m ((derive0_64_m key [115, 101, 97, 108]).drop 32)).2.2.2.2.2))]) 0]) 0]) 0, vi 0] [] (by show weak _ (.tu (chain [.im (chain [lb ((newbox_m key).1), .im (chain [.im (chain [.ar .u32 8 ((newbox_m key).2.1), lb ((newbox_m key).2.2.1), .v (.int .u64 ((newbox_m key).2.2.2.1))]) 0, .im (chain [.ar .u32 8 ((newbox_m key).2.2.2.2.1), lb ((newbox_m key).2.2.2.2.2.1), .v (.int .u64 ((newbox_m key).2.2.2.2.2.2))]) 0]) 0]) 0, vi 0])) = (.tu (chain [.im (chain [lb ((newbox_m key).1), .im (chain [.im (chain [.ar .u32 8 ((newbox_m key).2.1), lb ((newbox_m key).2.2.1), .v (.int .u64 ((newbox_m key).2.2.2.1))]) 0, .im (chain [.ar .u32 8 ((newbox_m key).2.2.2.2.1), lb ((newbox_m key).2.2.2.2.2.1), .v (.int .u64 ((newbox_m key).2.2.2.2.2.2))]) 0]) 0]) 0, vi 0])); rw [hM]; first | (simp only []; rfl) | (simp only []; done) | rfl) trivial

def bseal_v (k : List Int) (u1 : Nat → Int) (r1 : List Int) (n1 : Int) (u2 : Nat → Int) (r2 : List Int) (n2 : Int) (num : List Int) (data text : List Int) : (List Int) := (crypt_m k num text) ++ (stag_m k u1 r1 n1 u2 r2 n2 num data (crypt_m k num text))
def bseal_m (k : List Int) (u1 : Nat → Int) (r1 : List Int) (n1 : Int) (u2 : Nat → Int) (r2 : List Int) (n2 : Int) (num : List Int) (data text : List Int) : (List Int) := shut (bseal_v k u1 r1 n1 u2 r2 n2 num data text)
theorem bseal_e (k : List Int) (u1 : Nat → Int) (r1 : List Int) (n1 : Int) (u2 : Nat → Int) (r2 : List Int) (n2 : Int) (num : List Int) (data text : List Int) : bseal_m k u1 r1 n1 u2 r2 n2 num data text = bseal_v k u1 r1 n1 u2 r2 n2 num data text := shut_eq _
def c_bseal (k : List Int) (u1 : Nat → Int) (r1 : List Int) (n1 : Int) (u2 : Nat → Int) (r2 : List Int) (n2 : Int) (num : List Int) (data text : List Int) : Con := ⟨[.im (chain [lb k, .im (chain [.im (chain [.ar .u32 8 u1, lb r1, .v (.int .u64 n1)]) 0, .im (chain [.ar .u32 8 u2, lb r2, .v (.int .u64 n2)]) 0]) 0]) 0, lb num, lb data, lb text], [], .tu (chain [lb (bseal_m k u1 r1 n1 u2 r2 n2 num data text), vi 0]), []⟩
theorem bseal_ok (k : List Int) (u1 : Nat → Int) (r1 : List Int) (n1 : Int) (u2 : Nat → Int) (r2 : List Int) (n2 : Int) (num : List Int) (data text : List Int) (hkl : k.length = 32) (hkb : By k) (hr1 : r1.length ≤ 64) (hr2 : r2.length ≤ 64) (hd : data.length ≤ 60000) (ht : text.length ≤ 60000) (hn : num.length = 12) : ConOk Tryz.prog 83 (c_bseal k u1 r1 n1 u2 r2 n2 num data text) := by
 refine conOk_of rfl (nb := 0) Tryz.func83 rfl rfl Tryz.ntmps83 rfl rfl rfl fun g0 w0 ac gs ws hg0 hS => ?_
 have hlen1 : num.length ≤ 9223372036854775807 := hS.len 1 rfl
 have hlen2 : data.length ≤ 9223372036854775807 := hS.len 2 rfl
 have hlen3 : text.length ≤ 9223372036854775807 := hS.len 3 rfl
 have hS := hS.sp
 refine s0 [0, 1, 2, 3, 8, 9] [] 0 hS fun hS => ?_
 refine wp_seq (sA [(4, .call ⟨118, (c_smay65536 k u1 r1 n1 u2 r2 n2 num data text), [], []⟩)] ⟨smay65536_ok _ _ _ _ _ _ _ _ _ _ lnn lnn lnn, trivial⟩ (fun C => [ndC C 4]) [0, 1, 2, 3, 8, 9, 10] [] 0 ⟨rfl, trivial⟩ hS fun hS => ?_)
 refine s0 [0, 1, 2, 3, 8, 9, 10, 19] [] 0 hS fun hS => ?_
 refine cond_f hS ?_
 refine wp_skip (then_n (sA [(6, .call ⟨119, (c_crypt k num text), [], [(0, 0)]⟩)] ⟨crypt_ok _ _ _ lnn asm lnn lnn, trivial⟩ (fun C => [ndC C 6]) [0, 1, 2, 8, 9, 11] [0] 1 ⟨rfl, trivial⟩ hS fun hS => ?_))
 refine wp_seq ?_
 have hcl := crypt_len k num text
 refine rA [(5, .call ⟨120, (c_stagl k u1 r1 n1 u2 r2 n2 num data (crypt_m k num text)), [(1, 0)], [(0, 1)]⟩)] ⟨stagl_ok _ _ _ _ _ _ _ _ _ _ hr1 hr2 lnn (by rw [crypt_len]; exact ht) lnn, trivial⟩ (fun C => [ndC C 5, (crypt_m k num text).length + (stag_m k u1 r1 n1 u2 r2 n2 num data (crypt_m k num text)).length ≤ 9223372036854775807, ((crypt_m k num text).length + (stag_m k u1 r1 n1 u2 r2 n2 num data (crypt_m k num text)).length) * 1 ≤ 140737488355328]) [8, 9] [2] 3 ⟨rfl, by (first | omega | (simp only [crypt_len, stag_len]; omega)), by (first | omega | (simp only [crypt_len, stag_len]; omega)), trivial⟩ hS fun hS => ?_
 refine then_n (wp_ret ?_)
 have hM : bseal_m k u1 r1 n1 u2 r2 n2 num data text = (crypt_m k num text) ++ (stag_m k u1 r1 n1 u2 r2 n2 num data (crypt_m k num text)) := bseal_e k u1 r1 n1 u2 r2 n2 num data text
 obtain ⟨gs, hS⟩ := hS.fz 2
 exact fin_y rfl (.inr rfl) hS [lb ((crypt_m k num text) ++ (stag_m k u1 r1 n1 u2 r2 n2 num data (crypt_m k num text))), vi 0] [] (by show weak _ (.tu (chain [lb (bseal_m k u1 r1 n1 u2 r2 n2 num data text), vi 0])) = (.tu (chain [lb (bseal_m k u1 r1 n1 u2 r2 n2 num data text), vi 0])); rw [hM]; first | (simp only []; rfl) | (simp only []; done) | rfl) trivial

def seal_v (key num : List Int) (data text : List Int) : (List Int) := bseal_m ((newbox_m key).1) ((newbox_m key).2.1) ((newbox_m key).2.2.1) ((newbox_m key).2.2.2.1) ((newbox_m key).2.2.2.2.1) ((newbox_m key).2.2.2.2.2.1) ((newbox_m key).2.2.2.2.2.2) num data text
def seal_m (key num : List Int) (data text : List Int) : (List Int) := shut (seal_v key num data text)
theorem seal_e (key num : List Int) (data text : List Int) : seal_m key num data text = seal_v key num data text := shut_eq _
def c_seal (key num : List Int) (data text : List Int) : Con := ⟨[lb key, lb num, lb data, lb text], [], .tu (chain [lb (seal_m key num data text), vi 0]), []⟩
theorem seal_ok (key num : List Int) (data text : List Int) (hk : key.length = 32) (hd : data.length ≤ 60000) (ht : text.length ≤ 60000) (hn : num.length = 12) : ConOk Tryz.prog 50 (c_seal key num data text) := by
 refine conOk_of rfl (nb := 0) Tryz.func50 rfl rfl Tryz.ntmps50 rfl rfl rfl fun g0 w0 ac gs ws hg0 hS => ?_
 have hlen0 : key.length ≤ 9223372036854775807 := hS.len 0 rfl
 have hlen1 : num.length ≤ 9223372036854775807 := hS.len 1 rfl
 have hlen2 : data.length ≤ 9223372036854775807 := hS.len 2 rfl
 have hlen3 : text.length ≤ 9223372036854775807 := hS.len 3 rfl
 have hS := hS.sp
 refine s0 [0, 1, 2, 3, 8, 9] [] 0 hS fun hS => ?_
 refine sA [(1, .call ⟨82, (c_newbox key), [], []⟩)] ⟨newbox_ok _ lnn, trivial⟩ (fun C => [ndC C 1]) [1, 2, 3, 8, 9, 10, 11] [] 0 ⟨rfl, trivial⟩ hS fun hS => ?_
 refine wp_seq (s0 [1, 2, 3, 8, 9, 10, 11, 18] [] 0 hS fun hS => ?_)
 refine cond_f hS ?_
 refine wp_skip (then_n (sA [(4, .call ⟨83, (c_bseal ((newbox_m key).1) ((newbox_m key).2.1) ((newbox_m key).2.2.1) ((newbox_m key).2.2.2.1) ((newbox_m key).2.2.2.2.1) ((newbox_m key).2.2.2.2.2.1) ((newbox_m key).2.2.2.2.2.2) num data text), [], []⟩)] ⟨bseal_ok _ _ _ _ _ _ _ _ _ _ (newbox_ok1 key).1 (newbox_ok1 key).2.1 (newbox_ok1 key).2.2.1 (newbox_ok1 key).2.2.2 lnn lnn lnn, trivial⟩ (fun C => [ndC C 4]) [8, 9] [] 0 ⟨rfl, trivial⟩ hS fun hS => ?_))
 refine wp_ret ?_
 have hM : seal_m key num data text = bseal_m ((newbox_m key).1) ((newbox_m key).2.1) ((newbox_m key).2.2.1) ((newbox_m key).2.2.2.1) ((newbox_m key).2.2.2.2.1) ((newbox_m key).2.2.2.2.2.1) ((newbox_m key).2.2.2.2.2.2) num data text := seal_e key num data text
 exact fin_y rfl (.inr rfl) hS [lb (bseal_m ((newbox_m key).1) ((newbox_m key).2.1) ((newbox_m key).2.2.1) ((newbox_m key).2.2.2.1) ((newbox_m key).2.2.2.2.1) ((newbox_m key).2.2.2.2.2.1) ((newbox_m key).2.2.2.2.2.2) num data text), vi 0] [] (by show weak _ (.tu (chain [lb (seal_m key num data text), vi 0])) = (.tu (chain [lb (seal_m key num data text), vi 0])); rw [hM]; first | (simp only []; rfl) | (simp only []; done) | rfl) trivial

def bopen_v (k : List Int) (u1 : Nat → Int) (r1 : List Int) (n1 : Int) (u2 : Nat → Int) (r2 : List Int) (n2 : Int) (num : List Int) (data text : List Int) : (List Int) × Nat := if (((text.length : Nat) : Int) - 32) < 0 then ([], 2) else (if (stag_m k u1 r1 n1 u2 r2 n2 num data (text.take (Int.toNat (((text.length : Nat) : Int) - 32)))) = (text.drop (Int.toNat (((text.length : Nat) : Int) - 32))) then (crypt_m k num (text.take (Int.toNat (((text.length : Nat) : Int) - 32))), 0) else ([], 2))
def bopen_m (k : List Int) (u1 : Nat → Int) (r1 : List Int) (n1 : Int) (u2 : Nat → Int) (r2 : List Int) (n2 : Int) (num : List Int) (data text : List Int) : (List Int) × Nat := shut (bopen_v k u1 r1 n1 u2 r2 n2 num data text)
theorem bopen_e (k : List Int) (u1 : Nat → Int) (r1 : List Int) (n1 : Int) (u2 : Nat → Int) (r2 : List Int) (n2 : Int) (num : List Int) (data text : List Int) : bopen_m k u1 r1 n1 u2 r2 n2 num data text = bopen_v k u1 r1 n1 u2 r2 n2 num data text := shut_eq _
def c_bopen (k : List Int) (u1 : Nat → Int) (r1 : List Int) (n1 : Int) (u2 : Nat → Int) (r2 : List Int) (n2 : Int) (num : List Int) (data text : List Int) : Con := ⟨[.im (chain [lb k, .im (chain [.im (chain [.ar .u32 8 u1, lb r1, .v (.int .u64 n1)]) 0, .im (chain [.ar .u32 8 u2, lb r2, .v (.int .u64 n2)]) 0]) 0]) 0, lb num, lb data, lb text], [], .tu (chain [lb ((bopen_m k u1 r1 n1 u2 r2 n2 num data text).1), vi (((bopen_m k u1 r1 n1 u2 r2 n2 num data text).2 : Nat) : Int)]), []⟩
theorem bopen_ok (k : List Int) (u1 : Nat → Int) (r1 : List Int) (n1 : Int) (u2 : Nat → Int) (r2 : List Int) (n2 : Int) (num : List Int) (data text : List Int) (hkl : k.length = 32) (hkb : By k) (hr1 : r1.length ≤ 64) (hr2 : r2.length ≤ 64) (hd : data.length ≤ 60000) (ht : text.length ≤ 60000) (hn : num.length = 12) : ConOk Tryz.prog 104 (c_bopen k u1 r1 n1 u2 r2 n2 num data text) := by
 refine conOk_of rfl (nb := 0) Tryz.func104 rfl rfl Tryz.ntmps104 rfl rfl rfl fun g0 w0 ac gs ws hg0 hS => ?_
 have hlen1 : num.length ≤ 9223372036854775807 := hS.len 1 rfl
 have hlen2 : data.length ≤ 9223372036854775807 := hS.len 2 rfl
 have hlen3 : text.length ≤ 9223372036854775807 := hS.len 3 rfl
 have hS := hS.sp
 refine s0 [0, 1, 2, 3, 8, 9] [] 0 hS fun hS => ?_
 refine wp_seq (sA [(4, .call ⟨118, (c_smay65568 k u1 r1 n1 u2 r2 n2 num data text), [], []⟩)] ⟨smay65568_ok _ _ _ _ _ _ _ _ _ _ lnn lnn lnn, trivial⟩ (fun C => [ndC C 4]) [0, 1, 2, 3, 8, 9, 10] [] 0 ⟨rfl, trivial⟩ hS fun hS => ?_)
 refine s0 [0, 1, 2, 3, 8, 9, 10, 18] [] 0 hS fun hS => ?_
 refine cond_f hS ?_
 refine wp_skip (then_n (sA [(2, .oi (((text.length : Nat) : Int) - 32))] trivial (fun _ => [isub .i64 ((text.length : Nat) : Int) 32 = (((text.length : Nat) : Int) - 32)]) [0, 1, 2, 3, 8, 9, 11] [] 0 ⟨isub64 omm omm, trivial⟩ hS fun hS => ?_))
 refine wp_seq (wp_seq ?_)
 by_cases h1 : (((text.length : Nat) : Int) - 32) < 0
 ·refine rA [(1, .ob true)] trivial (fun _ => [(decide ((((text.length : Nat) : Int) - 32) < 0)) = true]) [0, 1, 3, 8, 9, 11, 38] [] 0 ⟨decide_eq_true h1, trivial⟩ hS fun hS => ?_
  refine then_n (cond_t hS ?_)
  refine s0 [0, 1, 3, 8, 9, 11] [] 0 hS fun hS => ?_
  refine wp_ret (then_ret ?_)
  have hM : bopen_m k u1 r1 n1 u2 r2 n2 num data text = ([], 2) := (bopen_e k u1 r1 n1 u2 r2 n2 num data text).trans (if_pos h1)
  have hS := hS.wk 8 (lb [])
  exact fin_y rfl (.inr rfl) hS [lb [], vi 2] [] (by show weak _ (.tu (chain [lb ((bopen_m k u1 r1 n1 u2 r2 n2 num data text).1), vi (((bopen_m k u1 r1 n1 u2 r2 n2 num data text).2 : Nat) : Int)])) = (.tu (chain [lb ((bopen_m k u1 r1 n1 u2 r2 n2 num data text).1), vi (((bopen_m k u1 r1 n1 u2 r2 n2 num data text).2 : Nat) : Int)])); rw [hM]; first | (simp only []; rfl) | (simp only []; done) | rfl) trivial
 ·refine rA [(1, .ob false), (9, .call ⟨120, (c_stagf k u1 r1 n1 u2 r2 n2 num data (text.take (Int.toNat (((text.length : Nat) : Int) - 32)))), [], []⟩), (13, .call ⟨37, (c_equal (stag_m k u1 r1 n1 u2 r2 n2 num data (text.take (Int.toNat (((text.length : Nat) : Int) - 32)))) (text.drop (Int.toNat (((text.length : Nat) : Int) - 32)))), [], []⟩)] ⟨stagf_ok _ _ _ _ _ _ _ _ _ _ hr1 hr2 lnn lnn lnn, equal_ok _ _, trivial⟩ (fun C => [(decide ((((text.length : Nat) : Int) - 32) < 0)) = false, bndP none (some (((text.length : Nat) : Int) - 32)) none text.length text.length, ndC C 9, bndP (some (((text.length : Nat) : Int) - 32)) none none text.length text.length, ndC C 13]) [0, 1, 3, 8, 9, 11, 38] [] 0 ⟨decide_eq_false h1, ⟨by simp only [nnI] <;> omega, by simp only [nnI] <;> omega, by simp only [nnI] <;> omega, by simp, by simp only [bl] <;> omega, by simp only [bl] <;> omega, by simp only [bl] <;> omega⟩, rfl, ⟨by simp only [nnI] <;> omega, by simp only [nnI] <;> omega, by simp only [nnI] <;> omega, by simp, by simp only [bl] <;> omega, by simp only [bl] <;> omega, by simp only [bl] <;> omega⟩, rfl, trivial⟩ hS fun hS => ?_
  refine then_n ?_
  refine if_n ((stag_m k u1 r1 n1 u2 r2 n2 num data (text.take (Int.toNat (((text.length : Nat) : Int) - 32)))) = (text.drop (Int.toNat (((text.length : Nat) : Int) - 32)))) hS (fun h2 => ?_) (fun h2 => ?_)
  ·refine s0 [0, 1, 3, 8, 9, 11] [] 0 hS fun hS => ?_
   refine wp_ret (then_ret ?_)
   have hM : bopen_m k u1 r1 n1 u2 r2 n2 num data text = ([], 2) := (bopen_e k u1 r1 n1 u2 r2 n2 num data text).trans ((if_neg h1).trans (if_neg h2))
   have hS := hS.wk 8 (lb [])
   exact fin_y rfl (.inr rfl) hS [lb [], vi 2] [] (by show weak _ (.tu (chain [lb ((bopen_m k u1 r1 n1 u2 r2 n2 num data text).1), vi (((bopen_m k u1 r1 n1 u2 r2 n2 num data text).2 : Nat) : Int)])) = (.tu (chain [lb ((bopen_m k u1 r1 n1 u2 r2 n2 num data text).1), vi (((bopen_m k u1 r1 n1 u2 r2 n2 num data text).2 : Nat) : Int)])); rw [hM]; first | (simp only []; rfl) | (simp only []; done) | rfl) trivial
  ·refine wp_skip (then_n (sA [(8, .call ⟨119, (c_crypt k num (text.take (Int.toNat (((text.length : Nat) : Int) - 32)))), [], [(0, 0)]⟩)] ⟨crypt_ok _ _ _ lnn asm lnn lnn, trivial⟩ (fun C => [bndP none (some (((text.length : Nat) : Int) - 32)) none text.length text.length, ndC C 8]) [8, 9] [0] 1 ⟨⟨by simp only [nnI] <;> omega, by simp only [nnI] <;> omega, by simp only [nnI] <;> omega, by simp, by simp only [bl] <;> omega, by simp only [bl] <;> omega, by simp only [bl] <;> omega⟩, rfl, trivial⟩ hS fun hS => ?_))
   refine wp_ret ?_
   have hM : bopen_m k u1 r1 n1 u2 r2 n2 num data text = (crypt_m k num (text.take (Int.toNat (((text.length : Nat) : Int) - 32))), 0) := (bopen_e k u1 r1 n1 u2 r2 n2 num data text).trans ((if_neg h1).trans (if_pos h2))
   obtain ⟨gs, hS⟩ := hS.fz 0
   exact fin_y rfl (.inr rfl) hS [lb (crypt_m k num (text.take (Int.toNat (((text.length : Nat) : Int) - 32)))), vi 0] [] (by show weak _ (.tu (chain [lb ((bopen_m k u1 r1 n1 u2 r2 n2 num data text).1), vi (((bopen_m k u1 r1 n1 u2 r2 n2 num data text).2 : Nat) : Int)])) = (.tu (chain [lb ((bopen_m k u1 r1 n1 u2 r2 n2 num data text).1), vi (((bopen_m k u1 r1 n1 u2 r2 n2 num data text).2 : Nat) : Int)])); rw [hM]; first | (simp only []; rfl) | (simp only []; done) | rfl) trivial

def sopen_v (key num : List Int) (data text : List Int) : (List Int) × Nat := ((bopen_m ((newbox_m key).1) ((newbox_m key).2.1) ((newbox_m key).2.2.1) ((newbox_m key).2.2.2.1) ((newbox_m key).2.2.2.2.1) ((newbox_m key).2.2.2.2.2.1) ((newbox_m key).2.2.2.2.2.2) num data text).1, ((bopen_m ((newbox_m key).1) ((newbox_m key).2.1) ((newbox_m key).2.2.1) ((newbox_m key).2.2.2.1) ((newbox_m key).2.2.2.2.1) ((newbox_m key).2.2.2.2.2.1) ((newbox_m key).2.2.2.2.2.2) num data text).2))
def sopen_m (key num : List Int) (data text : List Int) : (List Int) × Nat := shut (sopen_v key num data text)
theorem sopen_e (key num : List Int) (data text : List Int) : sopen_m key num data text = sopen_v key num data text := shut_eq _
def c_sopen (key num : List Int) (data text : List Int) : Con := ⟨[lb key, lb num, lb data, lb text], [], .tu (chain [lb ((sopen_m key num data text).1), vi (((sopen_m key num data text).2 : Nat) : Int)]), []⟩
theorem sopen_ok (key num : List Int) (data text : List Int) (hk : key.length = 32) (hd : data.length ≤ 60000) (ht : text.length ≤ 60000) (hn : num.length = 12) : ConOk Tryz.prog 69 (c_sopen key num data text) := by
 refine conOk_of rfl (nb := 0) Tryz.func69 rfl rfl Tryz.ntmps69 rfl rfl rfl fun g0 w0 ac gs ws hg0 hS => ?_
 have hlen0 : key.length ≤ 9223372036854775807 := hS.len 0 rfl
 have hlen1 : num.length ≤ 9223372036854775807 := hS.len 1 rfl
 have hlen2 : data.length ≤ 9223372036854775807 := hS.len 2 rfl
 have hlen3 : text.length ≤ 9223372036854775807 := hS.len 3 rfl
 have hS := hS.sp
 refine s0 [0, 1, 2, 3, 8, 9] [] 0 hS fun hS => ?_
 refine sA [(1, .call ⟨82, (c_newbox key), [], []⟩)] ⟨newbox_ok _ lnn, trivial⟩ (fun C => [ndC C 1]) [1, 2, 3, 8, 9, 10, 11] [] 0 ⟨rfl, trivial⟩ hS fun hS => ?_
 refine wp_seq (s0 [1, 2, 3, 8, 9, 10, 11, 18] [] 0 hS fun hS => ?_)
 refine cond_f hS ?_
 refine wp_skip (then_n (sA [(4, .call ⟨104, (c_bopen ((newbox_m key).1) ((newbox_m key).2.1) ((newbox_m key).2.2.1) ((newbox_m key).2.2.2.1) ((newbox_m key).2.2.2.2.1) ((newbox_m key).2.2.2.2.2.1) ((newbox_m key).2.2.2.2.2.2) num data text), [], []⟩)] ⟨bopen_ok _ _ _ _ _ _ _ _ _ _ (newbox_ok1 key).1 (newbox_ok1 key).2.1 (newbox_ok1 key).2.2.1 (newbox_ok1 key).2.2.2 lnn lnn lnn, trivial⟩ (fun C => [ndC C 4]) [8, 9] [] 0 ⟨rfl, trivial⟩ hS fun hS => ?_))
 refine wp_ret ?_
 have hM : sopen_m key num data text = ((bopen_m ((newbox_m key).1) ((newbox_m key).2.1) ((newbox_m key).2.2.1) ((newbox_m key).2.2.2.1) ((newbox_m key).2.2.2.2.1) ((newbox_m key).2.2.2.2.2.1) ((newbox_m key).2.2.2.2.2.2) num data text).1, ((bopen_m ((newbox_m key).1) ((newbox_m key).2.1) ((newbox_m key).2.2.1) ((newbox_m key).2.2.2.1) ((newbox_m key).2.2.2.2.1) ((newbox_m key).2.2.2.2.2.1) ((newbox_m key).2.2.2.2.2.2) num data text).2)) := sopen_e key num data text
 exact fin_y rfl (.inr rfl) hS [lb ((bopen_m ((newbox_m key).1) ((newbox_m key).2.1) ((newbox_m key).2.2.1) ((newbox_m key).2.2.2.1) ((newbox_m key).2.2.2.2.1) ((newbox_m key).2.2.2.2.2.1) ((newbox_m key).2.2.2.2.2.2) num data text).1), vi (((bopen_m ((newbox_m key).1) ((newbox_m key).2.1) ((newbox_m key).2.2.1) ((newbox_m key).2.2.2.1) ((newbox_m key).2.2.2.2.1) ((newbox_m key).2.2.2.2.2.1) ((newbox_m key).2.2.2.2.2.2) num data text).2 : Nat) : Int)] [] (by show weak _ (.tu (chain [lb ((sopen_m key num data text).1), vi (((sopen_m key num data text).2 : Nat) : Int)])) = (.tu (chain [lb ((sopen_m key num data text).1), vi (((sopen_m key num data text).2 : Nat) : Int)])); rw [hM]; first | (simp only []; rfl) | (simp only []; done) | rfl) trivial

end
end Go.Sx.Tryz
namespace Go.Sx.Tryz
open Go.Mi Go.RowKit Go.Sx Go.Proofs
noncomputable section
def nxt (key : List Int) : List Int := kmac_m ((newkey_m key).1) ((newkey_m key).2.1) ((newkey_m key).2.2.1) ((newkey_m key).2.2.2.1) ((newkey_m key).2.2.2.2.1) ((newkey_m key).2.2.2.2.2) [[2]]
def mky (key : List Int) : List Int := kmac_m ((newkey_m key).1) ((newkey_m key).2.1) ((newkey_m key).2.2.1) ((newkey_m key).2.2.2.1) ((newkey_m key).2.2.2.2.1) ((newkey_m key).2.2.2.2.2) [[1]]
@[simp] theorem nxt_len (key : List Int) : (nxt key).length = 32 := kmac_len ..
@[simp] theorem mky_len (key : List Int) : (mky key).length = 32 := kmac_len ..
def nxtN (key : List Int) : Nat → List Int
 | 0 => key
 | k + 1 => nxt (nxtN key k)
def skL (key : List Int) : Nat → List (List Int)
 | 0 => []
 | k + 1 => skL key k ++ [mky (nxtN key k)]
theorem nxtN_len {key : List Int} (h : key.length = 32) : ∀ k, (nxtN key k).length = 32
 | 0 => h
 | _ + 1 => nxt_len _
@[simp] theorem skL_len (key : List Int) : ∀ k, (skL key k).length = k
 | 0 => rfl
 | k + 1 => by rw [skL, List.length_append, skL_len key k]; rfl
def c_cnone (key : List Int) (i : Nat) : Con := ⟨[.cp 0 0], [(0, .ob 122 (chain [lb key, vi (i : Int)]))], .v (.bool false), [(0, .ob 122 (chain [lb key, vi (i : Int)]))]⟩
theorem cnone_ok (key : List Int) (i : Nat) (hk : key.length = 32) : ConOk Tryz.prog 84 (c_cnone key i) := by
 refine conOk_of rfl (nb := 1) Tryz.func84 rfl rfl Tryz.ntmps84 rfl rfl rfl fun g0 w0 ac gs ws hg0 hS => ?_
 have hS := hS.sp
 have hk0 : ¬ ((key.length : Nat) : Int) = 0 := omm
 refine s0 [0, 2] [0] 1 hS fun hS => ?_
 refine sA [(8, .ob false)] trivial (fun _ => [(decide (((key.length : Nat) : Int) = 0)) = false]) [2] [0] 1 ⟨decide_eq_false hk0, trivial⟩ hS fun hS => ?_
 refine wp_ret ?_
 exact fin_y rfl (.inr rfl) hS [.v (.bool false)] [(0, some (.ob 122 (chain [lb key, vi (i : Int)])))] rfl ⟨rfl, trivial⟩

def c_cat_ (key : List Int) (i : Nat) : Con := ⟨[lb key, vi (i : Int)], [], .tu (chain [.cp 0 0, vi 0]), [(0, .ob 122 (chain [lb key, vi (i : Int)]))]⟩
theorem cat__ok (key : List Int) (i : Nat) (hk : key.length = 32) : ConOk Tryz.prog 76 (c_cat_ key i) := by
 refine conOk_of rfl (nb := 0) Tryz.func76 rfl rfl Tryz.ntmps76 rfl rfl rfl fun g0 w0 ac gs ws hg0 hS => ?_
 have hlen0 : key.length ≤ 9223372036854775807 := hS.len 0 rfl
 have hS := hS.sp
 have hk32 : ((key.length : Nat) : Int) = 32 := omm
 refine s0 [0, 1, 4, 5] [] 0 hS fun hS => ?_
 refine wp_seq (sA [(2, .ob false), (5, .ob false)] trivial (fun _ => [(!decide (((key.length : Nat) : Int) = 32)) = false, (decide ((i : Int) < 0)) = false]) [0, 1, 4, 5, 12] [] 0 ⟨by rw [decide_eq_true hk32]; rfl, decide_eq_false omm, trivial⟩ hS fun hS => ?_)
 refine cond_f hS ?_
 refine wp_skip (then_n (sA [(1, .call ⟨81, (c_clone key), [], []⟩)] ⟨clone_ok _ lnn, trivial⟩ (fun C => [ndC C 1]) [4, 5] [0] 1 ⟨rfl, trivial⟩ hS fun hS => ?_))
 refine wp_ret ?_
 exact fin_y rfl (.inr rfl) hS [.cp 0 0, vi 0] [(0, some (.ob 122 (chain [lb key, vi (i : Int)])))] rfl ⟨rfl, trivial⟩

def c_cnew (key : List Int) : Con := ⟨[lb key], [], .tu (chain [.cp 0 0, vi 0]), [(0, .ob 122 (chain [lb key, vi 0]))]⟩
theorem cnew_ok (key : List Int) (hk : key.length = 32) : ConOk Tryz.prog 43 (c_cnew key) := by
 refine conOk_of rfl (nb := 0) Tryz.func43 rfl rfl Tryz.ntmps43 rfl rfl rfl fun g0 w0 ac gs ws hg0 hS => ?_
 have hlen0 : key.length ≤ 9223372036854775807 := hS.len 0 rfl
 have hS := hS.sp
 refine s0 [0, 2, 3] [] 0 hS fun hS => ?_
 refine sA [(1, .call ⟨76, (c_cat_ key 0), [], [(0, 0)]⟩)] ⟨cat__ok _ _ lnn, trivial⟩ (fun C => [ndC C 1]) [2, 3] [0] 1 ⟨rfl, trivial⟩ hS fun hS => ?_
 refine wp_ret ?_
 exact fin_y rfl (.inr rfl) hS [.cp 0 0, vi 0] [(0, some (.ob 122 (chain [lb key, vi 0])))] rfl ⟨rfl, trivial⟩

def c_cnext (key : List Int) (i : Nat) : Con := ⟨[.cp 0 0], [(0, .ob 122 (chain [lb key, vi (i : Int)]))], lb (mky key), [(0, .ob 122 (chain [lb (nxt key), vi ((i + 1 : Nat) : Int)]))]⟩
theorem cnext_ok (key : List Int) (i : Nat) (hk : key.length = 32) (hi : i ≤ 1000000000000) : ConOk Tryz.prog 52 (c_cnext key i) := by
 refine conOk_of rfl (nb := 1) Tryz.func52 rfl rfl Tryz.ntmps52 rfl rfl rfl fun g0 w0 ac gs ws hg0 hS => ?_
 have hS := hS.sp
 refine s0 [0, 2] [0] 1 hS fun hS => ?_
 refine wp_seq (sA [(1, .call ⟨84, (c_cnone key i), [(0, 0)], []⟩)] ⟨cnone_ok _ _ lnn, trivial⟩ (fun C => [ndC C 1]) [0, 2, 5] [0] 1 ⟨rfl, trivial⟩ hS fun hS => ?_)
 refine cond_f hS ?_
 refine wp_skip (then_n (sA [(4, .call ⟨85, (c_newkey key), [], []⟩)] ⟨newkey_ok _ lnn, trivial⟩ (fun C => [ndC C 4]) [0, 2, 3] [0] 1 ⟨rfl, trivial⟩ hS fun hS => ?_))
 refine sA [(4, .call ⟨86, (c_kmacf ((newkey_m key).1) ((newkey_m key).2.1) ((newkey_m key).2.2.1) ((newkey_m key).2.2.2.1) ((newkey_m key).2.2.2.2.1) ((newkey_m key).2.2.2.2.2) [[2]]), [], []⟩)] ⟨kmacf_ok _ _ _ _ _ _ _ (newkey_len key).1 (newkey_len key).2 (by simp), trivial⟩ (fun C => [ndC C 4]) [0, 2, 3] [0] 1 ⟨rfl, trivial⟩ hS fun hS => ?_
 refine sA [(4, .oi ((i + 1 : Nat) : Int))] trivial (fun _ => [iadd .i64 (i : Int) 1 = ((i + 1 : Nat) : Int)]) [2, 3] [0] 1 ⟨by rw [iadd64 omm omm]; omega, trivial⟩ hS fun hS => ?_
 refine sA [(3, .call ⟨86, (c_kmacf ((newkey_m key).1) ((newkey_m key).2.1) ((newkey_m key).2.2.1) ((newkey_m key).2.2.2.1) ((newkey_m key).2.2.2.2.1) ((newkey_m key).2.2.2.2.2) [[1]]), [], []⟩)] ⟨kmacf_ok _ _ _ _ _ _ _ (newkey_len key).1 (newkey_len key).2 (by simp), trivial⟩ (fun C => [ndC C 3]) [2] [0] 1 ⟨rfl, trivial⟩ hS fun hS => ?_
 refine wp_ret ?_
 exact fin_y rfl (.inr rfl) hS [lb (kmac_m ((newkey_m key).1) ((newkey_m key).2.1) ((newkey_m key).2.2.1) ((newkey_m key).2.2.2.1) ((newkey_m key).2.2.2.2.1) ((newkey_m key).2.2.2.2.2) [[1]])] [(0, some (.ob 122 (chain [lb (kmac_m ((newkey_m key).1) ((newkey_m key).2.1) ((newkey_m key).2.2.1) ((newkey_m key).2.2.2.1) ((newkey_m key).2.2.2.2.1) ((newkey_m key).2.2.2.2.2) [[2]]), vi ((i + 1 : Nat) : Int)])))] rfl ⟨rfl, trivial⟩

def cmay_v (key : List Int) (i k : Nat) : Nat := if (k : Int) < (i : Int) then 5 else (if ((i + 40 : Nat) : Int) < (k : Int) then 6 else 0)
def cmay_m (key : List Int) (i k : Nat) : Nat := shut (cmay_v key i k)
theorem cmay_e (key : List Int) (i k : Nat) : cmay_m key i k = cmay_v key i k := shut_eq _
def c_cmay (key : List Int) (i k : Nat) : Con := ⟨[.cp 0 0, vi (k : Int)], [(0, .ob 122 (chain [lb key, vi (i : Int)]))], vi ((cmay_m key i k : Nat) : Int), [(0, .ob 122 (chain [lb key, vi (i : Int)]))]⟩
theorem cmay_ok (key : List Int) (i k : Nat) (hk : key.length = 32) (hi : i ≤ 1000000000000) : ConOk Tryz.prog 140 (c_cmay key i k) := by
 refine conOk_of rfl (nb := 1) Tryz.func140 rfl rfl Tryz.ntmps140 rfl rfl rfl fun g0 w0 ac gs ws hg0 hS => ?_
 have hS := hS.sp
 refine s0 [0, 1, 4] [0] 1 hS fun hS => ?_
 refine wp_seq (wp_block (sA [(1, .call ⟨84, (c_cnone key i), [(0, 0)], []⟩)] ⟨cnone_ok _ _ lnn, trivial⟩ (fun C => [ndC C 1]) [0, 1, 4, 5] [0] 1 ⟨rfl, trivial⟩ hS fun hS => ?_))
 refine cond_f hS ?_
 refine s0 [0, 1, 4, 8] [0] 1 hS fun hS => ?_
 refine if_d ((k : Int) < (i : Int)) hS (fun h1 => ?_) (fun h1 => ?_)
 ·refine s0 [4] [0] 1 hS fun hS => ?_
  refine wp_ret (block_ret (then_ret ?_))
  have hM : cmay_m key i k = 5 := (cmay_e key i k).trans (if_pos h1)
  exact fin_y rfl (.inr rfl) hS [vi 5] [(0, some (.ob 122 (chain [lb key, vi (i : Int)])))] (by show weak _ (vi ((cmay_m key i k : Nat) : Int)) = (vi ((cmay_m key i k : Nat) : Int)); rw [hM]; first | (simp only []; rfl) | (simp only []; done) | rfl) ⟨rfl, trivial⟩
 ·refine sA [(5, .oi ((i + 40 : Nat) : Int))] trivial (fun _ => [iadd .i64 (i : Int) 40 = ((i + 40 : Nat) : Int)]) [4, 15] [0] 1 ⟨by rw [iadd64 omm omm]; omega, trivial⟩ hS fun hS => ?_
  refine if_d (((i + 40 : Nat) : Int) < (k : Int)) hS (fun h2 => ?_) (fun h2 => ?_)
  ·refine s0 [4] [0] 1 hS fun hS => ?_
   refine wp_ret (block_ret (then_ret ?_))
   have hM : cmay_m key i k = 6 := (cmay_e key i k).trans ((if_neg h1).trans (if_pos h2))
   exact fin_y rfl (.inr rfl) hS [vi 6] [(0, some (.ob 122 (chain [lb key, vi (i : Int)])))] (by show weak _ (vi ((cmay_m key i k : Nat) : Int)) = (vi ((cmay_m key i k : Nat) : Int)); rw [hM]; first | (simp only []; rfl) | (simp only []; done) | rfl) ⟨rfl, trivial⟩
  ·refine wp_skip (block_n (then_n (s0 [4] [0] 1 hS fun hS => ?_)))
   refine wp_ret ?_
   have hM : cmay_m key i k = 0 := (cmay_e key i k).trans ((if_neg h1).trans (if_neg h2))
   exact fin_y rfl (.inr rfl) hS [vi 0] [(0, some (.ob 122 (chain [lb key, vi (i : Int)])))] (by show weak _ (vi ((cmay_m key i k : Nat) : Int)) = (vi ((cmay_m key i k : Nat) : Int)); rw [hM]; first | (simp only []; rfl) | (simp only []; done) | rfl) ⟨rfl, trivial⟩

def c_ccopy (key : List Int) (i : Nat) : Con := ⟨[.cp 0 0], [(0, .ob 122 (chain [lb key, vi (i : Int)]))], .cp 1 0, [(0, .ob 122 (chain [lb key, vi (i : Int)])), (1, .ob 122 (chain [lb key, vi (i : Int)]))]⟩
theorem ccopy_ok (key : List Int) (i : Nat) (hk : key.length = 32) : ConOk Tryz.prog 61 (c_ccopy key i) := by
 refine conOk_of rfl (nb := 1) Tryz.func61 rfl rfl Tryz.ntmps61 rfl rfl rfl fun g0 w0 ac gs ws hg0 hS => ?_
 have hS := hS.sp
 refine s0 [0, 2] [0] 1 hS fun hS => ?_
 refine wp_seq (sA [(1, .call ⟨84, (c_cnone key i), [(0, 0)], []⟩)] ⟨cnone_ok _ _ lnn, trivial⟩ (fun C => [ndC C 1]) [0, 2, 4] [0] 1 ⟨rfl, trivial⟩ hS fun hS => ?_)
 refine cond_f hS ?_
 refine wp_skip (then_n (sA [(4, .call ⟨81, (c_clone key), [], []⟩)] ⟨clone_ok _ lnn, trivial⟩ (fun C => [ndC C 4]) [2] [0, 1] 2 ⟨rfl, trivial⟩ hS fun hS => ?_))
 refine wp_ret ?_
 exact fin_y rfl (.inr rfl) hS [.cp 1 0] [(0, some (.ob 122 (chain [lb key, vi (i : Int)]))), (1, some (.ob 122 (chain [lb key, vi (i : Int)])))] rfl ⟨rfl, rfl, trivial⟩

def c_cindex (key : List Int) (i : Nat) : Con := ⟨[.cp 0 0], [(0, .ob 122 (chain [lb key, vi (i : Int)]))], vi (i : Int), [(0, .ob 122 (chain [lb key, vi (i : Int)]))]⟩
theorem cindex_ok (key : List Int) (i : Nat) : ConOk Tryz.prog 40 (c_cindex key i) := by
 refine conOk_of rfl (nb := 1) Tryz.func40 rfl rfl Tryz.ntmps40 rfl rfl rfl fun g0 w0 ac gs ws hg0 hS => ?_
 have hS := hS.sp
 refine s0 [0, 2] [0] 1 hS fun hS => ?_
 refine wp_seq (s0 [0, 2, 4] [0] 1 hS fun hS => ?_)
 refine cond_f hS ?_
 refine wp_skip (then_n (s0 [2] [0] 1 hS fun hS => ?_))
 refine wp_ret ?_
 exact fin_y rfl (.inr rfl) hS [vi (i : Int)] [(0, some (.ob 122 (chain [lb key, vi (i : Int)])))] rfl ⟨rfl, trivial⟩

def c_ckey (key : List Int) (i : Nat) : Con := ⟨[.cp 0 0], [(0, .ob 122 (chain [lb key, vi (i : Int)]))], lb key, [(0, .ob 122 (chain [lb key, vi (i : Int)]))]⟩
theorem ckey_ok (key : List Int) (i : Nat) (hk : key.length = 32) : ConOk Tryz.prog 55 (c_ckey key i) := by
 refine conOk_of rfl (nb := 1) Tryz.func55 rfl rfl Tryz.ntmps55 rfl rfl rfl fun g0 w0 ac gs ws hg0 hS => ?_
 have hS := hS.sp
 refine s0 [0, 2] [0] 1 hS fun hS => ?_
 refine wp_seq (sA [(1, .call ⟨84, (c_cnone key i), [(0, 0)], []⟩)] ⟨cnone_ok _ _ lnn, trivial⟩ (fun C => [ndC C 1]) [0, 2, 4] [0] 1 ⟨rfl, trivial⟩ hS fun hS => ?_)
 refine cond_f hS ?_
 refine wp_skip (then_n (sA [(4, .call ⟨81, (c_clone key), [], []⟩)] ⟨clone_ok _ lnn, trivial⟩ (fun C => [ndC C 4]) [2] [0] 1 ⟨rfl, trivial⟩ hS fun hS => ?_))
 refine wp_ret ?_
 exact fin_y rfl (.inr rfl) hS [lb key] [(0, some (.ob 122 (chain [lb key, vi (i : Int)])))] rfl ⟨rfl, trivial⟩

end
end Go.Sx.Tryz
namespace Go.Sx.Tryz
open Go.Mi Go.RowKit Go.Sx Go.Proofs
noncomputable section
theorem cmay_y {key : List Int} {i k : Nat} (h1 : i ≤ k) (h2 : k ≤ i + 40) : cmay_m key i k = 0 := by
 rw [cmay_e]; unfold cmay_v
 rw [if_neg omm, if_neg omm]
theorem cmay_5 {key : List Int} {i k : Nat} (h1 : k < i) : cmay_m key i k = 5 := by
 rw [cmay_e]; unfold cmay_v
 rw [if_pos omm]
theorem cmay_6 {key : List Int} {i k : Nat} (h1 : i + 40 < k) : cmay_m key i k = 6 := by
 rw [cmay_e]; unfold cmay_v
 rw [if_neg omm, if_pos omm]
def c_cskip (key : List Int) (i to : Nat) : Con := ⟨[.cp 0 0, vi (to : Int)], [(0, .ob 122 (chain [lb key, vi (i : Int)]))], .tu (chain [.sk 1, vi 0]), [(0, .ob 122 (chain [lb (nxtN key (to - i)), vi (to : Int)])), (1, .sl 22 [.sl (.int .u8)] (skL key (to - i)))]⟩
theorem cskip_ok (key : List Int) (i to : Nat) (hk : key.length = 32) (hi : i ≤ 900000000000) (hm : i ≤ to ∧ to ≤ i + 40) : ConOk Tryz.prog 107 (c_cskip key i to) := by
 refine conOk_of rfl (nb := 1) Tryz.func107 rfl rfl Tryz.ntmps107 rfl rfl rfl fun g0 w0 ac gs ws hg0 hS => ?_
 have hS := hS.sp
 have hm0 : ((cmay_m key i to : Nat) : Int) = 0 := (by rw [cmay_y hm.1 hm.2]; rfl)
 refine s0 [0, 1, 4, 5] [0] 1 hS fun hS => ?_
 refine wp_seq (sA [(2, .call ⟨140, (c_cmay key i to), [(0, 0)], []⟩)] ⟨cmay_ok _ _ _ lnn omm, trivial⟩ (fun C => [ndC C 2]) [0, 1, 4, 5, 6] [0] 1 ⟨rfl, trivial⟩ hS fun hS => ?_)
 refine sA [(1, .ob false)] trivial (fun _ => [(!decide (((cmay_m key i to : Nat) : Int) = 0)) = false]) [0, 1, 4, 5, 6, 11] [0] 1 ⟨by rw [decide_eq_true hm0]; rfl, trivial⟩ hS fun hS => ?_
 refine cond_f hS ?_
 refine wp_skip (then_n (wp_seq (wp_block ?_)))
 obtain ⟨gs, hS⟩ := hS.nilk 4 22 [.sl (.int .u8)]
 refine loop_y (ι := Nat) hg0 hS (fun k => to - (i + k)) (fun k => [(0, .cp 0 0), (1, vi (to : Int)), (4, .sk 1), (5, vi 0)]) (fun k => [(0, .ob 122 (chain [lb (nxtN key k), vi ((i + k : Nat) : Int)])), (1, .sl 22 [.sl (.int .u8)] (skL key k))]) (fun k => (k ≤ to - i) ∧ True) 2 0 [(0, 0), (1, 1)] ⟨omm, trivial⟩ ?_
 rintro k ac gs ws ⟨hk2, _⟩ hS
 refine wp_seq (s0 [0, 1, 4, 5, 18] [0, 1] 2 hS fun hS => ?_)
 refine if_d (((i + k : Nat) : Int) < (to : Int)) hS (fun h1 => ?_) (fun h1 => ?_)
 ·refine wp_skip (then_n (wp_block ?_))
  have hnl := nxtN_len hk k
  refine rA [(2, .call ⟨52, (c_cnext (nxtN key k) (i + k)), [(0, 0)], []⟩)] ⟨cnext_ok _ _ lnn omm, trivial⟩ (fun C => [ndC C 2, (skL key k).length + [mky (nxtN key k)].length ≤ 9223372036854775807, ((skL key k).length + [mky (nxtN key k)].length) * 24 ≤ 140737488355328]) [0, 1, 4, 5] [0, 2] 3 ⟨rfl, by (simp only [skL_len, List.length_cons, List.length_nil]; omega), by (simp only [skL_len, List.length_cons, List.length_nil]; omega), trivial⟩ hS fun hS => ?_
  refine block_n (then_n ?_)
  exact next_y hg0 hS (s := (k)) (k + 1) [(0, 0), (1, 2)] (show to - (i + (k + 1)) < to - (i + k) from by omega) ⟨omm, trivial⟩
 ·have hScur := hS
  obtain rfl : (to - i) = k := Eq.symm omm
  have hS := hScur
  clear hScur
  refine wp_exit (then_exit (then_exit (block_exit (then_n (wp_seq (r0 [4, 5] [0, 1] 2 hS fun hS => ?_))))))
  have hS := hS.rv [(4, .sk 1), (5, vi 0)] [(0, some (.ob 122 (chain [lb (nxtN key (to - i)), vi ((i + (to - i) : Nat) : Int)]))), (1, some (.sl 22 [.sl (.int .u8)] (skL key (to - i))))]
  rw [show i + (to - i) = to by omega] at hS
  have hS := hS.sp
  refine then_n (wp_ret ?_)
  exact fin_y rfl (.inr rfl) hS [.sk 1, vi 0] [(0, some (.ob 122 (chain [lb (nxtN key (to - i)), vi (to : Int)]))), (1, some (.sl 22 [.sl (.int .u8)] (skL key (to - i))))] rfl ⟨rfl, rfl, trivial⟩

def c_chat (key : List Int) (i to : Nat) : Con := ⟨[.cp 0 0, vi (to : Int)], [(0, .ob 122 (chain [lb key, vi (i : Int)]))], .tu (chain [lb (mky (nxtN key (to - i))), vi 0]), [(0, .ob 122 (chain [lb key, vi (i : Int)]))]⟩
theorem chat_ok (key : List Int) (i to : Nat) (hk : key.length = 32) (hi : i ≤ 900000000000) (hm : i ≤ to ∧ to ≤ i + 40) : ConOk Tryz.prog 105 (c_chat key i to) := by
 refine conOk_of rfl (nb := 1) Tryz.func105 rfl rfl Tryz.ntmps105 rfl rfl rfl fun g0 w0 ac gs ws hg0 hS => ?_
 have hS := hS.sp
 have hm0 : ((cmay_m key i to : Nat) : Int) = 0 := (by rw [cmay_y hm.1 hm.2]; rfl)
 refine s0 [0, 1, 4, 5] [0] 1 hS fun hS => ?_
 refine wp_seq (sA [(2, .call ⟨140, (c_cmay key i to), [(0, 0)], []⟩)] ⟨cmay_ok _ _ _ lnn omm, trivial⟩ (fun C => [ndC C 2]) [0, 1, 4, 5, 6] [0] 1 ⟨rfl, trivial⟩ hS fun hS => ?_)
 refine sA [(1, .ob false)] trivial (fun _ => [(!decide (((cmay_m key i to : Nat) : Int) = 0)) = false]) [0, 1, 4, 5, 6, 12] [0] 1 ⟨by rw [decide_eq_true hm0]; rfl, trivial⟩ hS fun hS => ?_
 refine cond_f hS ?_
 refine wp_skip (then_n (sA [(1, .call ⟨61, (c_ccopy key i), [(0, 0)], [(1, 1)]⟩)] ⟨ccopy_ok _ _ lnn, trivial⟩ (fun C => [ndC C 1]) [1, 4, 5, 7] [0, 1] 2 ⟨rfl, trivial⟩ hS fun hS => ?_))
 refine sA [(2, .call ⟨107, (c_cskip key i to), [(0, 1)], [(1, 2)]⟩)] ⟨cskip_ok _ _ _ lnn omm omm, trivial⟩ (fun C => [ndC C 2]) [4, 5, 7] [0, 1] 3 ⟨rfl, trivial⟩ hS fun hS => ?_
 refine wp_seq ?_
 have hnl := nxtN_len hk (to - i)
 refine rA [(1, .call ⟨52, (c_cnext (nxtN key (to - i)) to), [(0, 1)], []⟩)] ⟨cnext_ok _ _ lnn omm, trivial⟩ (fun C => [ndC C 1]) [4, 5] [0] 3 ⟨rfl, trivial⟩ hS fun hS => ?_
 refine then_n (wp_ret ?_)
 exact fin_y rfl (.inr rfl) hS [lb (mky (nxtN key (to - i))), vi 0] [(0, some (.ob 122 (chain [lb key, vi (i : Int)])))] rfl ⟨rfl, trivial⟩

def c_chatn (key : List Int) (i to : Nat) : Con := ⟨[.cp 0 0, vi (to : Int)], [(0, .ob 122 (chain [lb key, vi (i : Int)]))], .tu (chain [.v (.slice none 0 0), vi ((cmay_m key i to : Nat) : Int)]), [(0, .ob 122 (chain [lb key, vi (i : Int)]))]⟩
theorem chatn_ok (key : List Int) (i to : Nat) (hk : key.length = 32) (hi : i ≤ 900000000000) (hm : ¬ ((cmay_m key i to : Nat) : Int) = 0) : ConOk Tryz.prog 105 (c_chatn key i to) := by
 refine conOk_of rfl (nb := 1) Tryz.func105 rfl rfl Tryz.ntmps105 rfl rfl rfl fun g0 w0 ac gs ws hg0 hS => ?_
 have hS := hS.sp
 have hm : ¬ ((cmay_m key i to : Nat) : Int) = 0 := hm
 refine s0 [0, 1, 4, 5] [0] 1 hS fun hS => ?_
 refine wp_seq (sA [(2, .call ⟨140, (c_cmay key i to), [(0, 0)], []⟩)] ⟨cmay_ok _ _ _ lnn omm, trivial⟩ (fun C => [ndC C 2]) [0, 1, 4, 5, 6] [0] 1 ⟨rfl, trivial⟩ hS fun hS => ?_)
 refine sA [(1, .ob true)] trivial (fun _ => [(!decide (((cmay_m key i to : Nat) : Int) = 0)) = true]) [0, 1, 4, 5, 6, 12] [0] 1 ⟨by rw [decide_eq_false hm]; rfl, trivial⟩ hS fun hS => ?_
 refine cond_t hS ?_
 refine s0 [0, 1, 4, 5] [0] 1 hS fun hS => ?_
 refine wp_ret (then_ret ?_)
 exact fin_y rfl (.inr rfl) hS [.v (.slice none 0 0), vi ((cmay_m key i to : Nat) : Int)] [(0, some (.ob 122 (chain [lb key, vi (i : Int)])))] rfl ⟨rfl, trivial⟩

end
end Go.Sx.Tryz
namespace Go.Sx.Tryz
open Go.Mi Go.RowKit Go.Sx Go.Proofs
noncomputable section
def c_rec_r : Con := ⟨[.cp 0 0], [(0, .ob 44 (chain [vi 0]))], .tu (chain []), [(0, .ob 44 (chain [vi 0]))]⟩
theorem rec_r_ok : ConOkD Tryz.prog 88 .returning .returning (c_rec_r) := by
 refine conD_of rfl (nb := 1) (t0 := 4) (t1 := 1) Tryz.func88 rfl rfl Tryz.ntmps88 rfl rfl rfl rfl rfl rfl fun g0 w0 ac gs ws hg0 hS => ?_
 have hS := hS.sp
 refine sB [(1, .nn)] [] trivial (fun _ => []) [0, 1, 6] [0] 1 trivial hS fun hS => ?_
 refine cond_f hS ?_
 refine wp_skip ?_
 exact fin_y rfl (.inl rfl) hS [] [(0, some (.ob 44 (chain [vi 0])))] rfl ⟨rfl, trivial⟩

def c_rec_p (n : Nat) : Con := ⟨[.cp 0 0], [(0, .ob 44 (chain [vi 0]))], .tu (chain []), [(0, .ob 44 (chain [vi (n : Int)]))]⟩
theorem rec_p_ok (n : Nat) (hn : 0 < n) : ConOkD Tryz.prog 88 (pnd (.iface 44 (.int .i64 (n : Int)))) (rcd (.iface 44 (.int .i64 (n : Int)))) (c_rec_p n) := by
 refine conD_of rfl (nb := 1) (t0 := 4) (t1 := 1) Tryz.func88 rfl rfl Tryz.ntmps88 rfl rfl rfl rfl rfl rfl fun g0 w0 ac gs ws hg0 hS => ?_
 have hS := hS.sp
 have hn0 : ¬ (n : Int) = 0 := omm
 refine s0 [0, 1, 6] [0] 1 hS fun hS => ?_
 refine cond_t hS ?_
 refine sB [(1, .ta)] [] trivial (fun _ => []) [0, 1, 2, 3] [0] 1 trivial hS fun hS => ?_
 refine wp_seq (sA [(4, .ob false)] trivial (fun _ => [(decide ((n : Int) = 0)) = false]) [0, 1, 2, 17] [0] 1 ⟨decide_eq_false hn0, trivial⟩ hS fun hS => ?_)
 refine cond_f hS ?_
 refine wp_skip (then_n (r0 [] [0] 1 hS fun hS => ?_))
 exact fin_y rfl (.inl rfl) hS [] [(0, some (.ob 44 (chain [vi (n : Int)])))] rfl ⟨rfl, trivial⟩

end
end Go.Sx.Tryz
