/- The largest of the programs is built, in parts (printed by a program). -/
import Derived.Test.YtghcggoodgfaoaaGreatDoorZAa
import Derived.Test.YtghcggoodgfaoaaGreatDoorZVb
set_option maxRecDepth 1000000
set_option linter.unusedVariables false
namespace Go.Proofs.YtghcggoodgfaoaaGreatDoor
open Go Go.RowKit
def tokC:List Value:=[(.int .i64 1),(.int .i64 0),(.string ⟨#[100,117,114,97,98,108,101]⟩),(.int .i64 0),(.int .i64 1),(.int .i64 8),(.string ⟨#[118]⟩),(.int .i64 0),(.int .i64 3),(.int .i64 9),(.string ⟨#[59]⟩),(.int .i64 0),(.int .i64 1),(.int .i64 11),(.string ⟨#[111,110]⟩),(.int .i64 0),(.int .i64 1),(.int .i64 14),(.string ⟨#[114,101,113,117,101,115,116]⟩),(.int .i64 0),(.int .i64 3),(.int .i64 22),(.string ⟨#[123]⟩),(.int .i64 0),(.int .i64 1),(.int .i64 24),(.string ⟨#[105,102]⟩),(.int .i64 0),(.int .i64 1),(.int .i64 27),(.string ⟨#[115,101,108,102]⟩),(.int .i64 0),(.int .i64 3),(.int .i64 32),(.string ⟨#[61,61]⟩),(.int .i64 0),(.int .i64 2),(.int .i64 35),(.string ⟨#[48]⟩),(.int .i64 0),(.int .i64 3),(.int .i64 37),(.string ⟨#[123]⟩),(.int .i64 0),(.int .i64 1),(.int .i64 39),(.string ⟨#[105,102]⟩),(.int .i64 0),(.int .i64 1),(.int .i64 42),(.string ⟨#[111,112]⟩),(.int .i64 0),(.int .i64 3),(.int .i64 45),(.string ⟨#[61,61]⟩),(.int .i64 0),(.int .i64 2),(.int .i64 48),(.string ⟨#[48]⟩),(.int .i64 0),(.int .i64 3),(.int .i64 50),(.string ⟨#[123]⟩),(.int .i64 0),(.int .i64 1),(.int .i64 52),(.string ⟨#[114,101,112,108,121]⟩),(.int .i64 0),(.int .i64 1),(.int .i64 58),(.string ⟨#[105,100]⟩),(.int .i64 0),(.int .i64 3),(.int .i64 60),(.string ⟨#[44]⟩),(.int .i64 0),(.int .i64 1),(.int .i64 62),(.string ⟨#[118]⟩),(.int .i64 0),(.int .i64 3),(.int .i64 63),(.string ⟨#[59]⟩),(.int .i64 0),(.int .i64 3),(.int .i64 65),(.string ⟨#[125]⟩),(.int .i64 0),(.int .i64 1),(.int .i64 67),(.string ⟨#[101,108,115,101]⟩),(.int .i64 0),(.int .i64 3),(.int .i64 72),(.string ⟨#[123]⟩),(.int .i64 0),(.int .i64 1),(.int .i64 74),(.string ⟨#[118]⟩),(.int .i64 0),(.int .i64 3),(.int .i64 76),(.string ⟨#[61]⟩),(.int .i64 0),(.int .i64 1),(.int .i64 78),(.string ⟨#[97]⟩),(.int .i64 0),(.int .i64 3),(.int .i64 79),(.string ⟨#[59]⟩),(.int .i64 0),(.int .i64 1),(.int .i64 81),(.string ⟨#[115,121,110,99]⟩),(.int .i64 0),(.int .i64 3),(.int .i64 85),(.string ⟨#[59]⟩),(.int .i64 0),(.int .i64 1),(.int .i64 87),(.string ⟨#[114,101,112,108,121]⟩),(.int .i64 0),(.int .i64 1),(.int .i64 93),(.string ⟨#[105,100]⟩),(.int .i64 0),(.int .i64 3),(.int .i64 95),(.string ⟨#[44]⟩),(.int .i64 0),(.int .i64 2),(.int .i64 97),(.string ⟨#[48]⟩),(.int .i64 0),(.int .i64 3),(.int .i64 98),(.string ⟨#[59]⟩),(.int .i64 0),(.int .i64 3),(.int .i64 100),(.string ⟨#[125]⟩),(.int .i64 0),(.int .i64 3),(.int .i64 102),(.string ⟨#[125]⟩),(.int .i64 0),(.int .i64 1),(.int .i64 104),(.string ⟨#[101,108,115,101]⟩),(.int .i64 0),(.int .i64 3),(.int .i64 109),(.string ⟨#[123]⟩),(.int .i64 0),(.int .i64 1),(.int .i64 111),(.string ⟨#[115,101,110,100]⟩),(.int .i64 0),(.int .i64 2),(.int .i64 116),(.string ⟨#[48]⟩),(.int .i64 0),(.int .i64 3),(.int .i64 117),(.string ⟨#[44]⟩),(.int .i64 0),(.int .i64 2),(.int .i64 119),(.string ⟨#[49]⟩),(.int .i64 1),(.int .i64 3),(.int .i64 121),(.string ⟨#[44]⟩),(.int .i64 0),(.int .i64 1),(.int .i64 123),(.string ⟨#[105,100]⟩),(.int .i64 0),(.int .i64 3),(.int .i64 125),(.string ⟨#[44]⟩),(.int .i64 0),(.int .i64 2),(.int .i64 127),(.string ⟨#[48]⟩),(.int .i64 0),(.int .i64 3),(.int .i64 129),(.string ⟨#[45]⟩),(.int .i64 0),(.int .i64 1),(.int .i64 131),(.string ⟨#[111,112]⟩),(.int .i64 0),(.int .i64 3),(.int .i64 133),(.string ⟨#[59]⟩),(.int .i64 0),(.int .i64 1),(.int .i64 135),(.string ⟨#[105,102]⟩),(.int .i64 0),(.int .i64 1),(.int .i64 138),(.string ⟨#[111,112]⟩),(.int .i64 0),(.int .i64 3),(.int .i64 141),(.string ⟨#[33,61]⟩),(.int .i64 0),(.int .i64 2),(.int .i64 144),(.string ⟨#[48]⟩),(.int .i64 0),(.int .i64 3),(.int .i64 146),(.string ⟨#[123]⟩),(.int .i64 0),(.int .i64 1),(.int .i64 148),(.string ⟨#[115,101,110,100]⟩),(.int .i64 0),(.int .i64 2),(.int .i64 153),(.string ⟨#[48]⟩),(.int .i64 0),(.int .i64 3),(.int .i64 154),(.string ⟨#[44]⟩),(.int .i64 0),(.int .i64 2),(.int .i64 156),(.string ⟨#[50]⟩),(.int .i64 2),(.int .i64 3),(.int .i64 157),(.string ⟨#[44]⟩),(.int .i64 0),(.int .i64 1),(.int .i64 159),(.string ⟨#[105,100]⟩),(.int .i64 0),(.int .i64 3),(.int .i64 161),(.string ⟨#[44]⟩),(.int .i64 0),(.int .i64 1),(.int .i64 163),(.string ⟨#[97]⟩),(.int .i64 0),(.int .i64 3),(.int .i64 164),(.string ⟨#[59]⟩),(.int .i64 0),(.int .i64 3),(.int .i64 166),(.string ⟨#[125]⟩),(.int .i64 0),(.int .i64 3),(.int .i64 168),(.string ⟨#[125]⟩),(.int .i64 0),(.int .i64 3),(.int .i64 170),(.string ⟨#[125]⟩),(.int .i64 0),(.int .i64 1),(.int .i64 172),(.string ⟨#[111,110]⟩),(.int .i64 0),(.int .i64 1),(.int .i64 175),(.string ⟨#[109,101,115,115,97,103,101]⟩),(.int .i64 0),(.int .i64 2),(.int .i64 183),(.string ⟨#[49]⟩),(.int .i64 1),(.int .i64 3),(.int .i64 185),(.string ⟨#[123]⟩),(.int .i64 0),(.int .i64 1),(.int .i64 187),(.string ⟨#[105,102]⟩),(.int .i64 0),(.int .i64 1),(.int .i64 190),(.string ⟨#[98]⟩),(.int .i64 0),(.int .i64 3),(.int .i64 192),(.string ⟨#[61,61]⟩),(.int .i64 0),(.int .i64 2),(.int .i64 195),(.string ⟨#[48]⟩),(.int .i64 0),(.int .i64 3),(.int .i64 197),(.string ⟨#[123]⟩),(.int .i64 0),(.int .i64 1),(.int .i64 199),(.string ⟨#[115,101,110,100]⟩),(.int .i64 0),(.int .i64 1),(.int .i64 204),(.string ⟨#[102,114,111,109]⟩),(.int .i64 0),(.int .i64 3),(.int .i64 208),(.string ⟨#[44]⟩),(.int .i64 0),(.int .i64 2),(.int .i64 210),(.string ⟨#[51]⟩),(.int .i64 3),(.int .i64 3),(.int .i64 211),(.string ⟨#[44]⟩),(.int .i64 0),(.int .i64 1),(.int .i64 213),(.string ⟨#[97]⟩),(.int .i64 0),(.int .i64 3),(.int .i64 214),(.string ⟨#[44]⟩),(.int .i64 0),(.int .i64 1),(.int .i64 216),(.string ⟨#[118]⟩),(.int .i64 0),(.int .i64 3),(.int .i64 217),(.string ⟨#[59]⟩),(.int .i64 0),(.int .i64 3),(.int .i64 219),(.string ⟨#[125]⟩),(.int .i64 0),(.int .i64 3),(.int .i64 221),(.string ⟨#[125]⟩),(.int .i64 0),(.int .i64 1),(.int .i64 223),(.string ⟨#[111,110]⟩),(.int .i64 0),(.int .i64 1),(.int .i64 226),(.string ⟨#[109,101,115,115,97,103,101]⟩),(.int .i64 0),(.int .i64 2),(.int .i64 234),(.string ⟨#[50]⟩),(.int .i64 2),(.int .i64 3),(.int .i64 236),(.string ⟨#[123]⟩),(.int .i64 0),(.int .i64 1),(.int .i64 238),(.string ⟨#[118]⟩),(.int .i64 0),(.int .i64 3),(.int .i64 240),(.string ⟨#[61]⟩),(.int .i64 0),(.int .i64 1),(.int .i64 242),(.string ⟨#[98]⟩),(.int .i64 0),(.int .i64 3),(.int .i64 243),(.string ⟨#[59]⟩),(.int .i64 0),(.int .i64 1),(.int .i64 245),(.string ⟨#[115,121,110,99]⟩),(.int .i64 0),(.int .i64 3),(.int .i64 249),(.string ⟨#[59]⟩),(.int .i64 0),(.int .i64 1),(.int .i64 251),(.string ⟨#[115,101,110,100]⟩),(.int .i64 0),(.int .i64 1),(.int .i64 256),(.string ⟨#[102,114,111,109]⟩),(.int .i64 0),(.int .i64 3),(.int .i64 260),(.string ⟨#[44]⟩),(.int .i64 0),(.int .i64 2),(.int .i64 262),(.string ⟨#[51]⟩),(.int .i64 3),(.int .i64 3),(.int .i64 263),(.string ⟨#[44]⟩),(.int .i64 0),(.int .i64 1),(.int .i64 265),(.string ⟨#[97]⟩),(.int .i64 0),(.int .i64 3),(.int .i64 266),(.string ⟨#[44]⟩),(.int .i64 0),(.int .i64 2),(.int .i64 268),(.string ⟨#[48]⟩),(.int .i64 0),(.int .i64 3),(.int .i64 269),(.string ⟨#[59]⟩),(.int .i64 0),(.int .i64 3),(.int .i64 271),(.string ⟨#[125]⟩),(.int .i64 0),(.int .i64 1),(.int .i64 273),(.string ⟨#[111,110]⟩),(.int .i64 0),(.int .i64 1),(.int .i64 276),(.string ⟨#[109,101,115,115,97,103,101]⟩),(.int .i64 0),(.int .i64 2),(.int .i64 284),(.string ⟨#[51]⟩),(.int .i64 3),(.int .i64 3),(.int .i64 286),(.string ⟨#[123]⟩),(.int .i64 0),(.int .i64 1),(.int .i64 288),(.string ⟨#[114,101,112,108,121]⟩),(.int .i64 0),(.int .i64 1),(.int .i64 294),(.string ⟨#[97]⟩),(.int .i64 0),(.int .i64 3),(.int .i64 295),(.string ⟨#[44]⟩),(.int .i64 0),(.int .i64 1),(.int .i64 297),(.string ⟨#[98]⟩),(.int .i64 0),(.int .i64 3),(.int .i64 298),(.string ⟨#[59]⟩),(.int .i64 0),(.int .i64 3),(.int .i64 300),(.string ⟨#[125]⟩),(.int .i64 0),(.int .i64 0),(.int .i64 301),(.string ⟨#[]⟩),(.int .i64 0)]
theorem tok2:CloT Tryz.prog 67 [.string (srcB 2)] 118 tokC [.int .i64 0,.int .i64 0] 4:=@CloT.of Tryz.prog noPrim0 hmix kTab kTab_ok noPr noPr_ok 1000000 1000 _ _ _ _ _ _ (by kernel_rfl) (by kernel_rfl) rfl (by kernel_rfl)
abbrev D2 (i d:Int):Prop:=CloR Tryz.prog 78 58 (cvs srcC2) (cvs srcR2) [.int .i64 i] (.int .i64 d)
theorem d2 {i d:Int} (hk:∀ t z,kcall Tryz.prog kTab noPr 1000000 1000 (.func 78) (.agg (.slice (some ⟨0,0,none⟩) 58 58::cvs srcR2).toArray::[.int .i64 i]) (rowS (cvs srcC2) t z).heap 1 (fun u _ _=>eqW u (.int .i64 d))=true):D2 i d:=@CloR.of Tryz.prog noPrim0 hmix kTab kTab_ok noPr noPr_ok 1000000 1000 _ _ _ _ _ _ rfl (cvs_flat _) (cvs_flat _) rfl hk (fun h=>by simp [srcC2,cvs]at h)
theorem dep2_0:D2 0 0:=d2 fun t z=>by kernel_rfl
theorem dep2_1:D2 1 4:=d2 fun t z=>by kernel_rfl
theorem dep2_2:D2 2 0:=d2 fun t z=>by kernel_rfl
theorem dep2_3:D2 3 0:=d2 fun t z=>by kernel_rfl
theorem dep2_4:D2 4 0:=d2 fun t z=>by kernel_rfl
theorem dep2_5:D2 5 0:=d2 fun t z=>by kernel_rfl
theorem dep2_6:D2 6 0:=d2 fun t z=>by kernel_rfl
theorem dep2_7:D2 7 0:=d2 fun t z=>by kernel_rfl
theorem dep2_8:D2 8 0:=d2 fun t z=>by kernel_rfl
theorem dep2_9:D2 9 0:=d2 fun t z=>by kernel_rfl
theorem dep2_10:D2 10 0:=d2 fun t z=>by kernel_rfl
theorem dep2_11:D2 11 3:=d2 fun t z=>by kernel_rfl
theorem dep2_12:D2 12 3:=d2 fun t z=>by kernel_rfl
theorem dep2_13:D2 13 2:=d2 fun t z=>by kernel_rfl
theorem dep2_14:D2 14 0:=d2 fun t z=>by kernel_rfl
theorem dep2_15:D2 15 0:=d2 fun t z=>by kernel_rfl
theorem dep2_16:D2 16 0:=d2 fun t z=>by kernel_rfl
theorem dep2_17:D2 17 0:=d2 fun t z=>by kernel_rfl
theorem dep2_18:D2 18 0:=d2 fun t z=>by kernel_rfl
theorem dep2_19:D2 19 0:=d2 fun t z=>by kernel_rfl
theorem dep2_20:D2 20 0:=d2 fun t z=>by kernel_rfl
theorem dep2_21:D2 21 0:=d2 fun t z=>by kernel_rfl
theorem dep2_22:D2 22 0:=d2 fun t z=>by kernel_rfl
theorem dep2_23:D2 23 0:=d2 fun t z=>by kernel_rfl
theorem dep2_24:D2 24 0:=d2 fun t z=>by kernel_rfl
theorem dep2_25:D2 25 0:=d2 fun t z=>by kernel_rfl
theorem dep2_26:D2 26 0:=d2 fun t z=>by kernel_rfl
theorem dep2_27:D2 27 0:=d2 fun t z=>by kernel_rfl
theorem dep2_28:D2 28 0:=d2 fun t z=>by kernel_rfl
theorem dep2_29:D2 29 0:=d2 fun t z=>by kernel_rfl
theorem dep2_30:D2 30 0:=d2 fun t z=>by kernel_rfl
theorem dep2_31:D2 31 0:=d2 fun t z=>by kernel_rfl
theorem dep2_32:D2 32 0:=d2 fun t z=>by kernel_rfl
theorem dep2_33:D2 33 0:=d2 fun t z=>by kernel_rfl
theorem dep2_34:D2 34 0:=d2 fun t z=>by kernel_rfl
theorem dep2_35:D2 35 0:=d2 fun t z=>by kernel_rfl
theorem dep2_36:D2 36 0:=d2 fun t z=>by kernel_rfl
theorem dep2_37:D2 37 0:=d2 fun t z=>by kernel_rfl
theorem dep2_38:D2 38 0:=d2 fun t z=>by kernel_rfl
theorem dep2_39:D2 39 0:=d2 fun t z=>by kernel_rfl
def depT:List (List Value × Value):=[([.int .i64 0],.int .i64 0),([.int .i64 1],.int .i64 4),([.int .i64 2],.int .i64 0),([.int .i64 3],.int .i64 0),([.int .i64 4],.int .i64 0),([.int .i64 5],.int .i64 0),([.int .i64 6],.int .i64 0),([.int .i64 7],.int .i64 0),([.int .i64 8],.int .i64 0),([.int .i64 9],.int .i64 0),([.int .i64 10],.int .i64 0),([.int .i64 11],.int .i64 3),([.int .i64 12],.int .i64 3),([.int .i64 13],.int .i64 2),([.int .i64 14],.int .i64 0),([.int .i64 15],.int .i64 0),([.int .i64 16],.int .i64 0),([.int .i64 17],.int .i64 0),([.int .i64 18],.int .i64 0),([.int .i64 19],.int .i64 0),([.int .i64 20],.int .i64 0),([.int .i64 21],.int .i64 0),([.int .i64 22],.int .i64 0),([.int .i64 23],.int .i64 0),([.int .i64 24],.int .i64 0),([.int .i64 25],.int .i64 0),([.int .i64 26],.int .i64 0),([.int .i64 27],.int .i64 0),([.int .i64 28],.int .i64 0),([.int .i64 29],.int .i64 0),([.int .i64 30],.int .i64 0),([.int .i64 31],.int .i64 0),([.int .i64 32],.int .i64 0),([.int .i64 33],.int .i64 0),([.int .i64 34],.int .i64 0),([.int .i64 35],.int .i64 0),([.int .i64 36],.int .i64 0),([.int .i64 37],.int .i64 0),([.int .i64 38],.int .i64 0),([.int .i64 39],.int .i64 0)]
def ce2:List CE:=ceT 67 [.string (srcB 2)] 118 tokC [.int .i64 0,.int .i64 0] 4 0::ceRs 78 58 (cvs srcC2) (cvs srcR2) depT
theorem ce2_good:∀ e∈ce2,e.Good Tryz.prog:=fun e he=>by
 simp only [ce2,ceRs,depT,List.map_cons,List.map_nil,List.mem_cons,List.not_mem_nil,or_false]at he
 rcases he with rfl | rfl | rfl | rfl | rfl | rfl | rfl | rfl | rfl | rfl | rfl | rfl | rfl | rfl | rfl | rfl | rfl | rfl | rfl | rfl | rfl | rfl | rfl | rfl | rfl | rfl | rfl | rfl | rfl | rfl | rfl | rfl | rfl | rfl | rfl | rfl | rfl | rfl | rfl | rfl | rfl
 ·exact tok2.good 0
 ·exact dep2_0.good
 ·exact dep2_1.good
 ·exact dep2_2.good
 ·exact dep2_3.good
 ·exact dep2_4.good
 ·exact dep2_5.good
 ·exact dep2_6.good
 ·exact dep2_7.good
 ·exact dep2_8.good
 ·exact dep2_9.good
 ·exact dep2_10.good
 ·exact dep2_11.good
 ·exact dep2_12.good
 ·exact dep2_13.good
 ·exact dep2_14.good
 ·exact dep2_15.good
 ·exact dep2_16.good
 ·exact dep2_17.good
 ·exact dep2_18.good
 ·exact dep2_19.good
 ·exact dep2_20.good
 ·exact dep2_21.good
 ·exact dep2_22.good
 ·exact dep2_23.good
 ·exact dep2_24.good
 ·exact dep2_25.good
 ·exact dep2_26.good
 ·exact dep2_27.good
 ·exact dep2_28.good
 ·exact dep2_29.good
 ·exact dep2_30.good
 ·exact dep2_31.good
 ·exact dep2_32.good
 ·exact dep2_33.good
 ·exact dep2_34.good
 ·exact dep2_35.good
 ·exact dep2_36.good
 ·exact dep2_37.good
 ·exact dep2_38.good
 ·exact dep2_39.good
noncomputable def pr2:FuncId→List Value→Tr Blk→Nat→KV→Bool:=fun f l h nx k=>prT 67 [.string (srcB 2)] 118 tokC [.int .i64 0,.int .i64 0] 4 0 f l h nx k||prRs 78 58 (cvs srcC2) (cvs srcR2) depT f l h nx k
theorem pr2_ok:@KPrimOK Tryz.prog (primCE ce2 ce2_good) kTab2 pr2:=@prOr_ok Tryz.prog (primCE ce2 ce2_good) kTab2 _ _
 (prT_ok ce2_good (List.mem_cons_self ..) (fun e he hf=>by
  rcases List.mem_cons.1 he with rfl | he
  ·rfl
  ·obtain ⟨p,_,rfl⟩:=List.mem_map.1 he
   exact absurd hf (by show ¬ ((78:Nat)=67);decide)) kTab2)
 (prRs_ok ce2_good (fun e he=>List.mem_cons_of_mem _ he) (fun e he hf=>by
  rcases List.mem_cons.1 he with rfl | he
  ·exact absurd hf (by show ¬ ((67:Nat)=78);decide)
  ·exact he) (uniq_of (by kernel_rfl)) kTab2)
theorem bld2:BldOK (srcB 2) (srcC 2) (srcR 2) (srcN 2):=@CloG.of Tryz.prog (primCE ce2 ce2_good) hmix kTab2 kTab2_ok pr2 pr2_ok 1000000 1000 _ _ _ _ _ _ _ rfl (cvs_flat _) (cvs_flat _) rfl (by kernel_rfl)
theorem ver2:VerOK (srcC 2) (srcR 2) (srcN 2):=.of (fun t z=>by kernel_rfl) (fun h=>by simp [srcC,srcC2,cvs]at h)
end Go.Proofs.YtghcggoodgfaoaaGreatDoor
