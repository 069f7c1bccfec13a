/- The largest of the programs is built, in parts (printed by a program). -/
import Derived.Test.YtkkpchcniicimaaGreatZAa
import Derived.Test.YtkkpchcniicimaaGreatZCa
set_option linter.all false
set_option maxRecDepth 1000000
namespace Go.Proofs.YtkkpchcniicimaaGreat
open Go Go.RowKit
def yJ:List Value:=[(.int .i64 1),(.int .i64 0),(.string ⟨#[100,117,114,97,98,108,101]⟩),(.int .i64 0),(.int .i64 1),(.int .i64 8),(.string ⟨#[118]⟩),(.int .i64 0),(.int .i64 3),(.int .i64 9),(.string ⟨#[59]⟩),(.int .i64 0),(.int .i64 1),(.int .i64 11),(.string ⟨#[111,110]⟩),(.int .i64 0),(.int .i64 1),(.int .i64 14),(.string ⟨#[114,101,113,117,101,115,116]⟩),(.int .i64 0),(.int .i64 3),(.int .i64 22),(.string ⟨#[123]⟩),(.int .i64 0),(.int .i64 1),(.int .i64 24),(.string ⟨#[105,102]⟩),(.int .i64 0),(.int .i64 1),(.int .i64 27),(.string ⟨#[115,101,108,102]⟩),(.int .i64 0),(.int .i64 3),(.int .i64 32),(.string ⟨#[61,61]⟩),(.int .i64 0),(.int .i64 2),(.int .i64 35),(.string ⟨#[48]⟩),(.int .i64 0),(.int .i64 3),(.int .i64 37),(.string ⟨#[123]⟩),(.int .i64 0),(.int .i64 1),(.int .i64 39),(.string ⟨#[105,102]⟩),(.int .i64 0),(.int .i64 1),(.int .i64 42),(.string ⟨#[111,112]⟩),(.int .i64 0),(.int .i64 3),(.int .i64 45),(.string ⟨#[61,61]⟩),(.int .i64 0),(.int .i64 2),(.int .i64 48),(.string ⟨#[48]⟩),(.int .i64 0),(.int .i64 3),(.int .i64 50),(.string ⟨#[123]⟩),(.int .i64 0),(.int .i64 1),(.int .i64 52),(.string ⟨#[114,101,112,108,121]⟩),(.int .i64 0),(.int .i64 1),(.int .i64 58),(.string ⟨#[105,100]⟩),(.int .i64 0),(.int .i64 3),(.int .i64 60),(.string ⟨#[44]⟩),(.int .i64 0),(.int .i64 1),(.int .i64 62),(.string ⟨#[118]⟩),(.int .i64 0),(.int .i64 3),(.int .i64 63),(.string ⟨#[59]⟩),(.int .i64 0),(.int .i64 3),(.int .i64 65),(.string ⟨#[125]⟩),(.int .i64 0),(.int .i64 1),(.int .i64 67),(.string ⟨#[101,108,115,101]⟩),(.int .i64 0),(.int .i64 3),(.int .i64 72),(.string ⟨#[123]⟩),(.int .i64 0),(.int .i64 1),(.int .i64 74),(.string ⟨#[118]⟩),(.int .i64 0),(.int .i64 3),(.int .i64 76),(.string ⟨#[61]⟩),(.int .i64 0),(.int .i64 1),(.int .i64 78),(.string ⟨#[97]⟩),(.int .i64 0),(.int .i64 3),(.int .i64 79),(.string ⟨#[59]⟩),(.int .i64 0),(.int .i64 1),(.int .i64 81),(.string ⟨#[115,121,110,99]⟩),(.int .i64 0),(.int .i64 3),(.int .i64 85),(.string ⟨#[59]⟩),(.int .i64 0),(.int .i64 1),(.int .i64 87),(.string ⟨#[114,101,112,108,121]⟩),(.int .i64 0),(.int .i64 1),(.int .i64 93),(.string ⟨#[105,100]⟩),(.int .i64 0),(.int .i64 3),(.int .i64 95),(.string ⟨#[44]⟩),(.int .i64 0),(.int .i64 2),(.int .i64 97),(.string ⟨#[48]⟩),(.int .i64 0),(.int .i64 3),(.int .i64 98),(.string ⟨#[59]⟩),(.int .i64 0),(.int .i64 3),(.int .i64 100),(.string ⟨#[125]⟩),(.int .i64 0),(.int .i64 3),(.int .i64 102),(.string ⟨#[125]⟩),(.int .i64 0),(.int .i64 1),(.int .i64 104),(.string ⟨#[101,108,115,101]⟩),(.int .i64 0),(.int .i64 3),(.int .i64 109),(.string ⟨#[123]⟩),(.int .i64 0),(.int .i64 1),(.int .i64 111),(.string ⟨#[115,101,110,100]⟩),(.int .i64 0),(.int .i64 2),(.int .i64 116),(.string ⟨#[48]⟩),(.int .i64 0),(.int .i64 3),(.int .i64 117),(.string ⟨#[44]⟩),(.int .i64 0),(.int .i64 2),(.int .i64 119),(.string ⟨#[49]⟩),(.int .i64 1),(.int .i64 3),(.int .i64 121),(.string ⟨#[44]⟩),(.int .i64 0),(.int .i64 1),(.int .i64 123),(.string ⟨#[105,100]⟩),(.int .i64 0),(.int .i64 3),(.int .i64 125),(.string ⟨#[44]⟩),(.int .i64 0),(.int .i64 2),(.int .i64 127),(.string ⟨#[48]⟩),(.int .i64 0),(.int .i64 3),(.int .i64 129),(.string ⟨#[45]⟩),(.int .i64 0),(.int .i64 1),(.int .i64 131),(.string ⟨#[111,112]⟩),(.int .i64 0),(.int .i64 3),(.int .i64 133),(.string ⟨#[59]⟩),(.int .i64 0),(.int .i64 1),(.int .i64 135),(.string ⟨#[105,102]⟩),(.int .i64 0),(.int .i64 1),(.int .i64 138),(.string ⟨#[111,112]⟩),(.int .i64 0),(.int .i64 3),(.int .i64 141),(.string ⟨#[33,61]⟩),(.int .i64 0),(.int .i64 2),(.int .i64 144),(.string ⟨#[48]⟩),(.int .i64 0),(.int .i64 3),(.int .i64 146),(.string ⟨#[123]⟩),(.int .i64 0),(.int .i64 1),(.int .i64 148),(.string ⟨#[115,101,110,100]⟩),(.int .i64 0),(.int .i64 2),(.int .i64 153),(.string ⟨#[48]⟩),(.int .i64 0),(.int .i64 3),(.int .i64 154),(.string ⟨#[44]⟩),(.int .i64 0),(.int .i64 2),(.int .i64 156),(.string ⟨#[50]⟩),(.int .i64 2),(.int .i64 3),(.int .i64 157),(.string ⟨#[44]⟩),(.int .i64 0),(.int .i64 1),(.int .i64 159),(.string ⟨#[105,100]⟩),(.int .i64 0),(.int .i64 3),(.int .i64 161),(.string ⟨#[44]⟩),(.int .i64 0),(.int .i64 1),(.int .i64 163),(.string ⟨#[97]⟩),(.int .i64 0),(.int .i64 3),(.int .i64 164),(.string ⟨#[59]⟩),(.int .i64 0),(.int .i64 3),(.int .i64 166),(.string ⟨#[125]⟩),(.int .i64 0),(.int .i64 3),(.int .i64 168),(.string ⟨#[125]⟩),(.int .i64 0),(.int .i64 3),(.int .i64 170),(.string ⟨#[125]⟩),(.int .i64 0),(.int .i64 1),(.int .i64 172),(.string ⟨#[111,110]⟩),(.int .i64 0),(.int .i64 1),(.int .i64 175),(.string ⟨#[109,101,115,115,97,103,101]⟩),(.int .i64 0),(.int .i64 2),(.int .i64 183),(.string ⟨#[49]⟩),(.int .i64 1),(.int .i64 3),(.int .i64 185),(.string ⟨#[123]⟩),(.int .i64 0),(.int .i64 1),(.int .i64 187),(.string ⟨#[105,102]⟩),(.int .i64 0),(.int .i64 1),(.int .i64 190),(.string ⟨#[98]⟩),(.int .i64 0),(.int .i64 3),(.int .i64 192),(.string ⟨#[61,61]⟩),(.int .i64 0),(.int .i64 2),(.int .i64 195),(.string ⟨#[48]⟩),(.int .i64 0),(.int .i64 3),(.int .i64 197),(.string ⟨#[123]⟩),(.int .i64 0),(.int .i64 1),(.int .i64 199),(.string ⟨#[115,101,110,100]⟩),(.int .i64 0),(.int .i64 1),(.int .i64 204),(.string ⟨#[102,114,111,109]⟩),(.int .i64 0),(.int .i64 3),(.int .i64 208),(.string ⟨#[44]⟩),(.int .i64 0),(.int .i64 2),(.int .i64 210),(.string ⟨#[51]⟩),(.int .i64 3),(.int .i64 3),(.int .i64 211),(.string ⟨#[44]⟩),(.int .i64 0),(.int .i64 1),(.int .i64 213),(.string ⟨#[97]⟩),(.int .i64 0),(.int .i64 3),(.int .i64 214),(.string ⟨#[44]⟩),(.int .i64 0),(.int .i64 1),(.int .i64 216),(.string ⟨#[118]⟩),(.int .i64 0),(.int .i64 3),(.int .i64 217),(.string ⟨#[59]⟩),(.int .i64 0),(.int .i64 3),(.int .i64 219),(.string ⟨#[125]⟩),(.int .i64 0),(.int .i64 3),(.int .i64 221),(.string ⟨#[125]⟩),(.int .i64 0),(.int .i64 1),(.int .i64 223),(.string ⟨#[111,110]⟩),(.int .i64 0),(.int .i64 1),(.int .i64 226),(.string ⟨#[109,101,115,115,97,103,101]⟩),(.int .i64 0),(.int .i64 2),(.int .i64 234),(.string ⟨#[50]⟩),(.int .i64 2),(.int .i64 3),(.int .i64 236),(.string ⟨#[123]⟩),(.int .i64 0),(.int .i64 1),(.int .i64 238),(.string ⟨#[118]⟩),(.int .i64 0),(.int .i64 3),(.int .i64 240),(.string ⟨#[61]⟩),(.int .i64 0),(.int .i64 1),(.int .i64 242),(.string ⟨#[98]⟩),(.int .i64 0),(.int .i64 3),(.int .i64 243),(.string ⟨#[59]⟩),(.int .i64 0),(.int .i64 1),(.int .i64 245),(.string ⟨#[115,121,110,99]⟩),(.int .i64 0),(.int .i64 3),(.int .i64 249),(.string ⟨#[59]⟩),(.int .i64 0),(.int .i64 1),(.int .i64 251),(.string ⟨#[115,101,110,100]⟩),(.int .i64 0),(.int .i64 1),(.int .i64 256),(.string ⟨#[102,114,111,109]⟩),(.int .i64 0),(.int .i64 3),(.int .i64 260),(.string ⟨#[44]⟩),(.int .i64 0),(.int .i64 2),(.int .i64 262),(.string ⟨#[51]⟩),(.int .i64 3),(.int .i64 3),(.int .i64 263),(.string ⟨#[44]⟩),(.int .i64 0),(.int .i64 1),(.int .i64 265),(.string ⟨#[97]⟩),(.int .i64 0),(.int .i64 3),(.int .i64 266),(.string ⟨#[44]⟩),(.int .i64 0),(.int .i64 2),(.int .i64 268),(.string ⟨#[48]⟩),(.int .i64 0),(.int .i64 3),(.int .i64 269),(.string ⟨#[59]⟩),(.int .i64 0),(.int .i64 3),(.int .i64 271),(.string ⟨#[125]⟩),(.int .i64 0),(.int .i64 1),(.int .i64 273),(.string ⟨#[111,110]⟩),(.int .i64 0),(.int .i64 1),(.int .i64 276),(.string ⟨#[109,101,115,115,97,103,101]⟩),(.int .i64 0),(.int .i64 2),(.int .i64 284),(.string ⟨#[51]⟩),(.int .i64 3),(.int .i64 3),(.int .i64 286),(.string ⟨#[123]⟩),(.int .i64 0),(.int .i64 1),(.int .i64 288),(.string ⟨#[114,101,112,108,121]⟩),(.int .i64 0),(.int .i64 1),(.int .i64 294),(.string ⟨#[97]⟩),(.int .i64 0),(.int .i64 3),(.int .i64 295),(.string ⟨#[44]⟩),(.int .i64 0),(.int .i64 1),(.int .i64 297),(.string ⟨#[98]⟩),(.int .i64 0),(.int .i64 3),(.int .i64 298),(.string ⟨#[59]⟩),(.int .i64 0),(.int .i64 3),(.int .i64 300),(.string ⟨#[125]⟩),(.int .i64 0),(.int .i64 0),(.int .i64 301),(.string ⟨#[]⟩),(.int .i64 0)]
theorem Ac7:jY Tryz.prog 41 [.string (Hv 2)] 118 yJ [.int .i64 0,.int .i64 0] 4:=@jY.of Tryz.prog EB GS Gl EE Gs ED 1000000 1000 _ _ _ _ _ _ af0 af0 rfl af0
theorem yK:E1 Tryz.prog 52 58 (EX Ew) (EX FD) [.int .i64 0] (.int .i64 0):=@E1.of Tryz.prog EB GS Gl EE Gs ED 1000000 1000 _ _ _ _ _ _ rfl (D3 _) (D3 _) rfl (λt z=>by kernel_rfl) (λh=>by simp[Ew,EX] at h)
theorem yM:E1 Tryz.prog 52 58 (EX Ew) (EX FD) [.int .i64 1] (.int .i64 4):=@E1.of Tryz.prog EB GS Gl EE Gs ED 1000000 1000 _ _ _ _ _ _ rfl (D3 _) (D3 _) rfl (λt z=>by kernel_rfl) (λh=>by simp[Ew,EX] at h)
theorem yO:E1 Tryz.prog 52 58 (EX Ew) (EX FD) [.int .i64 2] (.int .i64 0):=@E1.of Tryz.prog EB GS Gl EE Gs ED 1000000 1000 _ _ _ _ _ _ rfl (D3 _) (D3 _) rfl (λt z=>by kernel_rfl) (λh=>by simp[Ew,EX] at h)
theorem yP:E1 Tryz.prog 52 58 (EX Ew) (EX FD) [.int .i64 3] (.int .i64 0):=@E1.of Tryz.prog EB GS Gl EE Gs ED 1000000 1000 _ _ _ _ _ _ rfl (D3 _) (D3 _) rfl (λt z=>by kernel_rfl) (λh=>by simp[Ew,EX] at h)
theorem yQ:E1 Tryz.prog 52 58 (EX Ew) (EX FD) [.int .i64 4] (.int .i64 0):=@E1.of Tryz.prog EB GS Gl EE Gs ED 1000000 1000 _ _ _ _ _ _ rfl (D3 _) (D3 _) rfl (λt z=>by kernel_rfl) (λh=>by simp[Ew,EX] at h)
theorem yR:E1 Tryz.prog 52 58 (EX Ew) (EX FD) [.int .i64 5] (.int .i64 0):=@E1.of Tryz.prog EB GS Gl EE Gs ED 1000000 1000 _ _ _ _ _ _ rfl (D3 _) (D3 _) rfl (λt z=>by kernel_rfl) (λh=>by simp[Ew,EX] at h)
theorem yS:E1 Tryz.prog 52 58 (EX Ew) (EX FD) [.int .i64 6] (.int .i64 0):=@E1.of Tryz.prog EB GS Gl EE Gs ED 1000000 1000 _ _ _ _ _ _ rfl (D3 _) (D3 _) rfl (λt z=>by kernel_rfl) (λh=>by simp[Ew,EX] at h)
theorem yT:E1 Tryz.prog 52 58 (EX Ew) (EX FD) [.int .i64 7] (.int .i64 0):=@E1.of Tryz.prog EB GS Gl EE Gs ED 1000000 1000 _ _ _ _ _ _ rfl (D3 _) (D3 _) rfl (λt z=>by kernel_rfl) (λh=>by simp[Ew,EX] at h)
theorem yU:E1 Tryz.prog 52 58 (EX Ew) (EX FD) [.int .i64 8] (.int .i64 0):=@E1.of Tryz.prog EB GS Gl EE Gs ED 1000000 1000 _ _ _ _ _ _ rfl (D3 _) (D3 _) rfl (λt z=>by kernel_rfl) (λh=>by simp[Ew,EX] at h)
theorem yV:E1 Tryz.prog 52 58 (EX Ew) (EX FD) [.int .i64 9] (.int .i64 0):=@E1.of Tryz.prog EB GS Gl EE Gs ED 1000000 1000 _ _ _ _ _ _ rfl (D3 _) (D3 _) rfl (λt z=>by kernel_rfl) (λh=>by simp[Ew,EX] at h)
theorem tC:E1 Tryz.prog 52 58 (EX Ew) (EX FD) [.int .i64 10] (.int .i64 0):=@E1.of Tryz.prog EB GS Gl EE Gs ED 1000000 1000 _ _ _ _ _ _ rfl (D3 _) (D3 _) rfl (λt z=>by kernel_rfl) (λh=>by simp[Ew,EX] at h)
theorem tD:E1 Tryz.prog 52 58 (EX Ew) (EX FD) [.int .i64 11] (.int .i64 3):=@E1.of Tryz.prog EB GS Gl EE Gs ED 1000000 1000 _ _ _ _ _ _ rfl (D3 _) (D3 _) rfl (λt z=>by kernel_rfl) (λh=>by simp[Ew,EX] at h)
theorem tE:E1 Tryz.prog 52 58 (EX Ew) (EX FD) [.int .i64 12] (.int .i64 3):=@E1.of Tryz.prog EB GS Gl EE Gs ED 1000000 1000 _ _ _ _ _ _ rfl (D3 _) (D3 _) rfl (λt z=>by kernel_rfl) (λh=>by simp[Ew,EX] at h)
theorem tF:E1 Tryz.prog 52 58 (EX Ew) (EX FD) [.int .i64 13] (.int .i64 2):=@E1.of Tryz.prog EB GS Gl EE Gs ED 1000000 1000 _ _ _ _ _ _ rfl (D3 _) (D3 _) rfl (λt z=>by kernel_rfl) (λh=>by simp[Ew,EX] at h)
theorem tG:E1 Tryz.prog 52 58 (EX Ew) (EX FD) [.int .i64 14] (.int .i64 0):=@E1.of Tryz.prog EB GS Gl EE Gs ED 1000000 1000 _ _ _ _ _ _ rfl (D3 _) (D3 _) rfl (λt z=>by kernel_rfl) (λh=>by simp[Ew,EX] at h)
theorem tH:E1 Tryz.prog 52 58 (EX Ew) (EX FD) [.int .i64 15] (.int .i64 0):=@E1.of Tryz.prog EB GS Gl EE Gs ED 1000000 1000 _ _ _ _ _ _ rfl (D3 _) (D3 _) rfl (λt z=>by kernel_rfl) (λh=>by simp[Ew,EX] at h)
theorem tI:E1 Tryz.prog 52 58 (EX Ew) (EX FD) [.int .i64 16] (.int .i64 0):=@E1.of Tryz.prog EB GS Gl EE Gs ED 1000000 1000 _ _ _ _ _ _ rfl (D3 _) (D3 _) rfl (λt z=>by kernel_rfl) (λh=>by simp[Ew,EX] at h)
theorem tJ:E1 Tryz.prog 52 58 (EX Ew) (EX FD) [.int .i64 17] (.int .i64 0):=@E1.of Tryz.prog EB GS Gl EE Gs ED 1000000 1000 _ _ _ _ _ _ rfl (D3 _) (D3 _) rfl (λt z=>by kernel_rfl) (λh=>by simp[Ew,EX] at h)
theorem tK:E1 Tryz.prog 52 58 (EX Ew) (EX FD) [.int .i64 18] (.int .i64 0):=@E1.of Tryz.prog EB GS Gl EE Gs ED 1000000 1000 _ _ _ _ _ _ rfl (D3 _) (D3 _) rfl (λt z=>by kernel_rfl) (λh=>by simp[Ew,EX] at h)
theorem tM:E1 Tryz.prog 52 58 (EX Ew) (EX FD) [.int .i64 19] (.int .i64 0):=@E1.of Tryz.prog EB GS Gl EE Gs ED 1000000 1000 _ _ _ _ _ _ rfl (D3 _) (D3 _) rfl (λt z=>by kernel_rfl) (λh=>by simp[Ew,EX] at h)
theorem tO:E1 Tryz.prog 52 58 (EX Ew) (EX FD) [.int .i64 20] (.int .i64 0):=@E1.of Tryz.prog EB GS Gl EE Gs ED 1000000 1000 _ _ _ _ _ _ rfl (D3 _) (D3 _) rfl (λt z=>by kernel_rfl) (λh=>by simp[Ew,EX] at h)
theorem tP:E1 Tryz.prog 52 58 (EX Ew) (EX FD) [.int .i64 21] (.int .i64 0):=@E1.of Tryz.prog EB GS Gl EE Gs ED 1000000 1000 _ _ _ _ _ _ rfl (D3 _) (D3 _) rfl (λt z=>by kernel_rfl) (λh=>by simp[Ew,EX] at h)
theorem tQ:E1 Tryz.prog 52 58 (EX Ew) (EX FD) [.int .i64 22] (.int .i64 0):=@E1.of Tryz.prog EB GS Gl EE Gs ED 1000000 1000 _ _ _ _ _ _ rfl (D3 _) (D3 _) rfl (λt z=>by kernel_rfl) (λh=>by simp[Ew,EX] at h)
theorem tR:E1 Tryz.prog 52 58 (EX Ew) (EX FD) [.int .i64 23] (.int .i64 0):=@E1.of Tryz.prog EB GS Gl EE Gs ED 1000000 1000 _ _ _ _ _ _ rfl (D3 _) (D3 _) rfl (λt z=>by kernel_rfl) (λh=>by simp[Ew,EX] at h)
theorem tS:E1 Tryz.prog 52 58 (EX Ew) (EX FD) [.int .i64 24] (.int .i64 0):=@E1.of Tryz.prog EB GS Gl EE Gs ED 1000000 1000 _ _ _ _ _ _ rfl (D3 _) (D3 _) rfl (λt z=>by kernel_rfl) (λh=>by simp[Ew,EX] at h)
theorem tU:E1 Tryz.prog 52 58 (EX Ew) (EX FD) [.int .i64 25] (.int .i64 0):=@E1.of Tryz.prog EB GS Gl EE Gs ED 1000000 1000 _ _ _ _ _ _ rfl (D3 _) (D3 _) rfl (λt z=>by kernel_rfl) (λh=>by simp[Ew,EX] at h)
theorem tV:E1 Tryz.prog 52 58 (EX Ew) (EX FD) [.int .i64 26] (.int .i64 0):=@E1.of Tryz.prog EB GS Gl EE Gs ED 1000000 1000 _ _ _ _ _ _ rfl (D3 _) (D3 _) rfl (λt z=>by kernel_rfl) (λh=>by simp[Ew,EX] at h)
theorem tW:E1 Tryz.prog 52 58 (EX Ew) (EX FD) [.int .i64 27] (.int .i64 0):=@E1.of Tryz.prog EB GS Gl EE Gs ED 1000000 1000 _ _ _ _ _ _ rfl (D3 _) (D3 _) rfl (λt z=>by kernel_rfl) (λh=>by simp[Ew,EX] at h)
theorem tY:E1 Tryz.prog 52 58 (EX Ew) (EX FD) [.int .i64 28] (.int .i64 0):=@E1.of Tryz.prog EB GS Gl EE Gs ED 1000000 1000 _ _ _ _ _ _ rfl (D3 _) (D3 _) rfl (λt z=>by kernel_rfl) (λh=>by simp[Ew,EX] at h)
theorem tZ:E1 Tryz.prog 52 58 (EX Ew) (EX FD) [.int .i64 29] (.int .i64 0):=@E1.of Tryz.prog EB GS Gl EE Gs ED 1000000 1000 _ _ _ _ _ _ rfl (D3 _) (D3 _) rfl (λt z=>by kernel_rfl) (λh=>by simp[Ew,EX] at h)
theorem ua:E1 Tryz.prog 52 58 (EX Ew) (EX FD) [.int .i64 30] (.int .i64 0):=@E1.of Tryz.prog EB GS Gl EE Gs ED 1000000 1000 _ _ _ _ _ _ rfl (D3 _) (D3 _) rfl (λt z=>by kernel_rfl) (λh=>by simp[Ew,EX] at h)
theorem ub:E1 Tryz.prog 52 58 (EX Ew) (EX FD) [.int .i64 31] (.int .i64 0):=@E1.of Tryz.prog EB GS Gl EE Gs ED 1000000 1000 _ _ _ _ _ _ rfl (D3 _) (D3 _) rfl (λt z=>by kernel_rfl) (λh=>by simp[Ew,EX] at h)
theorem uc:E1 Tryz.prog 52 58 (EX Ew) (EX FD) [.int .i64 32] (.int .i64 0):=@E1.of Tryz.prog EB GS Gl EE Gs ED 1000000 1000 _ _ _ _ _ _ rfl (D3 _) (D3 _) rfl (λt z=>by kernel_rfl) (λh=>by simp[Ew,EX] at h)
theorem ud:E1 Tryz.prog 52 58 (EX Ew) (EX FD) [.int .i64 33] (.int .i64 0):=@E1.of Tryz.prog EB GS Gl EE Gs ED 1000000 1000 _ _ _ _ _ _ rfl (D3 _) (D3 _) rfl (λt z=>by kernel_rfl) (λh=>by simp[Ew,EX] at h)
theorem ue:E1 Tryz.prog 52 58 (EX Ew) (EX FD) [.int .i64 34] (.int .i64 0):=@E1.of Tryz.prog EB GS Gl EE Gs ED 1000000 1000 _ _ _ _ _ _ rfl (D3 _) (D3 _) rfl (λt z=>by kernel_rfl) (λh=>by simp[Ew,EX] at h)
theorem uf:E1 Tryz.prog 52 58 (EX Ew) (EX FD) [.int .i64 35] (.int .i64 0):=@E1.of Tryz.prog EB GS Gl EE Gs ED 1000000 1000 _ _ _ _ _ _ rfl (D3 _) (D3 _) rfl (λt z=>by kernel_rfl) (λh=>by simp[Ew,EX] at h)
theorem ug:E1 Tryz.prog 52 58 (EX Ew) (EX FD) [.int .i64 36] (.int .i64 0):=@E1.of Tryz.prog EB GS Gl EE Gs ED 1000000 1000 _ _ _ _ _ _ rfl (D3 _) (D3 _) rfl (λt z=>by kernel_rfl) (λh=>by simp[Ew,EX] at h)
theorem uh:E1 Tryz.prog 52 58 (EX Ew) (EX FD) [.int .i64 37] (.int .i64 0):=@E1.of Tryz.prog EB GS Gl EE Gs ED 1000000 1000 _ _ _ _ _ _ rfl (D3 _) (D3 _) rfl (λt z=>by kernel_rfl) (λh=>by simp[Ew,EX] at h)
theorem ui:E1 Tryz.prog 52 58 (EX Ew) (EX FD) [.int .i64 38] (.int .i64 0):=@E1.of Tryz.prog EB GS Gl EE Gs ED 1000000 1000 _ _ _ _ _ _ rfl (D3 _) (D3 _) rfl (λt z=>by kernel_rfl) (λh=>by simp[Ew,EX] at h)
theorem uj:E1 Tryz.prog 52 58 (EX Ew) (EX FD) [.int .i64 39] (.int .i64 0):=@E1.of Tryz.prog EB GS Gl EE Gs ED 1000000 1000 _ _ _ _ _ _ rfl (D3 _) (D3 _) rfl (λt z=>by kernel_rfl) (λh=>by simp[Ew,EX] at h)
def yX:List (List Value × Value):=[([.int .i64 0],.int .i64 0),([.int .i64 1],.int .i64 4),([.int .i64 2],.int .i64 0),([.int .i64 3],.int .i64 0),([.int .i64 4],.int .i64 0),([.int .i64 5],.int .i64 0),([.int .i64 6],.int .i64 0),([.int .i64 7],.int .i64 0),([.int .i64 8],.int .i64 0),([.int .i64 9],.int .i64 0),([.int .i64 10],.int .i64 0),([.int .i64 11],.int .i64 3),([.int .i64 12],.int .i64 3),([.int .i64 13],.int .i64 2),([.int .i64 14],.int .i64 0),([.int .i64 15],.int .i64 0),([.int .i64 16],.int .i64 0),([.int .i64 17],.int .i64 0),([.int .i64 18],.int .i64 0),([.int .i64 19],.int .i64 0),([.int .i64 20],.int .i64 0),([.int .i64 21],.int .i64 0),([.int .i64 22],.int .i64 0),([.int .i64 23],.int .i64 0),([.int .i64 24],.int .i64 0),([.int .i64 25],.int .i64 0),([.int .i64 26],.int .i64 0),([.int .i64 27],.int .i64 0),([.int .i64 28],.int .i64 0),([.int .i64 29],.int .i64 0),([.int .i64 30],.int .i64 0),([.int .i64 31],.int .i64 0),([.int .i64 32],.int .i64 0),([.int .i64 33],.int .i64 0),([.int .i64 34],.int .i64 0),([.int .i64 35],.int .i64 0),([.int .i64 36],.int .i64 0),([.int .i64 37],.int .i64 0),([.int .i64 38],.int .i64 0),([.int .i64 39],.int .i64 0)]
def ce2:List CE:=ceT 41 [.string (Hv 2)] 118 yJ [.int .i64 0,.int .i64 0] 4 0::um 52 58 (EX Ew) (EX FD) yX
theorem My:∀ e∈ce2,e.Good Tryz.prog:=λe he=>by
 simp only[ce2,um,yX,Au,AD,Aq,AK,or_false] at he;rcases he with rfl | rfl | rfl | rfl | rfl | rfl | rfl | rfl | rfl | rfl | rfl | rfl | rfl | rfl | rfl | rfl | rfl | rfl | rfl | rfl | rfl | rfl | rfl | rfl | rfl | rfl | rfl | rfl | rfl | rfl | rfl | rfl | rfl | rfl | rfl | rfl | rfl | rfl | rfl | rfl | rfl
 ·exact Ac7.F7 0
 ·exact yK.F7
 ·exact yM.F7
 ·exact yO.F7
 ·exact yP.F7
 ·exact yQ.F7
 ·exact yR.F7
 ·exact yS.F7
 ·exact yT.F7
 ·exact yU.F7
 ·exact yV.F7
 ·exact tC.F7
 ·exact tD.F7
 ·exact tE.F7
 ·exact tF.F7
 ·exact tG.F7
 ·exact tH.F7
 ·exact tI.F7
 ·exact tJ.F7
 ·exact tK.F7
 ·exact tM.F7
 ·exact tO.F7
 ·exact tP.F7
 ·exact tQ.F7
 ·exact tR.F7
 ·exact tS.F7
 ·exact tU.F7
 ·exact tV.F7
 ·exact tW.F7
 ·exact tY.F7
 ·exact tZ.F7
 ·exact ua.F7
 ·exact ub.F7
 ·exact uc.F7
 ·exact ud.F7
 ·exact ue.F7
 ·exact uf.F7
 ·exact ug.F7
 ·exact uh.F7
 ·exact ui.F7
 ·exact uj.F7
noncomputable def pr2:FuncId->List Value->Tr FH->Nat->KV->Bool:=λf l h nx k=>prT 41 [.string (Hv 2)] 118 yJ [.int .i64 0,.int .i64 0] 4 0 f l h nx k || yY 52 58 (EX Ew) (EX FD) yX f l h nx k
theorem yZ:@HI Tryz.prog (JF ce2 My) Ul pr2:=@uo Tryz.prog (JF ce2 My) Ul _ _
 (zb My (BP ..) (λe he hf=>by
  rcases Aq.1 he with rfl | he
  ·rfl
  ·obtain⟨p,_,rfl⟩:=AT.1 he
   exact absurd hf (by show ¬ ((52:Nat)=41);decide)) Ul)
 (ur My (λe he=>Bo _ he) (λe he hf=>by
  rcases Aq.1 he with rfl | he
  ·exact absurd hf (by show ¬ ((41:Nat)=52);decide)
  ·exact he) (uu af0) Ul)
theorem Ac9:Le (Hv 2) (Hd 2) (HX 2) (IG 2):=@Ms.of Tryz.prog (JF ce2 My) GS Ul nv pr2 yZ 1000000 1000 _ _ _ _ _ _ _ rfl (D3 _) (D3 _) rfl af0
theorem Ada:Kd (Hd 2) (HX 2) (IG 2):=.of (λt z=>by kernel_rfl) (λh=>by simp[Hd,Ew,EX] at h)
end Go.Proofs.YtkkpchcniicimaaGreat
