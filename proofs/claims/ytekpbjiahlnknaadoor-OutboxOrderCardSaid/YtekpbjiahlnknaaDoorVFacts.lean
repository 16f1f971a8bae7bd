/- Closed facts on the types and functions of the given program, each by the kernel. Its conditions: none. -/
import Derived.Test.YtekpbjiahlnknaaDoorProg
import Derived.Test.YtekpbjiahlnknaaDoorVHCong
namespace Go.Proofs.Tryd
open Go.H
set_option maxRecDepth 100000
@[go_sem] theorem hc0 : cellsT Tryd.prog 0 = some 1 := by kernel_rfl
@[go_sem] theorem hc1 : cellsT Tryd.prog 1 = some 1 := by kernel_rfl
@[go_sem] theorem hit1 : ((Tryd.prog.underlying 1).isSome && !itT Tryd.prog 1) = true := by kernel_rfl
@[go_sem] theorem hc2 : cellsT Tryd.prog 2 = some 1 := by kernel_rfl
@[go_sem] theorem hit2 : ((Tryd.prog.underlying 2).isSome && !itT Tryd.prog 2) = true := by kernel_rfl
@[go_sem] theorem hc3 : cellsT Tryd.prog 3 = some 1 := by kernel_rfl
@[go_sem] theorem hit3 : ((Tryd.prog.underlying 3).isSome && !itT Tryd.prog 3) = true := by kernel_rfl
@[go_sem] theorem hc4 : cellsT Tryd.prog 4 = some 1 := by kernel_rfl
@[go_sem] theorem hit4 : ((Tryd.prog.underlying 4).isSome && !itT Tryd.prog 4) = true := by kernel_rfl
@[go_sem] theorem hc5 : cellsT Tryd.prog 5 = some 1 := by kernel_rfl
@[go_sem] theorem hit5 : ((Tryd.prog.underlying 5).isSome && !itT Tryd.prog 5) = true := by kernel_rfl
@[go_sem] theorem hc6 : cellsT Tryd.prog 6 = some 1 := by kernel_rfl
@[go_sem] theorem hit6 : ((Tryd.prog.underlying 6).isSome && !itT Tryd.prog 6) = true := by kernel_rfl
@[go_sem] theorem hc7 : cellsT Tryd.prog 7 = some 4 := by kernel_rfl
@[go_sem] theorem hbb7 : buildB Tryd.prog 7 = true := by kernel_rfl
@[go_sem] theorem hpl7_0 : plT Tryd.prog 7 0 = some (0, 1) := by kernel_rfl
@[go_sem] theorem hpl7_1 : plT Tryd.prog 7 1 = some (1, 1) := by kernel_rfl
@[go_sem] theorem hpl7_2 : plT Tryd.prog 7 2 = some (2, 1) := by kernel_rfl
@[go_sem] theorem hpl7_3 : plT Tryd.prog 7 3 = some (3, 1) := by kernel_rfl
@[go_sem] theorem hf7_0 : fieldT Tryd.prog 7 0 = some (0, 2, false) := by kernel_rfl
@[go_sem] theorem hf7_1 : fieldT Tryd.prog 7 1 = some (1, 3, false) := by kernel_rfl
@[go_sem] theorem hf7_2 : fieldT Tryd.prog 7 2 = some (2, 4, false) := by kernel_rfl
@[go_sem] theorem hf7_3 : fieldT Tryd.prog 7 3 = some (3, 6, false) := by kernel_rfl
@[go_sem] theorem hit7 : ((Tryd.prog.underlying 7).isSome && !itT Tryd.prog 7) = true := by kernel_rfl
@[go_sem] theorem hc8 : cellsT Tryd.prog 8 = some 4 := by kernel_rfl
@[go_sem] theorem hbb8 : buildB Tryd.prog 8 = true := by kernel_rfl
@[go_sem] theorem hpl8_0 : plT Tryd.prog 8 0 = some (0, 1) := by kernel_rfl
@[go_sem] theorem hpl8_1 : plT Tryd.prog 8 1 = some (1, 1) := by kernel_rfl
@[go_sem] theorem hpl8_2 : plT Tryd.prog 8 2 = some (2, 1) := by kernel_rfl
@[go_sem] theorem hpl8_3 : plT Tryd.prog 8 3 = some (3, 1) := by kernel_rfl
@[go_sem] theorem hf8_0 : fieldT Tryd.prog 8 0 = some (0, 2, false) := by kernel_rfl
@[go_sem] theorem hf8_1 : fieldT Tryd.prog 8 1 = some (1, 3, false) := by kernel_rfl
@[go_sem] theorem hf8_2 : fieldT Tryd.prog 8 2 = some (2, 4, false) := by kernel_rfl
@[go_sem] theorem hf8_3 : fieldT Tryd.prog 8 3 = some (3, 6, false) := by kernel_rfl
@[go_sem] theorem hit8 : ((Tryd.prog.underlying 8).isSome && !itT Tryd.prog 8) = true := by kernel_rfl
@[go_sem] theorem hc9 : cellsT Tryd.prog 9 = some 1 := by kernel_rfl
@[go_sem] theorem hit9 : ((Tryd.prog.underlying 9).isSome && !itT Tryd.prog 9) = true := by kernel_rfl
@[go_sem] theorem hc12 : cellsT Tryd.prog 12 = some 1 := by kernel_rfl
@[go_sem] theorem hit12 : ((Tryd.prog.underlying 12).isSome && !itT Tryd.prog 12) = true := by kernel_rfl
@[go_sem] theorem hc17 : cellsT Tryd.prog 17 = some 1 := by kernel_rfl
@[go_sem] theorem hit17 : ((Tryd.prog.underlying 17).isSome && !itT Tryd.prog 17) = true := by kernel_rfl
@[go_sem] theorem hc20 : cellsT Tryd.prog 20 = some 1 := by kernel_rfl
@[go_sem] theorem hc21 : cellsT Tryd.prog 21 = some 1 := by kernel_rfl
@[go_sem] theorem hit21 : ((Tryd.prog.underlying 21).isSome && !itT Tryd.prog 21) = true := by kernel_rfl
@[go_sem] theorem hc22 : cellsT Tryd.prog 22 = some 1 := by kernel_rfl
@[go_sem] theorem hsl22 : slT Tryd.prog 22 = some 2 := by kernel_rfl
@[go_sem] theorem hel22 : elB Tryd.prog 22 = true := by kernel_rfl
@[go_sem] theorem hit22 : ((Tryd.prog.underlying 22).isSome && !itT Tryd.prog 22) = true := by kernel_rfl
@[go_sem] theorem hc24 : cellsT Tryd.prog 24 = some 1 := by kernel_rfl
@[go_sem] theorem hsl24 : slT Tryd.prog 24 = some 1 := by kernel_rfl
@[go_sem] theorem hel24 : elB Tryd.prog 24 = true := by kernel_rfl
@[go_sem] theorem hit24 : ((Tryd.prog.underlying 24).isSome && !itT Tryd.prog 24) = true := by kernel_rfl
@[go_sem] theorem hc25 : cellsT Tryd.prog 25 = some 2 := by kernel_rfl
@[go_sem] theorem hbb25 : buildB Tryd.prog 25 = true := by kernel_rfl
@[go_sem] theorem hpl25_0 : plT Tryd.prog 25 0 = some (0, 1) := by kernel_rfl
@[go_sem] theorem hpl25_1 : plT Tryd.prog 25 1 = some (1, 1) := by kernel_rfl
@[go_sem] theorem hf25_0 : fieldT Tryd.prog 25 0 = some (0, 5, false) := by kernel_rfl
@[go_sem] theorem hf25_1 : fieldT Tryd.prog 25 1 = some (1, 24, false) := by kernel_rfl
@[go_sem] theorem hit25 : ((Tryd.prog.underlying 25).isSome && !itT Tryd.prog 25) = true := by kernel_rfl
@[go_sem] theorem hc26 : cellsT Tryd.prog 26 = some 2 := by kernel_rfl
@[go_sem] theorem hbb26 : buildB Tryd.prog 26 = true := by kernel_rfl
@[go_sem] theorem hpl26_0 : plT Tryd.prog 26 0 = some (0, 1) := by kernel_rfl
@[go_sem] theorem hpl26_1 : plT Tryd.prog 26 1 = some (1, 1) := by kernel_rfl
@[go_sem] theorem hf26_0 : fieldT Tryd.prog 26 0 = some (0, 5, false) := by kernel_rfl
@[go_sem] theorem hf26_1 : fieldT Tryd.prog 26 1 = some (1, 24, false) := by kernel_rfl
@[go_sem] theorem hit26 : ((Tryd.prog.underlying 26).isSome && !itT Tryd.prog 26) = true := by kernel_rfl
@[go_sem] theorem hc27 : cellsT Tryd.prog 27 = some 1 := by kernel_rfl
@[go_sem] theorem hit27 : ((Tryd.prog.underlying 27).isSome && !itT Tryd.prog 27) = true := by kernel_rfl
@[go_sem] theorem hc28 : cellsT Tryd.prog 28 = some 1 := by kernel_rfl
@[go_sem] theorem hc29 : cellsT Tryd.prog 29 = some 1 := by kernel_rfl
@[go_sem] theorem hc30 : cellsT Tryd.prog 30 = some 1 := by kernel_rfl
@[go_sem] theorem hc33 : cellsT Tryd.prog 33 = some 3 := by kernel_rfl
@[go_sem] theorem hbb33 : buildB Tryd.prog 33 = true := by kernel_rfl
@[go_sem] theorem hpl33_0 : plT Tryd.prog 33 0 = some (0, 1) := by kernel_rfl
@[go_sem] theorem hpl33_1 : plT Tryd.prog 33 1 = some (1, 1) := by kernel_rfl
@[go_sem] theorem hpl33_2 : plT Tryd.prog 33 2 = some (2, 1) := by kernel_rfl
@[go_sem] theorem hf33_0 : fieldT Tryd.prog 33 0 = some (0, 24, false) := by kernel_rfl
@[go_sem] theorem hf33_1 : fieldT Tryd.prog 33 1 = some (1, 3, false) := by kernel_rfl
@[go_sem] theorem hf33_2 : fieldT Tryd.prog 33 2 = some (2, 29, false) := by kernel_rfl
@[go_sem] theorem hit33 : ((Tryd.prog.underlying 33).isSome && !itT Tryd.prog 33) = true := by kernel_rfl
@[go_sem] theorem hc34 : cellsT Tryd.prog 34 = some 3 := by kernel_rfl
@[go_sem] theorem hbb34 : buildB Tryd.prog 34 = true := by kernel_rfl
@[go_sem] theorem hpl34_0 : plT Tryd.prog 34 0 = some (0, 1) := by kernel_rfl
@[go_sem] theorem hpl34_1 : plT Tryd.prog 34 1 = some (1, 1) := by kernel_rfl
@[go_sem] theorem hpl34_2 : plT Tryd.prog 34 2 = some (2, 1) := by kernel_rfl
@[go_sem] theorem hf34_0 : fieldT Tryd.prog 34 0 = some (0, 24, false) := by kernel_rfl
@[go_sem] theorem hf34_1 : fieldT Tryd.prog 34 1 = some (1, 3, false) := by kernel_rfl
@[go_sem] theorem hf34_2 : fieldT Tryd.prog 34 2 = some (2, 29, false) := by kernel_rfl
@[go_sem] theorem hit34 : ((Tryd.prog.underlying 34).isSome && !itT Tryd.prog 34) = true := by kernel_rfl
@[go_sem] theorem hc37 : cellsT Tryd.prog 37 = some 1 := by kernel_rfl
@[go_sem] theorem hc40 : cellsT Tryd.prog 40 = some 1 := by kernel_rfl
@[go_sem] theorem hit40 : ((Tryd.prog.underlying 40).isSome && !itT Tryd.prog 40) = true := by kernel_rfl
@[go_sem] theorem hc42 : cellsT Tryd.prog 42 = some 2 := by kernel_rfl
@[go_sem] theorem hbb42 : buildB Tryd.prog 42 = true := by kernel_rfl
@[go_sem] theorem hpl42_0 : plT Tryd.prog 42 0 = some (0, 1) := by kernel_rfl
@[go_sem] theorem hpl42_1 : plT Tryd.prog 42 1 = some (1, 1) := by kernel_rfl
@[go_sem] theorem hf42_0 : fieldT Tryd.prog 42 0 = some (0, 2, false) := by kernel_rfl
@[go_sem] theorem hf42_1 : fieldT Tryd.prog 42 1 = some (1, 2, false) := by kernel_rfl
@[go_sem] theorem hit42 : ((Tryd.prog.underlying 42).isSome && !itT Tryd.prog 42) = true := by kernel_rfl
@[go_sem] theorem hc43 : cellsT Tryd.prog 43 = some 2 := by kernel_rfl
@[go_sem] theorem hbb43 : buildB Tryd.prog 43 = true := by kernel_rfl
@[go_sem] theorem hpl43_0 : plT Tryd.prog 43 0 = some (0, 1) := by kernel_rfl
@[go_sem] theorem hpl43_1 : plT Tryd.prog 43 1 = some (1, 1) := by kernel_rfl
@[go_sem] theorem hf43_0 : fieldT Tryd.prog 43 0 = some (0, 2, false) := by kernel_rfl
@[go_sem] theorem hf43_1 : fieldT Tryd.prog 43 1 = some (1, 2, false) := by kernel_rfl
@[go_sem] theorem hit43 : ((Tryd.prog.underlying 43).isSome && !itT Tryd.prog 43) = true := by kernel_rfl
@[go_sem] theorem hc44 : cellsT Tryd.prog 44 = some 1 := by kernel_rfl
@[go_sem] theorem hsl44 : slT Tryd.prog 44 = some 2 := by kernel_rfl
@[go_sem] theorem hel44 : elB Tryd.prog 44 = true := by kernel_rfl
@[go_sem] theorem hit44 : ((Tryd.prog.underlying 44).isSome && !itT Tryd.prog 44) = true := by kernel_rfl
@[go_sem] theorem hc45 : cellsT Tryd.prog 45 = some 1 := by kernel_rfl
@[go_sem] theorem hit45 : ((Tryd.prog.underlying 45).isSome && !itT Tryd.prog 45) = true := by kernel_rfl
@[go_sem] theorem hc46 : cellsT Tryd.prog 46 = some 1 := by kernel_rfl
@[go_sem] theorem hc48 : cellsT Tryd.prog 48 = some 1 := by kernel_rfl
@[go_sem] theorem hit48 : ((Tryd.prog.underlying 48).isSome && !itT Tryd.prog 48) = true := by kernel_rfl
@[go_sem] theorem hc49 : cellsT Tryd.prog 49 = some 1 := by kernel_rfl
@[go_sem] theorem hit49 : ((Tryd.prog.underlying 49).isSome && !itT Tryd.prog 49) = true := by kernel_rfl
@[go_sem] theorem hc50 : cellsT Tryd.prog 50 = some 2 := by kernel_rfl
@[go_sem] theorem hbb50 : buildB Tryd.prog 50 = true := by kernel_rfl
@[go_sem] theorem hpl50_0 : plT Tryd.prog 50 0 = some (0, 1) := by kernel_rfl
@[go_sem] theorem hpl50_1 : plT Tryd.prog 50 1 = some (1, 1) := by kernel_rfl
@[go_sem] theorem hf50_0 : fieldT Tryd.prog 50 0 = some (0, 45, false) := by kernel_rfl
@[go_sem] theorem hf50_1 : fieldT Tryd.prog 50 1 = some (1, 49, false) := by kernel_rfl
@[go_sem] theorem hit50 : ((Tryd.prog.underlying 50).isSome && !itT Tryd.prog 50) = true := by kernel_rfl
@[go_sem] theorem hc51 : cellsT Tryd.prog 51 = some 2 := by kernel_rfl
@[go_sem] theorem hbb51 : buildB Tryd.prog 51 = true := by kernel_rfl
@[go_sem] theorem hpl51_0 : plT Tryd.prog 51 0 = some (0, 1) := by kernel_rfl
@[go_sem] theorem hpl51_1 : plT Tryd.prog 51 1 = some (1, 1) := by kernel_rfl
@[go_sem] theorem hf51_0 : fieldT Tryd.prog 51 0 = some (0, 45, false) := by kernel_rfl
@[go_sem] theorem hf51_1 : fieldT Tryd.prog 51 1 = some (1, 49, false) := by kernel_rfl
@[go_sem] theorem hit51 : ((Tryd.prog.underlying 51).isSome && !itT Tryd.prog 51) = true := by kernel_rfl
@[go_sem] theorem hc52 : cellsT Tryd.prog 52 = some 3 := by kernel_rfl
@[go_sem] theorem hbb52 : buildB Tryd.prog 52 = true := by kernel_rfl
@[go_sem] theorem hpl52_0 : plT Tryd.prog 52 0 = some (0, 2) := by kernel_rfl
@[go_sem] theorem hpl52_1 : plT Tryd.prog 52 1 = some (2, 1) := by kernel_rfl
@[go_sem] theorem hf52_0 : fieldT Tryd.prog 52 0 = some (0, 51, false) := by kernel_rfl
@[go_sem] theorem hf52_1 : fieldT Tryd.prog 52 1 = some (2, 40, false) := by kernel_rfl
@[go_sem] theorem hit52 : ((Tryd.prog.underlying 52).isSome && !itT Tryd.prog 52) = true := by kernel_rfl
@[go_sem] theorem hc53 : cellsT Tryd.prog 53 = some 3 := by kernel_rfl
@[go_sem] theorem hbb53 : buildB Tryd.prog 53 = true := by kernel_rfl
@[go_sem] theorem hpl53_0 : plT Tryd.prog 53 0 = some (0, 2) := by kernel_rfl
@[go_sem] theorem hpl53_1 : plT Tryd.prog 53 1 = some (2, 1) := by kernel_rfl
@[go_sem] theorem hf53_0 : fieldT Tryd.prog 53 0 = some (0, 51, false) := by kernel_rfl
@[go_sem] theorem hf53_1 : fieldT Tryd.prog 53 1 = some (2, 40, false) := by kernel_rfl
@[go_sem] theorem hit53 : ((Tryd.prog.underlying 53).isSome && !itT Tryd.prog 53) = true := by kernel_rfl
@[go_sem] theorem hc54 : cellsT Tryd.prog 54 = some 1 := by kernel_rfl
@[go_sem] theorem hsl54 : slT Tryd.prog 54 = some 2 := by kernel_rfl
@[go_sem] theorem hel54 : elB Tryd.prog 54 = true := by kernel_rfl
@[go_sem] theorem hit54 : ((Tryd.prog.underlying 54).isSome && !itT Tryd.prog 54) = true := by kernel_rfl
@[go_sem] theorem hc55 : cellsT Tryd.prog 55 = some 1 := by kernel_rfl
@[go_sem] theorem hsl55 : slT Tryd.prog 55 = some 2 := by kernel_rfl
@[go_sem] theorem hel55 : elB Tryd.prog 55 = true := by kernel_rfl
@[go_sem] theorem hit55 : ((Tryd.prog.underlying 55).isSome && !itT Tryd.prog 55) = true := by kernel_rfl
@[go_sem] theorem hc56 : cellsT Tryd.prog 56 = some 1 := by kernel_rfl
@[go_sem] theorem hc58 : cellsT Tryd.prog 58 = some 1 := by kernel_rfl
@[go_sem] theorem hit58 : ((Tryd.prog.underlying 58).isSome && !itT Tryd.prog 58) = true := by kernel_rfl
@[go_sem] theorem hc60 : cellsT Tryd.prog 60 = some 1 := by kernel_rfl
@[go_sem] theorem hc63 : cellsT Tryd.prog 63 = some 1 := by kernel_rfl
@[go_sem] theorem hit63 : ((Tryd.prog.underlying 63).isSome && !itT Tryd.prog 63) = true := by kernel_rfl
@[go_sem] theorem hc65 : cellsT Tryd.prog 65 = some 1 := by kernel_rfl
@[go_sem] theorem hc67 : cellsT Tryd.prog 67 = some 4 := by kernel_rfl
@[go_sem] theorem hbb67 : buildB Tryd.prog 67 = true := by kernel_rfl
@[go_sem] theorem hpl67_0 : plT Tryd.prog 67 0 = some (0, 2) := by kernel_rfl
@[go_sem] theorem hpl67_1 : plT Tryd.prog 67 1 = some (2, 2) := by kernel_rfl
@[go_sem] theorem hf67_0 : fieldT Tryd.prog 67 0 = some (0, 43, false) := by kernel_rfl
@[go_sem] theorem hf67_1 : fieldT Tryd.prog 67 1 = some (2, 43, false) := by kernel_rfl
@[go_sem] theorem hit67 : ((Tryd.prog.underlying 67).isSome && !itT Tryd.prog 67) = true := by kernel_rfl
@[go_sem] theorem hc68 : cellsT Tryd.prog 68 = some 4 := by kernel_rfl
@[go_sem] theorem hbb68 : buildB Tryd.prog 68 = true := by kernel_rfl
@[go_sem] theorem hpl68_0 : plT Tryd.prog 68 0 = some (0, 2) := by kernel_rfl
@[go_sem] theorem hpl68_1 : plT Tryd.prog 68 1 = some (2, 2) := by kernel_rfl
@[go_sem] theorem hf68_0 : fieldT Tryd.prog 68 0 = some (0, 43, false) := by kernel_rfl
@[go_sem] theorem hf68_1 : fieldT Tryd.prog 68 1 = some (2, 43, false) := by kernel_rfl
@[go_sem] theorem hit68 : ((Tryd.prog.underlying 68).isSome && !itT Tryd.prog 68) = true := by kernel_rfl
@[go_sem] theorem hc69 : cellsT Tryd.prog 69 = some 1 := by kernel_rfl
@[go_sem] theorem hit69 : ((Tryd.prog.underlying 69).isSome && !itT Tryd.prog 69) = true := by kernel_rfl
@[go_sem] theorem hc71 : cellsT Tryd.prog 71 = some 1 := by kernel_rfl
@[go_sem] theorem hit71 : ((Tryd.prog.underlying 71).isSome && !itT Tryd.prog 71) = true := by kernel_rfl
@[go_sem] theorem hc72 : cellsT Tryd.prog 72 = some 1 := by kernel_rfl
@[go_sem] theorem hsl72 : slT Tryd.prog 72 = some 18 := by kernel_rfl
@[go_sem] theorem hel72 : elB Tryd.prog 72 = true := by kernel_rfl
@[go_sem] theorem hit72 : ((Tryd.prog.underlying 72).isSome && !itT Tryd.prog 72) = true := by kernel_rfl
@[go_sem] theorem hc73 : cellsT Tryd.prog 73 = some 1 := by kernel_rfl
@[go_sem] theorem hc82 : cellsT Tryd.prog 82 = some 1 := by kernel_rfl
@[go_sem] theorem hit82 : ((Tryd.prog.underlying 82).isSome && !itT Tryd.prog 82) = true := by kernel_rfl
@[go_sem] theorem hc90 : cellsT Tryd.prog 90 = some 1 := by kernel_rfl
@[go_sem] theorem hsl90 : slT Tryd.prog 90 = some 3 := by kernel_rfl
@[go_sem] theorem hel90 : elB Tryd.prog 90 = true := by kernel_rfl
@[go_sem] theorem hit90 : ((Tryd.prog.underlying 90).isSome && !itT Tryd.prog 90) = true := by kernel_rfl
@[go_sem] theorem hc91 : cellsT Tryd.prog 91 = some 1 := by kernel_rfl
@[go_sem] theorem hit91 : ((Tryd.prog.underlying 91).isSome && !itT Tryd.prog 91) = true := by kernel_rfl
@[go_sem] theorem hc93 : cellsT Tryd.prog 93 = some 2 := by kernel_rfl
@[go_sem] theorem hbb93 : buildB Tryd.prog 93 = true := by kernel_rfl
@[go_sem] theorem hpl93_0 : plT Tryd.prog 93 0 = some (0, 1) := by kernel_rfl
@[go_sem] theorem hpl93_1 : plT Tryd.prog 93 1 = some (1, 1) := by kernel_rfl
@[go_sem] theorem hf93_0 : fieldT Tryd.prog 93 0 = some (0, 48, false) := by kernel_rfl
@[go_sem] theorem hf93_1 : fieldT Tryd.prog 93 1 = some (1, 3, false) := by kernel_rfl
@[go_sem] theorem hit93 : ((Tryd.prog.underlying 93).isSome && !itT Tryd.prog 93) = true := by kernel_rfl
@[go_sem] theorem hc94 : cellsT Tryd.prog 94 = some 2 := by kernel_rfl
@[go_sem] theorem hbb94 : buildB Tryd.prog 94 = true := by kernel_rfl
@[go_sem] theorem hpl94_0 : plT Tryd.prog 94 0 = some (0, 1) := by kernel_rfl
@[go_sem] theorem hpl94_1 : plT Tryd.prog 94 1 = some (1, 1) := by kernel_rfl
@[go_sem] theorem hf94_0 : fieldT Tryd.prog 94 0 = some (0, 48, false) := by kernel_rfl
@[go_sem] theorem hf94_1 : fieldT Tryd.prog 94 1 = some (1, 3, false) := by kernel_rfl
@[go_sem] theorem hit94 : ((Tryd.prog.underlying 94).isSome && !itT Tryd.prog 94) = true := by kernel_rfl
@[go_sem] theorem hc95 : cellsT Tryd.prog 95 = some 1 := by kernel_rfl
@[go_sem] theorem hsl95 : slT Tryd.prog 95 = some 2 := by kernel_rfl
@[go_sem] theorem hel95 : elB Tryd.prog 95 = true := by kernel_rfl
@[go_sem] theorem hit95 : ((Tryd.prog.underlying 95).isSome && !itT Tryd.prog 95) = true := by kernel_rfl
@[go_sem] theorem hc96 : cellsT Tryd.prog 96 = some 3 := by kernel_rfl
@[go_sem] theorem hbb96 : buildB Tryd.prog 96 = true := by kernel_rfl
@[go_sem] theorem hpl96_0 : plT Tryd.prog 96 0 = some (0, 1) := by kernel_rfl
@[go_sem] theorem hpl96_1 : plT Tryd.prog 96 1 = some (1, 1) := by kernel_rfl
@[go_sem] theorem hpl96_2 : plT Tryd.prog 96 2 = some (2, 1) := by kernel_rfl
@[go_sem] theorem hf96_0 : fieldT Tryd.prog 96 0 = some (0, 5, false) := by kernel_rfl
@[go_sem] theorem hf96_1 : fieldT Tryd.prog 96 1 = some (1, 3, false) := by kernel_rfl
@[go_sem] theorem hf96_2 : fieldT Tryd.prog 96 2 = some (2, 48, false) := by kernel_rfl
@[go_sem] theorem hit96 : ((Tryd.prog.underlying 96).isSome && !itT Tryd.prog 96) = true := by kernel_rfl
@[go_sem] theorem hc97 : cellsT Tryd.prog 97 = some 3 := by kernel_rfl
@[go_sem] theorem hbb97 : buildB Tryd.prog 97 = true := by kernel_rfl
@[go_sem] theorem hpl97_0 : plT Tryd.prog 97 0 = some (0, 1) := by kernel_rfl
@[go_sem] theorem hpl97_1 : plT Tryd.prog 97 1 = some (1, 1) := by kernel_rfl
@[go_sem] theorem hpl97_2 : plT Tryd.prog 97 2 = some (2, 1) := by kernel_rfl
@[go_sem] theorem hf97_0 : fieldT Tryd.prog 97 0 = some (0, 5, false) := by kernel_rfl
@[go_sem] theorem hf97_1 : fieldT Tryd.prog 97 1 = some (1, 3, false) := by kernel_rfl
@[go_sem] theorem hf97_2 : fieldT Tryd.prog 97 2 = some (2, 48, false) := by kernel_rfl
@[go_sem] theorem hit97 : ((Tryd.prog.underlying 97).isSome && !itT Tryd.prog 97) = true := by kernel_rfl
@[go_sem] theorem hc98 : cellsT Tryd.prog 98 = some 1 := by kernel_rfl
@[go_sem] theorem hit98 : ((Tryd.prog.underlying 98).isSome && !itT Tryd.prog 98) = true := by kernel_rfl
@[go_sem] theorem hc99 : cellsT Tryd.prog 99 = some 1 := by kernel_rfl
@[go_sem] theorem hc104 : cellsT Tryd.prog 104 = some 1 := by kernel_rfl
@[go_sem] theorem hit104 : ((Tryd.prog.underlying 104).isSome && !itT Tryd.prog 104) = true := by kernel_rfl
@[go_sem] theorem hc107 : cellsT Tryd.prog 107 = some 1 := by kernel_rfl
@[go_sem] theorem hsl107 : slT Tryd.prog 107 = some 14 := by kernel_rfl
@[go_sem] theorem hel107 : elB Tryd.prog 107 = true := by kernel_rfl
@[go_sem] theorem hit107 : ((Tryd.prog.underlying 107).isSome && !itT Tryd.prog 107) = true := by kernel_rfl
@[go_sem] theorem hc108 : cellsT Tryd.prog 108 = some 1 := by kernel_rfl
@[go_sem] theorem hit108 : ((Tryd.prog.underlying 108).isSome && !itT Tryd.prog 108) = true := by kernel_rfl
@[go_sem] theorem hc110 : cellsT Tryd.prog 110 = some 1 := by kernel_rfl
@[go_sem] theorem hit110 : ((Tryd.prog.underlying 110).isSome && !itT Tryd.prog 110) = true := by kernel_rfl
@[go_sem] theorem hc111 : cellsT Tryd.prog 111 = some 7 := by kernel_rfl
@[go_sem] theorem hbb111 : buildB Tryd.prog 111 = true := by kernel_rfl
@[go_sem] theorem hpl111_0 : plT Tryd.prog 111 0 = some (0, 1) := by kernel_rfl
@[go_sem] theorem hpl111_1 : plT Tryd.prog 111 1 = some (1, 1) := by kernel_rfl
@[go_sem] theorem hpl111_2 : plT Tryd.prog 111 2 = some (2, 1) := by kernel_rfl
@[go_sem] theorem hpl111_3 : plT Tryd.prog 111 3 = some (3, 1) := by kernel_rfl
@[go_sem] theorem hpl111_4 : plT Tryd.prog 111 4 = some (4, 1) := by kernel_rfl
@[go_sem] theorem hpl111_5 : plT Tryd.prog 111 5 = some (5, 1) := by kernel_rfl
@[go_sem] theorem hpl111_6 : plT Tryd.prog 111 6 = some (6, 1) := by kernel_rfl
@[go_sem] theorem hf111_0 : fieldT Tryd.prog 111 0 = some (0, 3, false) := by kernel_rfl
@[go_sem] theorem hf111_1 : fieldT Tryd.prog 111 1 = some (1, 40, false) := by kernel_rfl
@[go_sem] theorem hf111_2 : fieldT Tryd.prog 111 2 = some (2, 40, false) := by kernel_rfl
@[go_sem] theorem hf111_3 : fieldT Tryd.prog 111 3 = some (3, 3, false) := by kernel_rfl
@[go_sem] theorem hf111_4 : fieldT Tryd.prog 111 4 = some (4, 72, false) := by kernel_rfl
@[go_sem] theorem hf111_5 : fieldT Tryd.prog 111 5 = some (5, 72, false) := by kernel_rfl
@[go_sem] theorem hf111_6 : fieldT Tryd.prog 111 6 = some (6, 4, false) := by kernel_rfl
@[go_sem] theorem hit111 : ((Tryd.prog.underlying 111).isSome && !itT Tryd.prog 111) = true := by kernel_rfl
@[go_sem] theorem hc112 : cellsT Tryd.prog 112 = some 7 := by kernel_rfl
@[go_sem] theorem hbb112 : buildB Tryd.prog 112 = true := by kernel_rfl
@[go_sem] theorem hpl112_0 : plT Tryd.prog 112 0 = some (0, 1) := by kernel_rfl
@[go_sem] theorem hpl112_1 : plT Tryd.prog 112 1 = some (1, 1) := by kernel_rfl
@[go_sem] theorem hpl112_2 : plT Tryd.prog 112 2 = some (2, 1) := by kernel_rfl
@[go_sem] theorem hpl112_3 : plT Tryd.prog 112 3 = some (3, 1) := by kernel_rfl
@[go_sem] theorem hpl112_4 : plT Tryd.prog 112 4 = some (4, 1) := by kernel_rfl
@[go_sem] theorem hpl112_5 : plT Tryd.prog 112 5 = some (5, 1) := by kernel_rfl
@[go_sem] theorem hpl112_6 : plT Tryd.prog 112 6 = some (6, 1) := by kernel_rfl
@[go_sem] theorem hf112_0 : fieldT Tryd.prog 112 0 = some (0, 3, false) := by kernel_rfl
@[go_sem] theorem hf112_1 : fieldT Tryd.prog 112 1 = some (1, 40, false) := by kernel_rfl
@[go_sem] theorem hf112_2 : fieldT Tryd.prog 112 2 = some (2, 40, false) := by kernel_rfl
@[go_sem] theorem hf112_3 : fieldT Tryd.prog 112 3 = some (3, 3, false) := by kernel_rfl
@[go_sem] theorem hf112_4 : fieldT Tryd.prog 112 4 = some (4, 72, false) := by kernel_rfl
@[go_sem] theorem hf112_5 : fieldT Tryd.prog 112 5 = some (5, 72, false) := by kernel_rfl
@[go_sem] theorem hf112_6 : fieldT Tryd.prog 112 6 = some (6, 4, false) := by kernel_rfl
@[go_sem] theorem hit112 : ((Tryd.prog.underlying 112).isSome && !itT Tryd.prog 112) = true := by kernel_rfl
@[go_sem] theorem hc113 : cellsT Tryd.prog 113 = some 1 := by kernel_rfl
@[go_sem] theorem hit113 : ((Tryd.prog.underlying 113).isSome && !itT Tryd.prog 113) = true := by kernel_rfl
@[go_sem] theorem hc114 : cellsT Tryd.prog 114 = some 12 := by kernel_rfl
@[go_sem] theorem hbb114 : buildB Tryd.prog 114 = true := by kernel_rfl
@[go_sem] theorem hpl114_0 : plT Tryd.prog 114 0 = some (0, 1) := by kernel_rfl
@[go_sem] theorem hpl114_1 : plT Tryd.prog 114 1 = some (1, 4) := by kernel_rfl
@[go_sem] theorem hpl114_2 : plT Tryd.prog 114 2 = some (5, 1) := by kernel_rfl
@[go_sem] theorem hpl114_3 : plT Tryd.prog 114 3 = some (6, 1) := by kernel_rfl
@[go_sem] theorem hpl114_4 : plT Tryd.prog 114 4 = some (7, 1) := by kernel_rfl
@[go_sem] theorem hpl114_5 : plT Tryd.prog 114 5 = some (8, 1) := by kernel_rfl
@[go_sem] theorem hpl114_6 : plT Tryd.prog 114 6 = some (9, 1) := by kernel_rfl
@[go_sem] theorem hpl114_7 : plT Tryd.prog 114 7 = some (10, 1) := by kernel_rfl
@[go_sem] theorem hpl114_8 : plT Tryd.prog 114 8 = some (11, 1) := by kernel_rfl
@[go_sem] theorem hf114_0 : fieldT Tryd.prog 114 0 = some (0, 113, false) := by kernel_rfl
@[go_sem] theorem hf114_1 : fieldT Tryd.prog 114 1 = some (1, 68, false) := by kernel_rfl
@[go_sem] theorem hf114_2 : fieldT Tryd.prog 114 2 = some (5, 4, false) := by kernel_rfl
@[go_sem] theorem hf114_3 : fieldT Tryd.prog 114 3 = some (6, 3, false) := by kernel_rfl
@[go_sem] theorem hf114_4 : fieldT Tryd.prog 114 4 = some (7, 40, false) := by kernel_rfl
@[go_sem] theorem hf114_5 : fieldT Tryd.prog 114 5 = some (8, 40, false) := by kernel_rfl
@[go_sem] theorem hf114_6 : fieldT Tryd.prog 114 6 = some (9, 71, false) := by kernel_rfl
@[go_sem] theorem hf114_7 : fieldT Tryd.prog 114 7 = some (10, 9, false) := by kernel_rfl
@[go_sem] theorem hf114_8 : fieldT Tryd.prog 114 8 = some (11, 72, false) := by kernel_rfl
@[go_sem] theorem hit114 : ((Tryd.prog.underlying 114).isSome && !itT Tryd.prog 114) = true := by kernel_rfl
@[go_sem] theorem hc115 : cellsT Tryd.prog 115 = some 12 := by kernel_rfl
@[go_sem] theorem hbb115 : buildB Tryd.prog 115 = true := by kernel_rfl
@[go_sem] theorem hpl115_0 : plT Tryd.prog 115 0 = some (0, 1) := by kernel_rfl
@[go_sem] theorem hpl115_1 : plT Tryd.prog 115 1 = some (1, 4) := by kernel_rfl
@[go_sem] theorem hpl115_2 : plT Tryd.prog 115 2 = some (5, 1) := by kernel_rfl
@[go_sem] theorem hpl115_3 : plT Tryd.prog 115 3 = some (6, 1) := by kernel_rfl
@[go_sem] theorem hpl115_4 : plT Tryd.prog 115 4 = some (7, 1) := by kernel_rfl
@[go_sem] theorem hpl115_5 : plT Tryd.prog 115 5 = some (8, 1) := by kernel_rfl
@[go_sem] theorem hpl115_6 : plT Tryd.prog 115 6 = some (9, 1) := by kernel_rfl
@[go_sem] theorem hpl115_7 : plT Tryd.prog 115 7 = some (10, 1) := by kernel_rfl
@[go_sem] theorem hpl115_8 : plT Tryd.prog 115 8 = some (11, 1) := by kernel_rfl
@[go_sem] theorem hf115_0 : fieldT Tryd.prog 115 0 = some (0, 113, false) := by kernel_rfl
@[go_sem] theorem hf115_1 : fieldT Tryd.prog 115 1 = some (1, 68, false) := by kernel_rfl
@[go_sem] theorem hf115_2 : fieldT Tryd.prog 115 2 = some (5, 4, false) := by kernel_rfl
@[go_sem] theorem hf115_3 : fieldT Tryd.prog 115 3 = some (6, 3, false) := by kernel_rfl
@[go_sem] theorem hf115_4 : fieldT Tryd.prog 115 4 = some (7, 40, false) := by kernel_rfl
@[go_sem] theorem hf115_5 : fieldT Tryd.prog 115 5 = some (8, 40, false) := by kernel_rfl
@[go_sem] theorem hf115_6 : fieldT Tryd.prog 115 6 = some (9, 71, false) := by kernel_rfl
@[go_sem] theorem hf115_7 : fieldT Tryd.prog 115 7 = some (10, 9, false) := by kernel_rfl
@[go_sem] theorem hf115_8 : fieldT Tryd.prog 115 8 = some (11, 72, false) := by kernel_rfl
@[go_sem] theorem hit115 : ((Tryd.prog.underlying 115).isSome && !itT Tryd.prog 115) = true := by kernel_rfl
@[go_sem] theorem hc116 : cellsT Tryd.prog 116 = some 14 := by kernel_rfl
@[go_sem] theorem hbb116 : buildB Tryd.prog 116 = true := by kernel_rfl
@[go_sem] theorem hpl116_0 : plT Tryd.prog 116 0 = some (0, 1) := by kernel_rfl
@[go_sem] theorem hpl116_1 : plT Tryd.prog 116 1 = some (1, 1) := by kernel_rfl
@[go_sem] theorem hpl116_2 : plT Tryd.prog 116 2 = some (2, 12) := by kernel_rfl
@[go_sem] theorem hf116_0 : fieldT Tryd.prog 116 0 = some (0, 4, false) := by kernel_rfl
@[go_sem] theorem hf116_1 : fieldT Tryd.prog 116 1 = some (1, 3, false) := by kernel_rfl
@[go_sem] theorem hf116_2 : fieldT Tryd.prog 116 2 = some (2, 115, false) := by kernel_rfl
@[go_sem] theorem hit116 : ((Tryd.prog.underlying 116).isSome && !itT Tryd.prog 116) = true := by kernel_rfl
@[go_sem] theorem hc117 : cellsT Tryd.prog 117 = some 14 := by kernel_rfl
@[go_sem] theorem hbb117 : buildB Tryd.prog 117 = true := by kernel_rfl
@[go_sem] theorem hpl117_0 : plT Tryd.prog 117 0 = some (0, 1) := by kernel_rfl
@[go_sem] theorem hpl117_1 : plT Tryd.prog 117 1 = some (1, 1) := by kernel_rfl
@[go_sem] theorem hpl117_2 : plT Tryd.prog 117 2 = some (2, 12) := by kernel_rfl
@[go_sem] theorem hf117_0 : fieldT Tryd.prog 117 0 = some (0, 4, false) := by kernel_rfl
@[go_sem] theorem hf117_1 : fieldT Tryd.prog 117 1 = some (1, 3, false) := by kernel_rfl
@[go_sem] theorem hf117_2 : fieldT Tryd.prog 117 2 = some (2, 115, false) := by kernel_rfl
@[go_sem] theorem hit117 : ((Tryd.prog.underlying 117).isSome && !itT Tryd.prog 117) = true := by kernel_rfl
@[go_sem] theorem hc120 : cellsT Tryd.prog 120 = some 16 := by kernel_rfl
@[go_sem] theorem hpl120 (i : Nat) : plT Tryd.prog 120 i = some (i * 1, 1) := by kernel_rfl
@[go_sem] theorem hbb120 : buildB Tryd.prog 120 = true := by kernel_rfl
@[go_sem] theorem har120 : arT Tryd.prog 120 = some (16, 82, 1) := by kernel_rfl
@[go_sem] theorem hit120 : ((Tryd.prog.underlying 120).isSome && !itT Tryd.prog 120) = true := by kernel_rfl
@[go_sem] theorem hc121 : cellsT Tryd.prog 121 = some 16 := by kernel_rfl
@[go_sem] theorem hpl121 (i : Nat) : plT Tryd.prog 121 i = some (i * 1, 1) := by kernel_rfl
@[go_sem] theorem hbb121 : buildB Tryd.prog 121 = true := by kernel_rfl
@[go_sem] theorem har121 : arT Tryd.prog 121 = some (16, 82, 1) := by kernel_rfl
@[go_sem] theorem hit121 : ((Tryd.prog.underlying 121).isSome && !itT Tryd.prog 121) = true := by kernel_rfl
@[go_sem] theorem hc122 : cellsT Tryd.prog 122 = some 18 := by kernel_rfl
@[go_sem] theorem hbb122 : buildB Tryd.prog 122 = true := by kernel_rfl
@[go_sem] theorem hpl122_0 : plT Tryd.prog 122 0 = some (0, 2) := by kernel_rfl
@[go_sem] theorem hpl122_1 : plT Tryd.prog 122 1 = some (2, 16) := by kernel_rfl
@[go_sem] theorem hf122_0 : fieldT Tryd.prog 122 0 = some (0, 43, false) := by kernel_rfl
@[go_sem] theorem hf122_1 : fieldT Tryd.prog 122 1 = some (2, 121, false) := by kernel_rfl
@[go_sem] theorem hit122 : ((Tryd.prog.underlying 122).isSome && !itT Tryd.prog 122) = true := by kernel_rfl
@[go_sem] theorem hc123 : cellsT Tryd.prog 123 = some 18 := by kernel_rfl
@[go_sem] theorem hbb123 : buildB Tryd.prog 123 = true := by kernel_rfl
@[go_sem] theorem hpl123_0 : plT Tryd.prog 123 0 = some (0, 2) := by kernel_rfl
@[go_sem] theorem hpl123_1 : plT Tryd.prog 123 1 = some (2, 16) := by kernel_rfl
@[go_sem] theorem hf123_0 : fieldT Tryd.prog 123 0 = some (0, 43, false) := by kernel_rfl
@[go_sem] theorem hf123_1 : fieldT Tryd.prog 123 1 = some (2, 121, false) := by kernel_rfl
@[go_sem] theorem hit123 : ((Tryd.prog.underlying 123).isSome && !itT Tryd.prog 123) = true := by kernel_rfl
@[go_sem] theorem hc129 : cellsT Tryd.prog 129 = some 1 := by kernel_rfl
@[go_sem] theorem hit129 : ((Tryd.prog.underlying 129).isSome && !itT Tryd.prog 129) = true := by kernel_rfl
@[go_sem] theorem hc130 : cellsT Tryd.prog 130 = some 7 := by kernel_rfl
@[go_sem] theorem hbb130 : buildB Tryd.prog 130 = true := by kernel_rfl
@[go_sem] theorem hpl130_0 : plT Tryd.prog 130 0 = some (0, 1) := by kernel_rfl
@[go_sem] theorem hpl130_1 : plT Tryd.prog 130 1 = some (1, 1) := by kernel_rfl
@[go_sem] theorem hpl130_2 : plT Tryd.prog 130 2 = some (2, 1) := by kernel_rfl
@[go_sem] theorem hpl130_3 : plT Tryd.prog 130 3 = some (3, 1) := by kernel_rfl
@[go_sem] theorem hpl130_4 : plT Tryd.prog 130 4 = some (4, 1) := by kernel_rfl
@[go_sem] theorem hpl130_5 : plT Tryd.prog 130 5 = some (5, 1) := by kernel_rfl
@[go_sem] theorem hpl130_6 : plT Tryd.prog 130 6 = some (6, 1) := by kernel_rfl
@[go_sem] theorem hf130_0 : fieldT Tryd.prog 130 0 = some (0, 3, false) := by kernel_rfl
@[go_sem] theorem hf130_1 : fieldT Tryd.prog 130 1 = some (1, 40, false) := by kernel_rfl
@[go_sem] theorem hf130_2 : fieldT Tryd.prog 130 2 = some (2, 40, false) := by kernel_rfl
@[go_sem] theorem hf130_3 : fieldT Tryd.prog 130 3 = some (3, 3, false) := by kernel_rfl
@[go_sem] theorem hf130_4 : fieldT Tryd.prog 130 4 = some (4, 129, false) := by kernel_rfl
@[go_sem] theorem hf130_5 : fieldT Tryd.prog 130 5 = some (5, 72, false) := by kernel_rfl
@[go_sem] theorem hf130_6 : fieldT Tryd.prog 130 6 = some (6, 4, false) := by kernel_rfl
@[go_sem] theorem hit130 : ((Tryd.prog.underlying 130).isSome && !itT Tryd.prog 130) = true := by kernel_rfl
@[go_sem] theorem hc131 : cellsT Tryd.prog 131 = some 7 := by kernel_rfl
@[go_sem] theorem hbb131 : buildB Tryd.prog 131 = true := by kernel_rfl
@[go_sem] theorem hpl131_0 : plT Tryd.prog 131 0 = some (0, 1) := by kernel_rfl
@[go_sem] theorem hpl131_1 : plT Tryd.prog 131 1 = some (1, 1) := by kernel_rfl
@[go_sem] theorem hpl131_2 : plT Tryd.prog 131 2 = some (2, 1) := by kernel_rfl
@[go_sem] theorem hpl131_3 : plT Tryd.prog 131 3 = some (3, 1) := by kernel_rfl
@[go_sem] theorem hpl131_4 : plT Tryd.prog 131 4 = some (4, 1) := by kernel_rfl
@[go_sem] theorem hpl131_5 : plT Tryd.prog 131 5 = some (5, 1) := by kernel_rfl
@[go_sem] theorem hpl131_6 : plT Tryd.prog 131 6 = some (6, 1) := by kernel_rfl
@[go_sem] theorem hf131_0 : fieldT Tryd.prog 131 0 = some (0, 3, false) := by kernel_rfl
@[go_sem] theorem hf131_1 : fieldT Tryd.prog 131 1 = some (1, 40, false) := by kernel_rfl
@[go_sem] theorem hf131_2 : fieldT Tryd.prog 131 2 = some (2, 40, false) := by kernel_rfl
@[go_sem] theorem hf131_3 : fieldT Tryd.prog 131 3 = some (3, 3, false) := by kernel_rfl
@[go_sem] theorem hf131_4 : fieldT Tryd.prog 131 4 = some (4, 129, false) := by kernel_rfl
@[go_sem] theorem hf131_5 : fieldT Tryd.prog 131 5 = some (5, 72, false) := by kernel_rfl
@[go_sem] theorem hf131_6 : fieldT Tryd.prog 131 6 = some (6, 4, false) := by kernel_rfl
@[go_sem] theorem hit131 : ((Tryd.prog.underlying 131).isSome && !itT Tryd.prog 131) = true := by kernel_rfl
@[go_sem] theorem hc134 : cellsT Tryd.prog 134 = some 5 := by kernel_rfl
@[go_sem] theorem hbb134 : buildB Tryd.prog 134 = true := by kernel_rfl
@[go_sem] theorem hpl134_0 : plT Tryd.prog 134 0 = some (0, 1) := by kernel_rfl
@[go_sem] theorem hpl134_1 : plT Tryd.prog 134 1 = some (1, 1) := by kernel_rfl
@[go_sem] theorem hpl134_2 : plT Tryd.prog 134 2 = some (2, 1) := by kernel_rfl
@[go_sem] theorem hpl134_3 : plT Tryd.prog 134 3 = some (3, 1) := by kernel_rfl
@[go_sem] theorem hpl134_4 : plT Tryd.prog 134 4 = some (4, 1) := by kernel_rfl
@[go_sem] theorem hf134_0 : fieldT Tryd.prog 134 0 = some (0, 3, false) := by kernel_rfl
@[go_sem] theorem hf134_1 : fieldT Tryd.prog 134 1 = some (1, 3, false) := by kernel_rfl
@[go_sem] theorem hf134_2 : fieldT Tryd.prog 134 2 = some (2, 22, false) := by kernel_rfl
@[go_sem] theorem hf134_3 : fieldT Tryd.prog 134 3 = some (3, 3, false) := by kernel_rfl
@[go_sem] theorem hf134_4 : fieldT Tryd.prog 134 4 = some (4, 24, false) := by kernel_rfl
@[go_sem] theorem hit134 : ((Tryd.prog.underlying 134).isSome && !itT Tryd.prog 134) = true := by kernel_rfl
@[go_sem] theorem hc135 : cellsT Tryd.prog 135 = some 5 := by kernel_rfl
@[go_sem] theorem hbb135 : buildB Tryd.prog 135 = true := by kernel_rfl
@[go_sem] theorem hpl135_0 : plT Tryd.prog 135 0 = some (0, 1) := by kernel_rfl
@[go_sem] theorem hpl135_1 : plT Tryd.prog 135 1 = some (1, 1) := by kernel_rfl
@[go_sem] theorem hpl135_2 : plT Tryd.prog 135 2 = some (2, 1) := by kernel_rfl
@[go_sem] theorem hpl135_3 : plT Tryd.prog 135 3 = some (3, 1) := by kernel_rfl
@[go_sem] theorem hpl135_4 : plT Tryd.prog 135 4 = some (4, 1) := by kernel_rfl
@[go_sem] theorem hf135_0 : fieldT Tryd.prog 135 0 = some (0, 3, false) := by kernel_rfl
@[go_sem] theorem hf135_1 : fieldT Tryd.prog 135 1 = some (1, 3, false) := by kernel_rfl
@[go_sem] theorem hf135_2 : fieldT Tryd.prog 135 2 = some (2, 22, false) := by kernel_rfl
@[go_sem] theorem hf135_3 : fieldT Tryd.prog 135 3 = some (3, 3, false) := by kernel_rfl
@[go_sem] theorem hf135_4 : fieldT Tryd.prog 135 4 = some (4, 24, false) := by kernel_rfl
@[go_sem] theorem hit135 : ((Tryd.prog.underlying 135).isSome && !itT Tryd.prog 135) = true := by kernel_rfl
@[go_sem] theorem hc136 : cellsT Tryd.prog 136 = some 1 := by kernel_rfl
@[go_sem] theorem hc139 : cellsT Tryd.prog 139 = some 1 := by kernel_rfl
@[go_sem] theorem hit139 : ((Tryd.prog.underlying 139).isSome && !itT Tryd.prog 139) = true := by kernel_rfl
@[go_sem] theorem hc140 : cellsT Tryd.prog 140 = some 1 := by kernel_rfl
@[go_sem] theorem hc143 : cellsT Tryd.prog 143 = some 4 := by kernel_rfl
@[go_sem] theorem hpl143 (i : Nat) : plT Tryd.prog 143 i = some (i * 1, 1) := by kernel_rfl
@[go_sem] theorem hbb143 : buildB Tryd.prog 143 = true := by kernel_rfl
@[go_sem] theorem har143 : arT Tryd.prog 143 = some (4, 49, 1) := by kernel_rfl
@[go_sem] theorem hit143 : ((Tryd.prog.underlying 143).isSome && !itT Tryd.prog 143) = true := by kernel_rfl
@[go_sem] theorem hc144 : cellsT Tryd.prog 144 = some 4 := by kernel_rfl
@[go_sem] theorem hpl144 (i : Nat) : plT Tryd.prog 144 i = some (i * 1, 1) := by kernel_rfl
@[go_sem] theorem hbb144 : buildB Tryd.prog 144 = true := by kernel_rfl
@[go_sem] theorem har144 : arT Tryd.prog 144 = some (4, 49, 1) := by kernel_rfl
@[go_sem] theorem hit144 : ((Tryd.prog.underlying 144).isSome && !itT Tryd.prog 144) = true := by kernel_rfl
@[go_sem] theorem hc145 : cellsT Tryd.prog 145 = some 6 := by kernel_rfl
@[go_sem] theorem hbb145 : buildB Tryd.prog 145 = true := by kernel_rfl
@[go_sem] theorem hpl145_0 : plT Tryd.prog 145 0 = some (0, 4) := by kernel_rfl
@[go_sem] theorem hpl145_1 : plT Tryd.prog 145 1 = some (4, 1) := by kernel_rfl
@[go_sem] theorem hpl145_2 : plT Tryd.prog 145 2 = some (5, 1) := by kernel_rfl
@[go_sem] theorem hf145_0 : fieldT Tryd.prog 145 0 = some (0, 144, false) := by kernel_rfl
@[go_sem] theorem hf145_1 : fieldT Tryd.prog 145 1 = some (4, 3, false) := by kernel_rfl
@[go_sem] theorem hf145_2 : fieldT Tryd.prog 145 2 = some (5, 40, false) := by kernel_rfl
@[go_sem] theorem hit145 : ((Tryd.prog.underlying 145).isSome && !itT Tryd.prog 145) = true := by kernel_rfl
@[go_sem] theorem hc146 : cellsT Tryd.prog 146 = some 6 := by kernel_rfl
@[go_sem] theorem hbb146 : buildB Tryd.prog 146 = true := by kernel_rfl
@[go_sem] theorem hpl146_0 : plT Tryd.prog 146 0 = some (0, 4) := by kernel_rfl
@[go_sem] theorem hpl146_1 : plT Tryd.prog 146 1 = some (4, 1) := by kernel_rfl
@[go_sem] theorem hpl146_2 : plT Tryd.prog 146 2 = some (5, 1) := by kernel_rfl
@[go_sem] theorem hf146_0 : fieldT Tryd.prog 146 0 = some (0, 144, false) := by kernel_rfl
@[go_sem] theorem hf146_1 : fieldT Tryd.prog 146 1 = some (4, 3, false) := by kernel_rfl
@[go_sem] theorem hf146_2 : fieldT Tryd.prog 146 2 = some (5, 40, false) := by kernel_rfl
@[go_sem] theorem hit146 : ((Tryd.prog.underlying 146).isSome && !itT Tryd.prog 146) = true := by kernel_rfl
@[go_sem] theorem hc147 : cellsT Tryd.prog 147 = some 1 := by kernel_rfl
@[go_sem] theorem hsl147 : slT Tryd.prog 147 = some 6 := by kernel_rfl
@[go_sem] theorem hel147 : elB Tryd.prog 147 = true := by kernel_rfl
@[go_sem] theorem hit147 : ((Tryd.prog.underlying 147).isSome && !itT Tryd.prog 147) = true := by kernel_rfl
@[go_sem] theorem hc148 : cellsT Tryd.prog 148 = some 1 := by kernel_rfl
@[go_sem] theorem hsl148 : slT Tryd.prog 148 = some 1 := by kernel_rfl
@[go_sem] theorem hel148 : elB Tryd.prog 148 = true := by kernel_rfl
@[go_sem] theorem hit148 : ((Tryd.prog.underlying 148).isSome && !itT Tryd.prog 148) = true := by kernel_rfl
@[go_sem] theorem hc149 : cellsT Tryd.prog 149 = some 3 := by kernel_rfl
@[go_sem] theorem hbb149 : buildB Tryd.prog 149 = true := by kernel_rfl
@[go_sem] theorem hpl149_0 : plT Tryd.prog 149 0 = some (0, 1) := by kernel_rfl
@[go_sem] theorem hpl149_1 : plT Tryd.prog 149 1 = some (1, 1) := by kernel_rfl
@[go_sem] theorem hpl149_2 : plT Tryd.prog 149 2 = some (2, 1) := by kernel_rfl
@[go_sem] theorem hf149_0 : fieldT Tryd.prog 149 0 = some (0, 147, false) := by kernel_rfl
@[go_sem] theorem hf149_1 : fieldT Tryd.prog 149 1 = some (1, 148, false) := by kernel_rfl
@[go_sem] theorem hf149_2 : fieldT Tryd.prog 149 2 = some (2, 3, false) := by kernel_rfl
@[go_sem] theorem hit149 : ((Tryd.prog.underlying 149).isSome && !itT Tryd.prog 149) = true := by kernel_rfl
@[go_sem] theorem hc150 : cellsT Tryd.prog 150 = some 3 := by kernel_rfl
@[go_sem] theorem hbb150 : buildB Tryd.prog 150 = true := by kernel_rfl
@[go_sem] theorem hpl150_0 : plT Tryd.prog 150 0 = some (0, 1) := by kernel_rfl
@[go_sem] theorem hpl150_1 : plT Tryd.prog 150 1 = some (1, 1) := by kernel_rfl
@[go_sem] theorem hpl150_2 : plT Tryd.prog 150 2 = some (2, 1) := by kernel_rfl
@[go_sem] theorem hf150_0 : fieldT Tryd.prog 150 0 = some (0, 147, false) := by kernel_rfl
@[go_sem] theorem hf150_1 : fieldT Tryd.prog 150 1 = some (1, 148, false) := by kernel_rfl
@[go_sem] theorem hf150_2 : fieldT Tryd.prog 150 2 = some (2, 3, false) := by kernel_rfl
@[go_sem] theorem hit150 : ((Tryd.prog.underlying 150).isSome && !itT Tryd.prog 150) = true := by kernel_rfl
@[go_sem] theorem hc153 : cellsT Tryd.prog 153 = some 2 := by kernel_rfl
@[go_sem] theorem hbb153 : buildB Tryd.prog 153 = true := by kernel_rfl
@[go_sem] theorem hpl153_0 : plT Tryd.prog 153 0 = some (0, 1) := by kernel_rfl
@[go_sem] theorem hpl153_1 : plT Tryd.prog 153 1 = some (1, 1) := by kernel_rfl
@[go_sem] theorem hf153_0 : fieldT Tryd.prog 153 0 = some (0, 2, false) := by kernel_rfl
@[go_sem] theorem hf153_1 : fieldT Tryd.prog 153 1 = some (1, 2, false) := by kernel_rfl
@[go_sem] theorem hit153 : ((Tryd.prog.underlying 153).isSome && !itT Tryd.prog 153) = true := by kernel_rfl
@[go_sem] theorem hc154 : cellsT Tryd.prog 154 = some 1 := by kernel_rfl
@[go_sem] theorem hit154 : ((Tryd.prog.underlying 154).isSome && !itT Tryd.prog 154) = true := by kernel_rfl
@[go_sem] theorem hc155 : cellsT Tryd.prog 155 = some 2 := by kernel_rfl
@[go_sem] theorem hbb155 : buildB Tryd.prog 155 = true := by kernel_rfl
@[go_sem] theorem hpl155_0 : plT Tryd.prog 155 0 = some (0, 1) := by kernel_rfl
@[go_sem] theorem hpl155_1 : plT Tryd.prog 155 1 = some (1, 1) := by kernel_rfl
@[go_sem] theorem hf155_0 : fieldT Tryd.prog 155 0 = some (0, 45, false) := by kernel_rfl
@[go_sem] theorem hf155_1 : fieldT Tryd.prog 155 1 = some (1, 154, false) := by kernel_rfl
@[go_sem] theorem hit155 : ((Tryd.prog.underlying 155).isSome && !itT Tryd.prog 155) = true := by kernel_rfl
@[go_sem] theorem hc156 : cellsT Tryd.prog 156 = some 2 := by kernel_rfl
@[go_sem] theorem hbb156 : buildB Tryd.prog 156 = true := by kernel_rfl
@[go_sem] theorem hpl156_0 : plT Tryd.prog 156 0 = some (0, 1) := by kernel_rfl
@[go_sem] theorem hpl156_1 : plT Tryd.prog 156 1 = some (1, 1) := by kernel_rfl
@[go_sem] theorem hf156_0 : fieldT Tryd.prog 156 0 = some (0, 45, false) := by kernel_rfl
@[go_sem] theorem hf156_1 : fieldT Tryd.prog 156 1 = some (1, 154, false) := by kernel_rfl
@[go_sem] theorem hit156 : ((Tryd.prog.underlying 156).isSome && !itT Tryd.prog 156) = true := by kernel_rfl
@[go_sem] theorem hc163 : cellsT Tryd.prog 163 = some 1 := by kernel_rfl
@[go_sem] theorem hc165 : cellsT Tryd.prog 165 = some 1 := by kernel_rfl
@[go_sem] theorem hc168 : cellsT Tryd.prog 168 = some 1 := by kernel_rfl
@[go_sem] theorem hc170 : cellsT Tryd.prog 170 = some 1 := by kernel_rfl
@[go_sem] theorem hit170 : ((Tryd.prog.underlying 170).isSome && !itT Tryd.prog 170) = true := by kernel_rfl
@[go_sem] theorem hc171 : cellsT Tryd.prog 171 = some 1 := by kernel_rfl
@[go_sem] theorem hbb171 : buildB Tryd.prog 171 = true := by kernel_rfl
@[go_sem] theorem hpl171_0 : plT Tryd.prog 171 0 = some (0, 1) := by kernel_rfl
@[go_sem] theorem hf171_0 : fieldT Tryd.prog 171 0 = some (0, 170, false) := by kernel_rfl
@[go_sem] theorem hit171 : ((Tryd.prog.underlying 171).isSome && !itT Tryd.prog 171) = true := by kernel_rfl
@[go_sem] theorem hc172 : cellsT Tryd.prog 172 = some 1 := by kernel_rfl
@[go_sem] theorem hbb172 : buildB Tryd.prog 172 = true := by kernel_rfl
@[go_sem] theorem hpl172_0 : plT Tryd.prog 172 0 = some (0, 1) := by kernel_rfl
@[go_sem] theorem hf172_0 : fieldT Tryd.prog 172 0 = some (0, 170, false) := by kernel_rfl
@[go_sem] theorem hit172 : ((Tryd.prog.underlying 172).isSome && !itT Tryd.prog 172) = true := by kernel_rfl
@[go_sem] theorem hc174 : cellsT Tryd.prog 174 = some 1 := by kernel_rfl
@[go_sem] theorem hit174 : ((Tryd.prog.underlying 174).isSome && !itT Tryd.prog 174) = true := by kernel_rfl
@[go_sem] theorem hc175 : cellsT Tryd.prog 175 = some 1 := by kernel_rfl
@[go_sem] theorem hc177 : cellsT Tryd.prog 177 = some 1 := by kernel_rfl
@[go_sem] theorem hit177 : ((Tryd.prog.underlying 177).isSome && !itT Tryd.prog 177) = true := by kernel_rfl
@[go_sem] theorem hc178 : cellsT Tryd.prog 178 = some 7 := by kernel_rfl
@[go_sem] theorem hbb178 : buildB Tryd.prog 178 = true := by kernel_rfl
@[go_sem] theorem hpl178_0 : plT Tryd.prog 178 0 = some (0, 1) := by kernel_rfl
@[go_sem] theorem hpl178_1 : plT Tryd.prog 178 1 = some (1, 2) := by kernel_rfl
@[go_sem] theorem hpl178_2 : plT Tryd.prog 178 2 = some (3, 2) := by kernel_rfl
@[go_sem] theorem hpl178_3 : plT Tryd.prog 178 3 = some (5, 1) := by kernel_rfl
@[go_sem] theorem hpl178_4 : plT Tryd.prog 178 4 = some (6, 1) := by kernel_rfl
@[go_sem] theorem hf178_0 : fieldT Tryd.prog 178 0 = some (0, 69, false) := by kernel_rfl
@[go_sem] theorem hf178_1 : fieldT Tryd.prog 178 1 = some (1, 51, false) := by kernel_rfl
@[go_sem] theorem hf178_2 : fieldT Tryd.prog 178 2 = some (3, 51, false) := by kernel_rfl
@[go_sem] theorem hf178_3 : fieldT Tryd.prog 178 3 = some (5, 3, false) := by kernel_rfl
@[go_sem] theorem hf178_4 : fieldT Tryd.prog 178 4 = some (6, 72, false) := by kernel_rfl
@[go_sem] theorem hit178 : ((Tryd.prog.underlying 178).isSome && !itT Tryd.prog 178) = true := by kernel_rfl
@[go_sem] theorem hc179 : cellsT Tryd.prog 179 = some 7 := by kernel_rfl
@[go_sem] theorem hbb179 : buildB Tryd.prog 179 = true := by kernel_rfl
@[go_sem] theorem hpl179_0 : plT Tryd.prog 179 0 = some (0, 1) := by kernel_rfl
@[go_sem] theorem hpl179_1 : plT Tryd.prog 179 1 = some (1, 2) := by kernel_rfl
@[go_sem] theorem hpl179_2 : plT Tryd.prog 179 2 = some (3, 2) := by kernel_rfl
@[go_sem] theorem hpl179_3 : plT Tryd.prog 179 3 = some (5, 1) := by kernel_rfl
@[go_sem] theorem hpl179_4 : plT Tryd.prog 179 4 = some (6, 1) := by kernel_rfl
@[go_sem] theorem hf179_0 : fieldT Tryd.prog 179 0 = some (0, 69, false) := by kernel_rfl
@[go_sem] theorem hf179_1 : fieldT Tryd.prog 179 1 = some (1, 51, false) := by kernel_rfl
@[go_sem] theorem hf179_2 : fieldT Tryd.prog 179 2 = some (3, 51, false) := by kernel_rfl
@[go_sem] theorem hf179_3 : fieldT Tryd.prog 179 3 = some (5, 3, false) := by kernel_rfl
@[go_sem] theorem hf179_4 : fieldT Tryd.prog 179 4 = some (6, 72, false) := by kernel_rfl
@[go_sem] theorem hit179 : ((Tryd.prog.underlying 179).isSome && !itT Tryd.prog 179) = true := by kernel_rfl
@[go_sem] theorem hc182 : cellsT Tryd.prog 182 = some 1 := by kernel_rfl
@[go_sem] theorem hit182 : ((Tryd.prog.underlying 182).isSome && !itT Tryd.prog 182) = true := by kernel_rfl
@[go_sem] theorem hc183 : cellsT Tryd.prog 183 = some 1 := by kernel_rfl
@[go_sem] theorem hsl183 : slT Tryd.prog 183 = some 1 := by kernel_rfl
@[go_sem] theorem hel183 : elB Tryd.prog 183 = true := by kernel_rfl
@[go_sem] theorem hit183 : ((Tryd.prog.underlying 183).isSome && !itT Tryd.prog 183) = true := by kernel_rfl
@[go_sem] theorem hc186 : cellsT Tryd.prog 186 = some 1 := by kernel_rfl
@[go_sem] theorem hit186 : ((Tryd.prog.underlying 186).isSome && !itT Tryd.prog 186) = true := by kernel_rfl
@[go_sem] theorem hc192 : cellsT Tryd.prog 192 = some 1 := by kernel_rfl
@[go_sem] theorem hc194 : cellsT Tryd.prog 194 = some 1 := by kernel_rfl
@[go_sem] theorem hit194 : ((Tryd.prog.underlying 194).isSome && !itT Tryd.prog 194) = true := by kernel_rfl
@[go_sem] theorem hc195 : cellsT Tryd.prog 195 = some 3 := by kernel_rfl
@[go_sem] theorem hbb195 : buildB Tryd.prog 195 = true := by kernel_rfl
@[go_sem] theorem hpl195_0 : plT Tryd.prog 195 0 = some (0, 1) := by kernel_rfl
@[go_sem] theorem hpl195_1 : plT Tryd.prog 195 1 = some (1, 1) := by kernel_rfl
@[go_sem] theorem hpl195_2 : plT Tryd.prog 195 2 = some (2, 1) := by kernel_rfl
@[go_sem] theorem hf195_0 : fieldT Tryd.prog 195 0 = some (0, 194, false) := by kernel_rfl
@[go_sem] theorem hf195_1 : fieldT Tryd.prog 195 1 = some (1, 98, false) := by kernel_rfl
@[go_sem] theorem hf195_2 : fieldT Tryd.prog 195 2 = some (2, 3, false) := by kernel_rfl
@[go_sem] theorem hit195 : ((Tryd.prog.underlying 195).isSome && !itT Tryd.prog 195) = true := by kernel_rfl
@[go_sem] theorem hc196 : cellsT Tryd.prog 196 = some 3 := by kernel_rfl
@[go_sem] theorem hbb196 : buildB Tryd.prog 196 = true := by kernel_rfl
@[go_sem] theorem hpl196_0 : plT Tryd.prog 196 0 = some (0, 1) := by kernel_rfl
@[go_sem] theorem hpl196_1 : plT Tryd.prog 196 1 = some (1, 1) := by kernel_rfl
@[go_sem] theorem hpl196_2 : plT Tryd.prog 196 2 = some (2, 1) := by kernel_rfl
@[go_sem] theorem hf196_0 : fieldT Tryd.prog 196 0 = some (0, 194, false) := by kernel_rfl
@[go_sem] theorem hf196_1 : fieldT Tryd.prog 196 1 = some (1, 98, false) := by kernel_rfl
@[go_sem] theorem hf196_2 : fieldT Tryd.prog 196 2 = some (2, 3, false) := by kernel_rfl
@[go_sem] theorem hit196 : ((Tryd.prog.underlying 196).isSome && !itT Tryd.prog 196) = true := by kernel_rfl
@[go_sem] theorem hc197 : cellsT Tryd.prog 197 = some 2 := by kernel_rfl
@[go_sem] theorem hbb197 : buildB Tryd.prog 197 = true := by kernel_rfl
@[go_sem] theorem hpl197_0 : plT Tryd.prog 197 0 = some (0, 1) := by kernel_rfl
@[go_sem] theorem hpl197_1 : plT Tryd.prog 197 1 = some (1, 1) := by kernel_rfl
@[go_sem] theorem hf197_0 : fieldT Tryd.prog 197 0 = some (0, 49, false) := by kernel_rfl
@[go_sem] theorem hf197_1 : fieldT Tryd.prog 197 1 = some (1, 3, false) := by kernel_rfl
@[go_sem] theorem hit197 : ((Tryd.prog.underlying 197).isSome && !itT Tryd.prog 197) = true := by kernel_rfl
@[go_sem] theorem hc198 : cellsT Tryd.prog 198 = some 2 := by kernel_rfl
@[go_sem] theorem hbb198 : buildB Tryd.prog 198 = true := by kernel_rfl
@[go_sem] theorem hpl198_0 : plT Tryd.prog 198 0 = some (0, 1) := by kernel_rfl
@[go_sem] theorem hpl198_1 : plT Tryd.prog 198 1 = some (1, 1) := by kernel_rfl
@[go_sem] theorem hf198_0 : fieldT Tryd.prog 198 0 = some (0, 49, false) := by kernel_rfl
@[go_sem] theorem hf198_1 : fieldT Tryd.prog 198 1 = some (1, 3, false) := by kernel_rfl
@[go_sem] theorem hit198 : ((Tryd.prog.underlying 198).isSome && !itT Tryd.prog 198) = true := by kernel_rfl
@[go_sem] theorem hc199 : cellsT Tryd.prog 199 = some 1 := by kernel_rfl
@[go_sem] theorem hsl199 : slT Tryd.prog 199 = some 1 := by kernel_rfl
@[go_sem] theorem hel199 : elB Tryd.prog 199 = true := by kernel_rfl
@[go_sem] theorem hit199 : ((Tryd.prog.underlying 199).isSome && !itT Tryd.prog 199) = true := by kernel_rfl
@[go_sem] theorem hc208 : cellsT Tryd.prog 208 = some 1 := by kernel_rfl
@[go_sem] theorem hit208 : ((Tryd.prog.underlying 208).isSome && !itT Tryd.prog 208) = true := by kernel_rfl
@[go_sem] theorem hc213 : cellsT Tryd.prog 213 = some 1 := by kernel_rfl
@[go_sem] theorem hit213 : ((Tryd.prog.underlying 213).isSome && !itT Tryd.prog 213) = true := by kernel_rfl
@[go_sem] theorem hc216 : cellsT Tryd.prog 216 = some 1 := by kernel_rfl
@[go_sem] theorem hit216 : ((Tryd.prog.underlying 216).isSome && !itT Tryd.prog 216) = true := by kernel_rfl
@[go_sem] theorem hc220 : cellsT Tryd.prog 220 = some 1 := by kernel_rfl
@[go_sem] theorem hc222 : cellsT Tryd.prog 222 = some 1 := by kernel_rfl
@[go_sem] theorem hit222 : ((Tryd.prog.underlying 222).isSome && !itT Tryd.prog 222) = true := by kernel_rfl
@[go_sem] theorem hc223 : cellsT Tryd.prog 223 = some 3 := by kernel_rfl
@[go_sem] theorem hbb223 : buildB Tryd.prog 223 = true := by kernel_rfl
@[go_sem] theorem hpl223_0 : plT Tryd.prog 223 0 = some (0, 1) := by kernel_rfl
@[go_sem] theorem hpl223_1 : plT Tryd.prog 223 1 = some (1, 1) := by kernel_rfl
@[go_sem] theorem hpl223_2 : plT Tryd.prog 223 2 = some (2, 1) := by kernel_rfl
@[go_sem] theorem hf223_0 : fieldT Tryd.prog 223 0 = some (0, 9, false) := by kernel_rfl
@[go_sem] theorem hf223_1 : fieldT Tryd.prog 223 1 = some (1, 3, false) := by kernel_rfl
@[go_sem] theorem hf223_2 : fieldT Tryd.prog 223 2 = some (2, 29, false) := by kernel_rfl
@[go_sem] theorem hit223 : ((Tryd.prog.underlying 223).isSome && !itT Tryd.prog 223) = true := by kernel_rfl
@[go_sem] theorem hc224 : cellsT Tryd.prog 224 = some 3 := by kernel_rfl
@[go_sem] theorem hbb224 : buildB Tryd.prog 224 = true := by kernel_rfl
@[go_sem] theorem hpl224_0 : plT Tryd.prog 224 0 = some (0, 1) := by kernel_rfl
@[go_sem] theorem hpl224_1 : plT Tryd.prog 224 1 = some (1, 1) := by kernel_rfl
@[go_sem] theorem hpl224_2 : plT Tryd.prog 224 2 = some (2, 1) := by kernel_rfl
@[go_sem] theorem hf224_0 : fieldT Tryd.prog 224 0 = some (0, 9, false) := by kernel_rfl
@[go_sem] theorem hf224_1 : fieldT Tryd.prog 224 1 = some (1, 3, false) := by kernel_rfl
@[go_sem] theorem hf224_2 : fieldT Tryd.prog 224 2 = some (2, 29, false) := by kernel_rfl
@[go_sem] theorem hit224 : ((Tryd.prog.underlying 224).isSome && !itT Tryd.prog 224) = true := by kernel_rfl
@[go_sem] theorem hc227 : cellsT Tryd.prog 227 = some 1 := by kernel_rfl
@[go_sem] theorem hc229 : cellsT Tryd.prog 229 = some 64 := by kernel_rfl
@[go_sem] theorem hpl229 (i : Nat) : plT Tryd.prog 229 i = some (i * 1, 1) := by kernel_rfl
@[go_sem] theorem hbb229 : buildB Tryd.prog 229 = true := by kernel_rfl
@[go_sem] theorem har229 : arT Tryd.prog 229 = some (64, 5, 1) := by kernel_rfl
@[go_sem] theorem hit229 : ((Tryd.prog.underlying 229).isSome && !itT Tryd.prog 229) = true := by kernel_rfl
@[go_sem] theorem hc230 : cellsT Tryd.prog 230 = some 1 := by kernel_rfl
@[go_sem] theorem hit230 : ((Tryd.prog.underlying 230).isSome && !itT Tryd.prog 230) = true := by kernel_rfl
@[go_sem] theorem hc240 : cellsT Tryd.prog 240 = some 1 := by kernel_rfl
@[go_sem] theorem hit240 : ((Tryd.prog.underlying 240).isSome && !itT Tryd.prog 240) = true := by kernel_rfl
@[go_sem] theorem hc241 : cellsT Tryd.prog 241 = some 1 := by kernel_rfl
@[go_sem] theorem hit241 : ((Tryd.prog.underlying 241).isSome && !itT Tryd.prog 241) = true := by kernel_rfl
@[go_sem] theorem hc242 : cellsT Tryd.prog 242 = some 3 := by kernel_rfl
@[go_sem] theorem hbb242 : buildB Tryd.prog 242 = true := by kernel_rfl
@[go_sem] theorem hpl242_0 : plT Tryd.prog 242 0 = some (0, 1) := by kernel_rfl
@[go_sem] theorem hpl242_1 : plT Tryd.prog 242 1 = some (1, 1) := by kernel_rfl
@[go_sem] theorem hpl242_2 : plT Tryd.prog 242 2 = some (2, 1) := by kernel_rfl
@[go_sem] theorem hf242_0 : fieldT Tryd.prog 242 0 = some (0, 17, false) := by kernel_rfl
@[go_sem] theorem hf242_1 : fieldT Tryd.prog 242 1 = some (1, 240, false) := by kernel_rfl
@[go_sem] theorem hf242_2 : fieldT Tryd.prog 242 2 = some (2, 241, false) := by kernel_rfl
@[go_sem] theorem hit242 : ((Tryd.prog.underlying 242).isSome && !itT Tryd.prog 242) = true := by kernel_rfl
@[go_sem] theorem hc243 : cellsT Tryd.prog 243 = some 3 := by kernel_rfl
@[go_sem] theorem hbb243 : buildB Tryd.prog 243 = true := by kernel_rfl
@[go_sem] theorem hpl243_0 : plT Tryd.prog 243 0 = some (0, 1) := by kernel_rfl
@[go_sem] theorem hpl243_1 : plT Tryd.prog 243 1 = some (1, 1) := by kernel_rfl
@[go_sem] theorem hpl243_2 : plT Tryd.prog 243 2 = some (2, 1) := by kernel_rfl
@[go_sem] theorem hf243_0 : fieldT Tryd.prog 243 0 = some (0, 17, false) := by kernel_rfl
@[go_sem] theorem hf243_1 : fieldT Tryd.prog 243 1 = some (1, 240, false) := by kernel_rfl
@[go_sem] theorem hf243_2 : fieldT Tryd.prog 243 2 = some (2, 241, false) := by kernel_rfl
@[go_sem] theorem hit243 : ((Tryd.prog.underlying 243).isSome && !itT Tryd.prog 243) = true := by kernel_rfl
@[go_sem] theorem hc245 : cellsT Tryd.prog 245 = some 1 := by kernel_rfl
@[go_sem] theorem hc246 : cellsT Tryd.prog 246 = some 1 := by kernel_rfl
@[go_sem] theorem hc248 : cellsT Tryd.prog 248 = some 1 := by kernel_rfl
@[go_sem] theorem hit248 : ((Tryd.prog.underlying 248).isSome && !itT Tryd.prog 248) = true := by kernel_rfl
@[go_sem] theorem hc255 : cellsT Tryd.prog 255 = some 1 := by kernel_rfl
@[go_sem] theorem hc257 : cellsT Tryd.prog 257 = some 1 := by kernel_rfl
@[go_sem] theorem hit257 : ((Tryd.prog.underlying 257).isSome && !itT Tryd.prog 257) = true := by kernel_rfl
@[go_sem] theorem hc258 : cellsT Tryd.prog 258 = some 1 := by kernel_rfl
@[go_sem] theorem hit258 : ((Tryd.prog.underlying 258).isSome && !itT Tryd.prog 258) = true := by kernel_rfl
@[go_sem] theorem hc263 : cellsT Tryd.prog 263 = some 1 := by kernel_rfl
@[go_sem] theorem hit263 : ((Tryd.prog.underlying 263).isSome && !itT Tryd.prog 263) = true := by kernel_rfl
@[go_sem] theorem hc267 : cellsT Tryd.prog 267 = some 1 := by kernel_rfl
@[go_sem] theorem hsl267 : slT Tryd.prog 267 = some 1 := by kernel_rfl
@[go_sem] theorem hel267 : elB Tryd.prog 267 = true := by kernel_rfl
@[go_sem] theorem hit267 : ((Tryd.prog.underlying 267).isSome && !itT Tryd.prog 267) = true := by kernel_rfl
@[go_sem] theorem hc268 : cellsT Tryd.prog 268 = some 1 := by kernel_rfl
@[go_sem] theorem hsl268 : slT Tryd.prog 268 = some 1 := by kernel_rfl
@[go_sem] theorem hel268 : elB Tryd.prog 268 = true := by kernel_rfl
@[go_sem] theorem hit268 : ((Tryd.prog.underlying 268).isSome && !itT Tryd.prog 268) = true := by kernel_rfl
@[go_sem] theorem hc270 : cellsT Tryd.prog 270 = some 3 := by kernel_rfl
@[go_sem] theorem hbb270 : buildB Tryd.prog 270 = true := by kernel_rfl
@[go_sem] theorem hpl270_0 : plT Tryd.prog 270 0 = some (0, 1) := by kernel_rfl
@[go_sem] theorem hpl270_1 : plT Tryd.prog 270 1 = some (1, 1) := by kernel_rfl
@[go_sem] theorem hpl270_2 : plT Tryd.prog 270 2 = some (2, 1) := by kernel_rfl
@[go_sem] theorem hf270_0 : fieldT Tryd.prog 270 0 = some (0, 24, false) := by kernel_rfl
@[go_sem] theorem hf270_1 : fieldT Tryd.prog 270 1 = some (1, 3, false) := by kernel_rfl
@[go_sem] theorem hf270_2 : fieldT Tryd.prog 270 2 = some (2, 29, false) := by kernel_rfl
@[go_sem] theorem hit270 : ((Tryd.prog.underlying 270).isSome && !itT Tryd.prog 270) = true := by kernel_rfl
@[go_sem] theorem hc271 : cellsT Tryd.prog 271 = some 3 := by kernel_rfl
@[go_sem] theorem hbb271 : buildB Tryd.prog 271 = true := by kernel_rfl
@[go_sem] theorem hpl271_0 : plT Tryd.prog 271 0 = some (0, 1) := by kernel_rfl
@[go_sem] theorem hpl271_1 : plT Tryd.prog 271 1 = some (1, 1) := by kernel_rfl
@[go_sem] theorem hpl271_2 : plT Tryd.prog 271 2 = some (2, 1) := by kernel_rfl
@[go_sem] theorem hf271_0 : fieldT Tryd.prog 271 0 = some (0, 24, false) := by kernel_rfl
@[go_sem] theorem hf271_1 : fieldT Tryd.prog 271 1 = some (1, 3, false) := by kernel_rfl
@[go_sem] theorem hf271_2 : fieldT Tryd.prog 271 2 = some (2, 29, false) := by kernel_rfl
@[go_sem] theorem hit271 : ((Tryd.prog.underlying 271).isSome && !itT Tryd.prog 271) = true := by kernel_rfl
@[go_sem] theorem hc275 : cellsT Tryd.prog 275 = some 4 := by kernel_rfl
@[go_sem] theorem hbb275 : buildB Tryd.prog 275 = true := by kernel_rfl
@[go_sem] theorem hpl275_0 : plT Tryd.prog 275 0 = some (0, 1) := by kernel_rfl
@[go_sem] theorem hpl275_1 : plT Tryd.prog 275 1 = some (1, 2) := by kernel_rfl
@[go_sem] theorem hpl275_2 : plT Tryd.prog 275 2 = some (3, 1) := by kernel_rfl
@[go_sem] theorem hf275_0 : fieldT Tryd.prog 275 0 = some (0, 49, false) := by kernel_rfl
@[go_sem] theorem hf275_1 : fieldT Tryd.prog 275 1 = some (1, 43, false) := by kernel_rfl
@[go_sem] theorem hf275_2 : fieldT Tryd.prog 275 2 = some (3, 3, false) := by kernel_rfl
@[go_sem] theorem hit275 : ((Tryd.prog.underlying 275).isSome && !itT Tryd.prog 275) = true := by kernel_rfl
@[go_sem] theorem hc276 : cellsT Tryd.prog 276 = some 4 := by kernel_rfl
@[go_sem] theorem hbb276 : buildB Tryd.prog 276 = true := by kernel_rfl
@[go_sem] theorem hpl276_0 : plT Tryd.prog 276 0 = some (0, 1) := by kernel_rfl
@[go_sem] theorem hpl276_1 : plT Tryd.prog 276 1 = some (1, 2) := by kernel_rfl
@[go_sem] theorem hpl276_2 : plT Tryd.prog 276 2 = some (3, 1) := by kernel_rfl
@[go_sem] theorem hf276_0 : fieldT Tryd.prog 276 0 = some (0, 49, false) := by kernel_rfl
@[go_sem] theorem hf276_1 : fieldT Tryd.prog 276 1 = some (1, 43, false) := by kernel_rfl
@[go_sem] theorem hf276_2 : fieldT Tryd.prog 276 2 = some (3, 3, false) := by kernel_rfl
@[go_sem] theorem hit276 : ((Tryd.prog.underlying 276).isSome && !itT Tryd.prog 276) = true := by kernel_rfl
@[go_sem] theorem hc279 : cellsT Tryd.prog 279 = some 4 := by kernel_rfl
@[go_sem] theorem hpl279 (i : Nat) : plT Tryd.prog 279 i = some (i * 1, 1) := by kernel_rfl
@[go_sem] theorem hbb279 : buildB Tryd.prog 279 = true := by kernel_rfl
@[go_sem] theorem har279 : arT Tryd.prog 279 = some (4, 2, 1) := by kernel_rfl
@[go_sem] theorem hit279 : ((Tryd.prog.underlying 279).isSome && !itT Tryd.prog 279) = true := by kernel_rfl
@[go_sem] theorem hc281 : cellsT Tryd.prog 281 = some 1 := by kernel_rfl
@[go_sem] theorem hit281 : ((Tryd.prog.underlying 281).isSome && !itT Tryd.prog 281) = true := by kernel_rfl
@[go_sem] theorem hc282 : cellsT Tryd.prog 282 = some 2 := by kernel_rfl
@[go_sem] theorem hbb282 : buildB Tryd.prog 282 = true := by kernel_rfl
@[go_sem] theorem hpl282_0 : plT Tryd.prog 282 0 = some (0, 1) := by kernel_rfl
@[go_sem] theorem hpl282_1 : plT Tryd.prog 282 1 = some (1, 1) := by kernel_rfl
@[go_sem] theorem hf282_0 : fieldT Tryd.prog 282 0 = some (0, 49, false) := by kernel_rfl
@[go_sem] theorem hf282_1 : fieldT Tryd.prog 282 1 = some (1, 3, false) := by kernel_rfl
@[go_sem] theorem hit282 : ((Tryd.prog.underlying 282).isSome && !itT Tryd.prog 282) = true := by kernel_rfl
@[go_sem] theorem hc283 : cellsT Tryd.prog 283 = some 2 := by kernel_rfl
@[go_sem] theorem hbb283 : buildB Tryd.prog 283 = true := by kernel_rfl
@[go_sem] theorem hpl283_0 : plT Tryd.prog 283 0 = some (0, 1) := by kernel_rfl
@[go_sem] theorem hpl283_1 : plT Tryd.prog 283 1 = some (1, 1) := by kernel_rfl
@[go_sem] theorem hf283_0 : fieldT Tryd.prog 283 0 = some (0, 49, false) := by kernel_rfl
@[go_sem] theorem hf283_1 : fieldT Tryd.prog 283 1 = some (1, 3, false) := by kernel_rfl
@[go_sem] theorem hit283 : ((Tryd.prog.underlying 283).isSome && !itT Tryd.prog 283) = true := by kernel_rfl
@[go_sem] theorem hc285 : cellsT Tryd.prog 285 = some 4 := by kernel_rfl
@[go_sem] theorem hpl285 (i : Nat) : plT Tryd.prog 285 i = some (i * 1, 1) := by kernel_rfl
@[go_sem] theorem hbb285 : buildB Tryd.prog 285 = true := by kernel_rfl
@[go_sem] theorem har285 : arT Tryd.prog 285 = some (4, 40, 1) := by kernel_rfl
@[go_sem] theorem hit285 : ((Tryd.prog.underlying 285).isSome && !itT Tryd.prog 285) = true := by kernel_rfl
@[go_sem] theorem hc289 : cellsT Tryd.prog 289 = some 1 := by kernel_rfl
@[go_sem] theorem hit289 : ((Tryd.prog.underlying 289).isSome && !itT Tryd.prog 289) = true := by kernel_rfl
@[go_sem] theorem hc290 : cellsT Tryd.prog 290 = some 1 := by kernel_rfl
@[go_sem] theorem hc291 : cellsT Tryd.prog 291 = some 2 := by kernel_rfl
@[go_sem] theorem hbb291 : buildB Tryd.prog 291 = true := by kernel_rfl
@[go_sem] theorem hpl291_0 : plT Tryd.prog 291 0 = some (0, 1) := by kernel_rfl
@[go_sem] theorem hpl291_1 : plT Tryd.prog 291 1 = some (1, 1) := by kernel_rfl
@[go_sem] theorem hf291_0 : fieldT Tryd.prog 291 0 = some (0, 49, false) := by kernel_rfl
@[go_sem] theorem hf291_1 : fieldT Tryd.prog 291 1 = some (1, 3, false) := by kernel_rfl
@[go_sem] theorem hit291 : ((Tryd.prog.underlying 291).isSome && !itT Tryd.prog 291) = true := by kernel_rfl
@[go_sem] theorem hc292 : cellsT Tryd.prog 292 = some 2 := by kernel_rfl
@[go_sem] theorem hbb292 : buildB Tryd.prog 292 = true := by kernel_rfl
@[go_sem] theorem hpl292_0 : plT Tryd.prog 292 0 = some (0, 1) := by kernel_rfl
@[go_sem] theorem hpl292_1 : plT Tryd.prog 292 1 = some (1, 1) := by kernel_rfl
@[go_sem] theorem hf292_0 : fieldT Tryd.prog 292 0 = some (0, 49, false) := by kernel_rfl
@[go_sem] theorem hf292_1 : fieldT Tryd.prog 292 1 = some (1, 3, false) := by kernel_rfl
@[go_sem] theorem hit292 : ((Tryd.prog.underlying 292).isSome && !itT Tryd.prog 292) = true := by kernel_rfl
@[go_sem] theorem hc298 : cellsT Tryd.prog 298 = some 1 := by kernel_rfl
@[go_sem] theorem hc299 : cellsT Tryd.prog 299 = some 1 := by kernel_rfl
@[go_sem] theorem hc301 : cellsT Tryd.prog 301 = some 1 := by kernel_rfl
@[go_sem] theorem hc302 : cellsT Tryd.prog 302 = some 1 := by kernel_rfl
@[go_sem] theorem hc303 : cellsT Tryd.prog 303 = some 1 := by kernel_rfl
@[go_sem] theorem hsl303 : slT Tryd.prog 303 = some 1 := by kernel_rfl
@[go_sem] theorem hel303 : elB Tryd.prog 303 = true := by kernel_rfl
@[go_sem] theorem hit303 : ((Tryd.prog.underlying 303).isSome && !itT Tryd.prog 303) = true := by kernel_rfl
@[go_sem] theorem hc305 : cellsT Tryd.prog 305 = some 1 := by kernel_rfl
@[go_sem] theorem hc306 : cellsT Tryd.prog 306 = some 1 := by kernel_rfl
@[go_sem] theorem hc309 : cellsT Tryd.prog 309 = some 1 := by kernel_rfl
@[go_sem] theorem hit309 : ((Tryd.prog.underlying 309).isSome && !itT Tryd.prog 309) = true := by kernel_rfl
@[go_sem] theorem hc311 : cellsT Tryd.prog 311 = some 1 := by kernel_rfl
@[go_sem] theorem hit311 : ((Tryd.prog.underlying 311).isSome && !itT Tryd.prog 311) = true := by kernel_rfl
@[go_sem] theorem hc312 : cellsT Tryd.prog 312 = some 1 := by kernel_rfl
@[go_sem] theorem hc317 : cellsT Tryd.prog 317 = some 1 := by kernel_rfl
@[go_sem] theorem hc327 : cellsT Tryd.prog 327 = some 2 := by kernel_rfl
@[go_sem] theorem hbb327 : buildB Tryd.prog 327 = true := by kernel_rfl
@[go_sem] theorem hpl327_0 : plT Tryd.prog 327 0 = some (0, 1) := by kernel_rfl
@[go_sem] theorem hpl327_1 : plT Tryd.prog 327 1 = some (1, 1) := by kernel_rfl
@[go_sem] theorem hf327_0 : fieldT Tryd.prog 327 0 = some (0, 48, false) := by kernel_rfl
@[go_sem] theorem hf327_1 : fieldT Tryd.prog 327 1 = some (1, 3, false) := by kernel_rfl
@[go_sem] theorem hit327 : ((Tryd.prog.underlying 327).isSome && !itT Tryd.prog 327) = true := by kernel_rfl
@[go_sem] theorem hc328 : cellsT Tryd.prog 328 = some 2 := by kernel_rfl
@[go_sem] theorem hbb328 : buildB Tryd.prog 328 = true := by kernel_rfl
@[go_sem] theorem hpl328_0 : plT Tryd.prog 328 0 = some (0, 1) := by kernel_rfl
@[go_sem] theorem hpl328_1 : plT Tryd.prog 328 1 = some (1, 1) := by kernel_rfl
@[go_sem] theorem hf328_0 : fieldT Tryd.prog 328 0 = some (0, 48, false) := by kernel_rfl
@[go_sem] theorem hf328_1 : fieldT Tryd.prog 328 1 = some (1, 3, false) := by kernel_rfl
@[go_sem] theorem hit328 : ((Tryd.prog.underlying 328).isSome && !itT Tryd.prog 328) = true := by kernel_rfl
@[go_sem] theorem hc333 : cellsT Tryd.prog 333 = some 1 := by kernel_rfl
@[go_sem] theorem hc334 : cellsT Tryd.prog 334 = some 2 := by kernel_rfl
@[go_sem] theorem hpl334 (i : Nat) : plT Tryd.prog 334 i = some (i * 1, 1) := by kernel_rfl
@[go_sem] theorem hbb334 : buildB Tryd.prog 334 = true := by kernel_rfl
@[go_sem] theorem har334 : arT Tryd.prog 334 = some (2, 3, 1) := by kernel_rfl
@[go_sem] theorem hit334 : ((Tryd.prog.underlying 334).isSome && !itT Tryd.prog 334) = true := by kernel_rfl
@[go_sem] theorem hc335 : cellsT Tryd.prog 335 = some 8 := by kernel_rfl
@[go_sem] theorem hpl335 (i : Nat) : plT Tryd.prog 335 i = some (i * 2, 2) := by kernel_rfl
@[go_sem] theorem hbb335 : buildB Tryd.prog 335 = true := by kernel_rfl
@[go_sem] theorem har335 : arT Tryd.prog 335 = some (4, 334, 2) := by kernel_rfl
@[go_sem] theorem hit335 : ((Tryd.prog.underlying 335).isSome && !itT Tryd.prog 335) = true := by kernel_rfl
@[go_sem] theorem hc337 : cellsT Tryd.prog 337 = some 9 := by kernel_rfl
@[go_sem] theorem hpl337 (i : Nat) : plT Tryd.prog 337 i = some (i * 1, 1) := by kernel_rfl
@[go_sem] theorem hbb337 : buildB Tryd.prog 337 = true := by kernel_rfl
@[go_sem] theorem har337 : arT Tryd.prog 337 = some (9, 49, 1) := by kernel_rfl
@[go_sem] theorem hit337 : ((Tryd.prog.underlying 337).isSome && !itT Tryd.prog 337) = true := by kernel_rfl
@[go_sem] theorem hc338 : cellsT Tryd.prog 338 = some 1 := by kernel_rfl
@[go_sem] theorem hc343 : cellsT Tryd.prog 343 = some 1 := by kernel_rfl
@[go_sem] theorem hit343 : ((Tryd.prog.underlying 343).isSome && !itT Tryd.prog 343) = true := by kernel_rfl
@[go_sem] theorem hc346 : cellsT Tryd.prog 346 = some 1 := by kernel_rfl
@[go_sem] theorem hit346 : ((Tryd.prog.underlying 346).isSome && !itT Tryd.prog 346) = true := by kernel_rfl
@[go_sem] theorem hc350 : cellsT Tryd.prog 350 = some 256 := by kernel_rfl
@[go_sem] theorem har350 : arT Tryd.prog 350 = some (256, 48, 1) := by kernel_rfl
@[go_sem] theorem hit350 : ((Tryd.prog.underlying 350).isSome && !itT Tryd.prog 350) = true := by kernel_rfl
@[go_sem] theorem hc352 : cellsT Tryd.prog 352 = some 1 := by kernel_rfl
@[go_sem] theorem hit352 : ((Tryd.prog.underlying 352).isSome && !itT Tryd.prog 352) = true := by kernel_rfl
@[go_sem] theorem hc353 : cellsT Tryd.prog 353 = some 1 := by kernel_rfl
@[go_sem] theorem hc355 : cellsT Tryd.prog 355 = some 4 := by kernel_rfl
@[go_sem] theorem hpl355 (i : Nat) : plT Tryd.prog 355 i = some (i * 1, 1) := by kernel_rfl
@[go_sem] theorem hbb355 : buildB Tryd.prog 355 = true := by kernel_rfl
@[go_sem] theorem har355 : arT Tryd.prog 355 = some (4, 4, 1) := by kernel_rfl
@[go_sem] theorem hit355 : ((Tryd.prog.underlying 355).isSome && !itT Tryd.prog 355) = true := by kernel_rfl
@[go_sem] theorem hc358 : cellsT Tryd.prog 358 = some 16 := by kernel_rfl
@[go_sem] theorem hpl358 (i : Nat) : plT Tryd.prog 358 i = some (i * 1, 1) := by kernel_rfl
@[go_sem] theorem hbb358 : buildB Tryd.prog 358 = true := by kernel_rfl
@[go_sem] theorem har358 : arT Tryd.prog 358 = some (16, 49, 1) := by kernel_rfl
@[go_sem] theorem hit358 : ((Tryd.prog.underlying 358).isSome && !itT Tryd.prog 358) = true := by kernel_rfl
@[go_sem] theorem hc365 : cellsT Tryd.prog 365 = some 1 := by kernel_rfl
@[go_sem] theorem hit365 : ((Tryd.prog.underlying 365).isSome && !itT Tryd.prog 365) = true := by kernel_rfl
@[go_sem] theorem hc366 : cellsT Tryd.prog 366 = some 1 := by kernel_rfl
@[go_sem] theorem hc383 : cellsT Tryd.prog 383 = some 1 := by kernel_rfl
@[go_sem] theorem hit383 : ((Tryd.prog.underlying 383).isSome && !itT Tryd.prog 383) = true := by kernel_rfl
@[go_sem] theorem hc384 : cellsT Tryd.prog 384 = some 1 := by kernel_rfl
@[go_sem] theorem hit384 : ((Tryd.prog.underlying 384).isSome && !itT Tryd.prog 384) = true := by kernel_rfl
@[go_sem] theorem hc385 : cellsT Tryd.prog 385 = some 1 := by kernel_rfl
@[go_sem] theorem hit385 : ((Tryd.prog.underlying 385).isSome && !itT Tryd.prog 385) = true := by kernel_rfl
@[go_sem] theorem hc386 : cellsT Tryd.prog 386 = some 1 := by kernel_rfl
@[go_sem] theorem hit386 : ((Tryd.prog.underlying 386).isSome && !itT Tryd.prog 386) = true := by kernel_rfl
@[go_sem] theorem hc387 : cellsT Tryd.prog 387 = some 1 := by kernel_rfl
@[go_sem] theorem hit387 : ((Tryd.prog.underlying 387).isSome && !itT Tryd.prog 387) = true := by kernel_rfl
@[go_sem] theorem hc388 : cellsT Tryd.prog 388 = some 11 := by kernel_rfl
@[go_sem] theorem hbb388 : buildB Tryd.prog 388 = true := by kernel_rfl
@[go_sem] theorem hpl388_0 : plT Tryd.prog 388 0 = some (0, 1) := by kernel_rfl
@[go_sem] theorem hpl388_1 : plT Tryd.prog 388 1 = some (1, 1) := by kernel_rfl
@[go_sem] theorem hpl388_2 : plT Tryd.prog 388 2 = some (2, 1) := by kernel_rfl
@[go_sem] theorem hpl388_3 : plT Tryd.prog 388 3 = some (3, 1) := by kernel_rfl
@[go_sem] theorem hpl388_4 : plT Tryd.prog 388 4 = some (4, 1) := by kernel_rfl
@[go_sem] theorem hpl388_5 : plT Tryd.prog 388 5 = some (5, 1) := by kernel_rfl
@[go_sem] theorem hpl388_6 : plT Tryd.prog 388 6 = some (6, 1) := by kernel_rfl
@[go_sem] theorem hpl388_7 : plT Tryd.prog 388 7 = some (7, 1) := by kernel_rfl
@[go_sem] theorem hpl388_8 : plT Tryd.prog 388 8 = some (8, 1) := by kernel_rfl
@[go_sem] theorem hpl388_9 : plT Tryd.prog 388 9 = some (9, 1) := by kernel_rfl
@[go_sem] theorem hpl388_10 : plT Tryd.prog 388 10 = some (10, 1) := by kernel_rfl
@[go_sem] theorem hf388_0 : fieldT Tryd.prog 388 0 = some (0, 12, false) := by kernel_rfl
@[go_sem] theorem hf388_1 : fieldT Tryd.prog 388 1 = some (1, 12, false) := by kernel_rfl
@[go_sem] theorem hf388_2 : fieldT Tryd.prog 388 2 = some (2, 48, false) := by kernel_rfl
@[go_sem] theorem hf388_3 : fieldT Tryd.prog 388 3 = some (3, 383, false) := by kernel_rfl
@[go_sem] theorem hf388_4 : fieldT Tryd.prog 388 4 = some (4, 5, false) := by kernel_rfl
@[go_sem] theorem hf388_5 : fieldT Tryd.prog 388 5 = some (5, 5, false) := by kernel_rfl
@[go_sem] theorem hf388_6 : fieldT Tryd.prog 388 6 = some (6, 248, false) := by kernel_rfl
@[go_sem] theorem hf388_7 : fieldT Tryd.prog 388 7 = some (7, 384, false) := by kernel_rfl
@[go_sem] theorem hf388_8 : fieldT Tryd.prog 388 8 = some (8, 385, false) := by kernel_rfl
@[go_sem] theorem hf388_9 : fieldT Tryd.prog 388 9 = some (9, 386, false) := by kernel_rfl
@[go_sem] theorem hf388_10 : fieldT Tryd.prog 388 10 = some (10, 387, false) := by kernel_rfl
@[go_sem] theorem hit388 : ((Tryd.prog.underlying 388).isSome && !itT Tryd.prog 388) = true := by kernel_rfl
@[go_sem] theorem hc389 : cellsT Tryd.prog 389 = some 11 := by kernel_rfl
@[go_sem] theorem hbb389 : buildB Tryd.prog 389 = true := by kernel_rfl
@[go_sem] theorem hpl389_0 : plT Tryd.prog 389 0 = some (0, 1) := by kernel_rfl
@[go_sem] theorem hpl389_1 : plT Tryd.prog 389 1 = some (1, 1) := by kernel_rfl
@[go_sem] theorem hpl389_2 : plT Tryd.prog 389 2 = some (2, 1) := by kernel_rfl
@[go_sem] theorem hpl389_3 : plT Tryd.prog 389 3 = some (3, 1) := by kernel_rfl
@[go_sem] theorem hpl389_4 : plT Tryd.prog 389 4 = some (4, 1) := by kernel_rfl
@[go_sem] theorem hpl389_5 : plT Tryd.prog 389 5 = some (5, 1) := by kernel_rfl
@[go_sem] theorem hpl389_6 : plT Tryd.prog 389 6 = some (6, 1) := by kernel_rfl
@[go_sem] theorem hpl389_7 : plT Tryd.prog 389 7 = some (7, 1) := by kernel_rfl
@[go_sem] theorem hpl389_8 : plT Tryd.prog 389 8 = some (8, 1) := by kernel_rfl
@[go_sem] theorem hpl389_9 : plT Tryd.prog 389 9 = some (9, 1) := by kernel_rfl
@[go_sem] theorem hpl389_10 : plT Tryd.prog 389 10 = some (10, 1) := by kernel_rfl
@[go_sem] theorem hf389_0 : fieldT Tryd.prog 389 0 = some (0, 12, false) := by kernel_rfl
@[go_sem] theorem hf389_1 : fieldT Tryd.prog 389 1 = some (1, 12, false) := by kernel_rfl
@[go_sem] theorem hf389_2 : fieldT Tryd.prog 389 2 = some (2, 48, false) := by kernel_rfl
@[go_sem] theorem hf389_3 : fieldT Tryd.prog 389 3 = some (3, 383, false) := by kernel_rfl
@[go_sem] theorem hf389_4 : fieldT Tryd.prog 389 4 = some (4, 5, false) := by kernel_rfl
@[go_sem] theorem hf389_5 : fieldT Tryd.prog 389 5 = some (5, 5, false) := by kernel_rfl
@[go_sem] theorem hf389_6 : fieldT Tryd.prog 389 6 = some (6, 248, false) := by kernel_rfl
@[go_sem] theorem hf389_7 : fieldT Tryd.prog 389 7 = some (7, 384, false) := by kernel_rfl
@[go_sem] theorem hf389_8 : fieldT Tryd.prog 389 8 = some (8, 385, false) := by kernel_rfl
@[go_sem] theorem hf389_9 : fieldT Tryd.prog 389 9 = some (9, 386, false) := by kernel_rfl
@[go_sem] theorem hf389_10 : fieldT Tryd.prog 389 10 = some (10, 387, false) := by kernel_rfl
@[go_sem] theorem hit389 : ((Tryd.prog.underlying 389).isSome && !itT Tryd.prog 389) = true := by kernel_rfl
@[go_sem] theorem hby3 : bytesT Tryd.prog 3 = some 8 := by kernel_rfl
@[go_sem] theorem hby5 : bytesT Tryd.prog 5 = some 1 := by kernel_rfl
@[go_sem] theorem hby26 : bytesT Tryd.prog 26 = some 32 := by kernel_rfl
@[go_sem] theorem hby29 : bytesT Tryd.prog 29 = some 16 := by kernel_rfl
@[go_sem] theorem hby40 : bytesT Tryd.prog 40 = some 8 := by kernel_rfl
@[go_sem] theorem hby43 : bytesT Tryd.prog 43 = some 16 := by kernel_rfl
@[go_sem] theorem hby49 : bytesT Tryd.prog 49 = some 4 := by kernel_rfl
@[go_sem] theorem hby71 : bytesT Tryd.prog 71 = some 8 := by kernel_rfl
@[go_sem] theorem hby94 : bytesT Tryd.prog 94 = some 16 := by kernel_rfl
@[go_sem] theorem hby97 : bytesT Tryd.prog 97 = some 24 := by kernel_rfl
@[go_sem] theorem hby98 : bytesT Tryd.prog 98 = some 8 := by kernel_rfl
@[go_sem] theorem hby117 : bytesT Tryd.prog 117 = some 136 := by kernel_rfl
@[go_sem] theorem hby123 : bytesT Tryd.prog 123 = some 48 := by kernel_rfl
@[go_sem] theorem hby146 : bytesT Tryd.prog 146 = some 32 := by kernel_rfl
@[go_sem] theorem hby153 : bytesT Tryd.prog 153 = some 16 := by kernel_rfl
@[go_sem] theorem hz1 : zeroT Tryd.prog 1 = some (.nilFunc) := by kernel_rfl
@[go_sem] theorem hz2 : zeroT Tryd.prog 2 = some (.int .i64 0) := by kernel_rfl
@[go_sem] theorem hz3 : zeroT Tryd.prog 3 = some (.int .i64 0) := by kernel_rfl
@[go_sem] theorem hz4 : zeroT Tryd.prog 4 = some (.bool false) := by kernel_rfl
@[go_sem] theorem hz5 : zeroT Tryd.prog 5 = some (.int .u8 0) := by kernel_rfl
@[go_sem] theorem hz6 : zeroT Tryd.prog 6 = some (.int .u8 0) := by kernel_rfl
@[go_sem] theorem hz7 : zeroT Tryd.prog 7 = some (.agg #[.int .i64 0, .int .i64 0, .bool false, .int .u8 0]) := by kernel_rfl
@[go_sem] theorem hz8 : zeroT Tryd.prog 8 = some (.agg #[.int .i64 0, .int .i64 0, .bool false, .int .u8 0]) := by kernel_rfl
@[go_sem] theorem hz9 : zeroT Tryd.prog 9 = some (.string ByteArray.empty) := by kernel_rfl
@[go_sem] theorem hz12 : zeroT Tryd.prog 12 = some (.int .u64 0) := by kernel_rfl
@[go_sem] theorem hz17 : zeroT Tryd.prog 17 = some (.pointer none) := by kernel_rfl
@[go_sem] theorem hz20 : zeroT Tryd.prog 20 = some (.nilIface) := by kernel_rfl
@[go_sem] theorem hz21 : zeroT Tryd.prog 21 = some (.int .i32 0) := by kernel_rfl
@[go_sem] theorem hz22 : zeroT Tryd.prog 22 = some (.slice none 0 0) := by kernel_rfl
@[go_sem] theorem hz24 : zeroT Tryd.prog 24 = some (.slice none 0 0) := by kernel_rfl
@[go_sem] theorem hz25 : zeroT Tryd.prog 25 = some (.agg #[.int .u8 0, .slice none 0 0]) := by kernel_rfl
@[go_sem] theorem hz26 : zeroT Tryd.prog 26 = some (.agg #[.int .u8 0, .slice none 0 0]) := by kernel_rfl
@[go_sem] theorem hz27 : zeroT Tryd.prog 27 = some (.pointer none) := by kernel_rfl
@[go_sem] theorem hz28 : zeroT Tryd.prog 28 = some (.nilIface) := by kernel_rfl
@[go_sem] theorem hz29 : zeroT Tryd.prog 29 = some (.nilIface) := by kernel_rfl
@[go_sem] theorem hz33 : zeroT Tryd.prog 33 = some (.agg #[.slice none 0 0, .int .i64 0, .nilIface]) := by kernel_rfl
@[go_sem] theorem hz34 : zeroT Tryd.prog 34 = some (.agg #[.slice none 0 0, .int .i64 0, .nilIface]) := by kernel_rfl
@[go_sem] theorem hz40 : zeroT Tryd.prog 40 = some (.int .u64 0) := by kernel_rfl
@[go_sem] theorem hz42 : zeroT Tryd.prog 42 = some (.agg #[.int .i64 0, .int .i64 0]) := by kernel_rfl
@[go_sem] theorem hz43 : zeroT Tryd.prog 43 = some (.agg #[.int .i64 0, .int .i64 0]) := by kernel_rfl
@[go_sem] theorem hz44 : zeroT Tryd.prog 44 = some (.slice none 0 0) := by kernel_rfl
@[go_sem] theorem hz45 : zeroT Tryd.prog 45 = some (.pointer none) := by kernel_rfl
@[go_sem] theorem hz48 : zeroT Tryd.prog 48 = some (.int .u32 0) := by kernel_rfl
@[go_sem] theorem hz49 : zeroT Tryd.prog 49 = some (.int .u32 0) := by kernel_rfl
@[go_sem] theorem hz50 : zeroT Tryd.prog 50 = some (.agg #[.pointer none, .int .u32 0]) := by kernel_rfl
@[go_sem] theorem hz51 : zeroT Tryd.prog 51 = some (.agg #[.pointer none, .int .u32 0]) := by kernel_rfl
@[go_sem] theorem hz52 : zeroT Tryd.prog 52 = some (.agg #[.pointer none, .int .u32 0, .int .u64 0]) := by kernel_rfl
@[go_sem] theorem hz53 : zeroT Tryd.prog 53 = some (.agg #[.pointer none, .int .u32 0, .int .u64 0]) := by kernel_rfl
@[go_sem] theorem hz54 : zeroT Tryd.prog 54 = some (.slice none 0 0) := by kernel_rfl
@[go_sem] theorem hz55 : zeroT Tryd.prog 55 = some (.slice none 0 0) := by kernel_rfl
@[go_sem] theorem hz58 : zeroT Tryd.prog 58 = some (.pointer none) := by kernel_rfl
@[go_sem] theorem hz63 : zeroT Tryd.prog 63 = some (.nilFunc) := by kernel_rfl
@[go_sem] theorem hz67 : zeroT Tryd.prog 67 = some (.agg #[.int .i64 0, .int .i64 0, .int .i64 0, .int .i64 0]) := by kernel_rfl
@[go_sem] theorem hz68 : zeroT Tryd.prog 68 = some (.agg #[.int .i64 0, .int .i64 0, .int .i64 0, .int .i64 0]) := by kernel_rfl
@[go_sem] theorem hz69 : zeroT Tryd.prog 69 = some (.pointer none) := by kernel_rfl
@[go_sem] theorem hz71 : zeroT Tryd.prog 71 = some (.int .i64 0) := by kernel_rfl
@[go_sem] theorem hz72 : zeroT Tryd.prog 72 = some (.slice none 0 0) := by kernel_rfl
@[go_sem] theorem hz82 : zeroT Tryd.prog 82 = some (.int .u16 0) := by kernel_rfl
@[go_sem] theorem hz90 : zeroT Tryd.prog 90 = some (.slice none 0 0) := by kernel_rfl
@[go_sem] theorem hz91 : zeroT Tryd.prog 91 = some (.pointer none) := by kernel_rfl
@[go_sem] theorem hz93 : zeroT Tryd.prog 93 = some (.agg #[.int .u32 0, .int .i64 0]) := by kernel_rfl
@[go_sem] theorem hz94 : zeroT Tryd.prog 94 = some (.agg #[.int .u32 0, .int .i64 0]) := by kernel_rfl
@[go_sem] theorem hz95 : zeroT Tryd.prog 95 = some (.slice none 0 0) := by kernel_rfl
@[go_sem] theorem hz96 : zeroT Tryd.prog 96 = some (.agg #[.int .u8 0, .int .i64 0, .int .u32 0]) := by kernel_rfl
@[go_sem] theorem hz97 : zeroT Tryd.prog 97 = some (.agg #[.int .u8 0, .int .i64 0, .int .u32 0]) := by kernel_rfl
@[go_sem] theorem hz98 : zeroT Tryd.prog 98 = some (.int .i64 0) := by kernel_rfl
@[go_sem] theorem hz104 : zeroT Tryd.prog 104 = some (.nilFunc) := by kernel_rfl
@[go_sem] theorem hz107 : zeroT Tryd.prog 107 = some (.slice none 0 0) := by kernel_rfl
@[go_sem] theorem hz108 : zeroT Tryd.prog 108 = some (.pointer none) := by kernel_rfl
@[go_sem] theorem hz110 : zeroT Tryd.prog 110 = some (.pointer none) := by kernel_rfl
@[go_sem] theorem hz111 : zeroT Tryd.prog 111 = some (.agg #[.int .i64 0, .int .u64 0, .int .u64 0, .int .i64 0, .slice none 0 0, .slice none 0 0, .bool false]) := by kernel_rfl
@[go_sem] theorem hz112 : zeroT Tryd.prog 112 = some (.agg #[.int .i64 0, .int .u64 0, .int .u64 0, .int .i64 0, .slice none 0 0, .slice none 0 0, .bool false]) := by kernel_rfl
@[go_sem] theorem hz113 : zeroT Tryd.prog 113 = some (.int .u8 0) := by kernel_rfl
@[go_sem] theorem hz114 : zeroT Tryd.prog 114 = some (.agg #[.int .u8 0, .int .i64 0, .int .i64 0, .int .i64 0, .int .i64 0, .bool false, .int .i64 0, .int .u64 0, .int .u64 0, .int .i64 0, .string ByteArray.empty, .slice none 0 0]) := by kernel_rfl
@[go_sem] theorem hz115 : zeroT Tryd.prog 115 = some (.agg #[.int .u8 0, .int .i64 0, .int .i64 0, .int .i64 0, .int .i64 0, .bool false, .int .i64 0, .int .u64 0, .int .u64 0, .int .i64 0, .string ByteArray.empty, .slice none 0 0]) := by kernel_rfl
@[go_sem] theorem hz116 : zeroT Tryd.prog 116 = some (.agg #[.bool false, .int .i64 0, .int .u8 0, .int .i64 0, .int .i64 0, .int .i64 0, .int .i64 0, .bool false, .int .i64 0, .int .u64 0, .int .u64 0, .int .i64 0, .string ByteArray.empty, .slice none 0 0]) := by kernel_rfl
@[go_sem] theorem hz117 : zeroT Tryd.prog 117 = some (.agg #[.bool false, .int .i64 0, .int .u8 0, .int .i64 0, .int .i64 0, .int .i64 0, .int .i64 0, .bool false, .int .i64 0, .int .u64 0, .int .u64 0, .int .i64 0, .string ByteArray.empty, .slice none 0 0]) := by kernel_rfl
@[go_sem] theorem hz120 : zeroT Tryd.prog 120 = some (.agg #[.int .u16 0, .int .u16 0, .int .u16 0, .int .u16 0, .int .u16 0, .int .u16 0, .int .u16 0, .int .u16 0, .int .u16 0, .int .u16 0, .int .u16 0, .int .u16 0, .int .u16 0, .int .u16 0, .int .u16 0, .int .u16 0]) := by kernel_rfl
@[go_sem] theorem hz121 : zeroT Tryd.prog 121 = some (.agg #[.int .u16 0, .int .u16 0, .int .u16 0, .int .u16 0, .int .u16 0, .int .u16 0, .int .u16 0, .int .u16 0, .int .u16 0, .int .u16 0, .int .u16 0, .int .u16 0, .int .u16 0, .int .u16 0, .int .u16 0, .int .u16 0]) := by kernel_rfl
@[go_sem] theorem hz122 : zeroT Tryd.prog 122 = some (.agg #[.int .i64 0, .int .i64 0, .int .u16 0, .int .u16 0, .int .u16 0, .int .u16 0, .int .u16 0, .int .u16 0, .int .u16 0, .int .u16 0, .int .u16 0, .int .u16 0, .int .u16 0, .int .u16 0, .int .u16 0, .int .u16 0, .int .u16 0, .int .u16 0]) := by kernel_rfl
@[go_sem] theorem hz123 : zeroT Tryd.prog 123 = some (.agg #[.int .i64 0, .int .i64 0, .int .u16 0, .int .u16 0, .int .u16 0, .int .u16 0, .int .u16 0, .int .u16 0, .int .u16 0, .int .u16 0, .int .u16 0, .int .u16 0, .int .u16 0, .int .u16 0, .int .u16 0, .int .u16 0, .int .u16 0, .int .u16 0]) := by kernel_rfl
@[go_sem] theorem hz129 : zeroT Tryd.prog 129 = some (.map none) := by kernel_rfl
@[go_sem] theorem hz130 : zeroT Tryd.prog 130 = some (.agg #[.int .i64 0, .int .u64 0, .int .u64 0, .int .i64 0, .map none, .slice none 0 0, .bool false]) := by kernel_rfl
@[go_sem] theorem hz131 : zeroT Tryd.prog 131 = some (.agg #[.int .i64 0, .int .u64 0, .int .u64 0, .int .i64 0, .map none, .slice none 0 0, .bool false]) := by kernel_rfl
@[go_sem] theorem hz134 : zeroT Tryd.prog 134 = some (.agg #[.int .i64 0, .int .i64 0, .slice none 0 0, .int .i64 0, .slice none 0 0]) := by kernel_rfl
@[go_sem] theorem hz135 : zeroT Tryd.prog 135 = some (.agg #[.int .i64 0, .int .i64 0, .slice none 0 0, .int .i64 0, .slice none 0 0]) := by kernel_rfl
@[go_sem] theorem hz139 : zeroT Tryd.prog 139 = some (.pointer none) := by kernel_rfl
@[go_sem] theorem hz143 : zeroT Tryd.prog 143 = some (.agg #[.int .u32 0, .int .u32 0, .int .u32 0, .int .u32 0]) := by kernel_rfl
@[go_sem] theorem hz144 : zeroT Tryd.prog 144 = some (.agg #[.int .u32 0, .int .u32 0, .int .u32 0, .int .u32 0]) := by kernel_rfl
@[go_sem] theorem hz145 : zeroT Tryd.prog 145 = some (.agg #[.int .u32 0, .int .u32 0, .int .u32 0, .int .u32 0, .int .i64 0, .int .u64 0]) := by kernel_rfl
@[go_sem] theorem hz146 : zeroT Tryd.prog 146 = some (.agg #[.int .u32 0, .int .u32 0, .int .u32 0, .int .u32 0, .int .i64 0, .int .u64 0]) := by kernel_rfl
@[go_sem] theorem hz147 : zeroT Tryd.prog 147 = some (.slice none 0 0) := by kernel_rfl
@[go_sem] theorem hz148 : zeroT Tryd.prog 148 = some (.slice none 0 0) := by kernel_rfl
@[go_sem] theorem hz149 : zeroT Tryd.prog 149 = some (.agg #[.slice none 0 0, .slice none 0 0, .int .i64 0]) := by kernel_rfl
@[go_sem] theorem hz150 : zeroT Tryd.prog 150 = some (.agg #[.slice none 0 0, .slice none 0 0, .int .i64 0]) := by kernel_rfl
@[go_sem] theorem hz153 : zeroT Tryd.prog 153 = some (.agg #[.int .i64 0, .int .i64 0]) := by kernel_rfl
@[go_sem] theorem hz154 : zeroT Tryd.prog 154 = some (.map none) := by kernel_rfl
@[go_sem] theorem hz155 : zeroT Tryd.prog 155 = some (.agg #[.pointer none, .map none]) := by kernel_rfl
@[go_sem] theorem hz156 : zeroT Tryd.prog 156 = some (.agg #[.pointer none, .map none]) := by kernel_rfl
@[go_sem] theorem hz170 : zeroT Tryd.prog 170 = some (.map none) := by kernel_rfl
@[go_sem] theorem hz171 : zeroT Tryd.prog 171 = some (.agg #[.map none]) := by kernel_rfl
@[go_sem] theorem hz172 : zeroT Tryd.prog 172 = some (.agg #[.map none]) := by kernel_rfl
@[go_sem] theorem hz174 : zeroT Tryd.prog 174 = some (.nilFunc) := by kernel_rfl
@[go_sem] theorem hz177 : zeroT Tryd.prog 177 = some (.pointer none) := by kernel_rfl
@[go_sem] theorem hz178 : zeroT Tryd.prog 178 = some (.agg #[.pointer none, .pointer none, .int .u32 0, .pointer none, .int .u32 0, .int .i64 0, .slice none 0 0]) := by kernel_rfl
@[go_sem] theorem hz179 : zeroT Tryd.prog 179 = some (.agg #[.pointer none, .pointer none, .int .u32 0, .pointer none, .int .u32 0, .int .i64 0, .slice none 0 0]) := by kernel_rfl
@[go_sem] theorem hz182 : zeroT Tryd.prog 182 = some (.pointer none) := by kernel_rfl
@[go_sem] theorem hz183 : zeroT Tryd.prog 183 = some (.slice none 0 0) := by kernel_rfl
@[go_sem] theorem hz186 : zeroT Tryd.prog 186 = some (.map none) := by kernel_rfl
@[go_sem] theorem hz194 : zeroT Tryd.prog 194 = some (.map none) := by kernel_rfl
@[go_sem] theorem hz195 : zeroT Tryd.prog 195 = some (.agg #[.map none, .int .i64 0, .int .i64 0]) := by kernel_rfl
@[go_sem] theorem hz196 : zeroT Tryd.prog 196 = some (.agg #[.map none, .int .i64 0, .int .i64 0]) := by kernel_rfl
@[go_sem] theorem hz197 : zeroT Tryd.prog 197 = some (.agg #[.int .u32 0, .int .i64 0]) := by kernel_rfl
@[go_sem] theorem hz198 : zeroT Tryd.prog 198 = some (.agg #[.int .u32 0, .int .i64 0]) := by kernel_rfl
@[go_sem] theorem hz199 : zeroT Tryd.prog 199 = some (.slice none 0 0) := by kernel_rfl
@[go_sem] theorem hz208 : zeroT Tryd.prog 208 = some (.nilFunc) := by kernel_rfl
@[go_sem] theorem hz213 : zeroT Tryd.prog 213 = some (.nilFunc) := by kernel_rfl
@[go_sem] theorem hz216 : zeroT Tryd.prog 216 = some (.pointer none) := by kernel_rfl
@[go_sem] theorem hz222 : zeroT Tryd.prog 222 = some (.pointer none) := by kernel_rfl
@[go_sem] theorem hz223 : zeroT Tryd.prog 223 = some (.agg #[.string ByteArray.empty, .int .i64 0, .nilIface]) := by kernel_rfl
@[go_sem] theorem hz224 : zeroT Tryd.prog 224 = some (.agg #[.string ByteArray.empty, .int .i64 0, .nilIface]) := by kernel_rfl
@[go_sem] theorem hz229 : zeroT Tryd.prog 229 = some (.agg #[.int .u8 0, .int .u8 0, .int .u8 0, .int .u8 0, .int .u8 0, .int .u8 0, .int .u8 0, .int .u8 0, .int .u8 0, .int .u8 0, .int .u8 0, .int .u8 0, .int .u8 0, .int .u8 0, .int .u8 0, .int .u8 0, .int .u8 0, .int .u8 0, .int .u8 0, .int .u8 0, .int .u8 0, .int .u8 0, .int .u8 0, .int .u8 0, .int .u8 0, .int .u8 0, .int .u8 0, .int .u8 0, .int .u8 0, .int .u8 0, .int .u8 0, .int .u8 0, .int .u8 0, .int .u8 0, .int .u8 0, .int .u8 0, .int .u8 0, .int .u8 0, .int .u8 0, .int .u8 0, .int .u8 0, .int .u8 0, .int .u8 0, .int .u8 0, .int .u8 0, .int .u8 0, .int .u8 0, .int .u8 0, .int .u8 0, .int .u8 0, .int .u8 0, .int .u8 0, .int .u8 0, .int .u8 0, .int .u8 0, .int .u8 0, .int .u8 0, .int .u8 0, .int .u8 0, .int .u8 0, .int .u8 0, .int .u8 0, .int .u8 0, .int .u8 0]) := by kernel_rfl
@[go_sem] theorem hz230 : zeroT Tryd.prog 230 = some (.int .u64 0) := by kernel_rfl
@[go_sem] theorem hz240 : zeroT Tryd.prog 240 = some (.pointer none) := by kernel_rfl
@[go_sem] theorem hz241 : zeroT Tryd.prog 241 = some (.int .u64 0) := by kernel_rfl
@[go_sem] theorem hz242 : zeroT Tryd.prog 242 = some (.agg #[.pointer none, .pointer none, .int .u64 0]) := by kernel_rfl
@[go_sem] theorem hz243 : zeroT Tryd.prog 243 = some (.agg #[.pointer none, .pointer none, .int .u64 0]) := by kernel_rfl
@[go_sem] theorem hz245 : zeroT Tryd.prog 245 = some (.nilIface) := by kernel_rfl
@[go_sem] theorem hz246 : zeroT Tryd.prog 246 = some (.nilIface) := by kernel_rfl
@[go_sem] theorem hz248 : zeroT Tryd.prog 248 = some (.int .u8 0) := by kernel_rfl
@[go_sem] theorem hz257 : zeroT Tryd.prog 257 = some (.nilFunc) := by kernel_rfl
@[go_sem] theorem hz258 : zeroT Tryd.prog 258 = some (.nilFunc) := by kernel_rfl
@[go_sem] theorem hz263 : zeroT Tryd.prog 263 = some (.nilFunc) := by kernel_rfl
@[go_sem] theorem hz267 : zeroT Tryd.prog 267 = some (.slice none 0 0) := by kernel_rfl
@[go_sem] theorem hz268 : zeroT Tryd.prog 268 = some (.slice none 0 0) := by kernel_rfl
@[go_sem] theorem hz270 : zeroT Tryd.prog 270 = some (.agg #[.slice none 0 0, .int .i64 0, .nilIface]) := by kernel_rfl
@[go_sem] theorem hz271 : zeroT Tryd.prog 271 = some (.agg #[.slice none 0 0, .int .i64 0, .nilIface]) := by kernel_rfl
@[go_sem] theorem hz275 : zeroT Tryd.prog 275 = some (.agg #[.int .u32 0, .int .i64 0, .int .i64 0, .int .i64 0]) := by kernel_rfl
@[go_sem] theorem hz276 : zeroT Tryd.prog 276 = some (.agg #[.int .u32 0, .int .i64 0, .int .i64 0, .int .i64 0]) := by kernel_rfl
@[go_sem] theorem hz279 : zeroT Tryd.prog 279 = some (.agg #[.int .i64 0, .int .i64 0, .int .i64 0, .int .i64 0]) := by kernel_rfl
@[go_sem] theorem hz281 : zeroT Tryd.prog 281 = some (.map none) := by kernel_rfl
@[go_sem] theorem hz282 : zeroT Tryd.prog 282 = some (.agg #[.int .u32 0, .int .i64 0]) := by kernel_rfl
@[go_sem] theorem hz283 : zeroT Tryd.prog 283 = some (.agg #[.int .u32 0, .int .i64 0]) := by kernel_rfl
@[go_sem] theorem hz285 : zeroT Tryd.prog 285 = some (.agg #[.int .u64 0, .int .u64 0, .int .u64 0, .int .u64 0]) := by kernel_rfl
@[go_sem] theorem hz289 : zeroT Tryd.prog 289 = some (.pointer none) := by kernel_rfl
@[go_sem] theorem hz291 : zeroT Tryd.prog 291 = some (.agg #[.int .u32 0, .int .i64 0]) := by kernel_rfl
@[go_sem] theorem hz292 : zeroT Tryd.prog 292 = some (.agg #[.int .u32 0, .int .i64 0]) := by kernel_rfl
@[go_sem] theorem hz298 : zeroT Tryd.prog 298 = some (.nilIface) := by kernel_rfl
@[go_sem] theorem hz301 : zeroT Tryd.prog 301 = some (.nilIface) := by kernel_rfl
@[go_sem] theorem hz302 : zeroT Tryd.prog 302 = some (.nilIface) := by kernel_rfl
@[go_sem] theorem hz303 : zeroT Tryd.prog 303 = some (.slice none 0 0) := by kernel_rfl
@[go_sem] theorem hz305 : zeroT Tryd.prog 305 = some (.nilIface) := by kernel_rfl
@[go_sem] theorem hz309 : zeroT Tryd.prog 309 = some (.nilFunc) := by kernel_rfl
@[go_sem] theorem hz311 : zeroT Tryd.prog 311 = some (.int .i64 0) := by kernel_rfl
@[go_sem] theorem hz327 : zeroT Tryd.prog 327 = some (.agg #[.int .u32 0, .int .i64 0]) := by kernel_rfl
@[go_sem] theorem hz328 : zeroT Tryd.prog 328 = some (.agg #[.int .u32 0, .int .i64 0]) := by kernel_rfl
@[go_sem] theorem hz334 : zeroT Tryd.prog 334 = some (.agg #[.int .i64 0, .int .i64 0]) := by kernel_rfl
@[go_sem] theorem hz335 : zeroT Tryd.prog 335 = some (.agg #[.int .i64 0, .int .i64 0, .int .i64 0, .int .i64 0, .int .i64 0, .int .i64 0, .int .i64 0, .int .i64 0]) := by kernel_rfl
@[go_sem] theorem hz337 : zeroT Tryd.prog 337 = some (.agg #[.int .u32 0, .int .u32 0, .int .u32 0, .int .u32 0, .int .u32 0, .int .u32 0, .int .u32 0, .int .u32 0, .int .u32 0]) := by kernel_rfl
@[go_sem] theorem hz343 : zeroT Tryd.prog 343 = some (.int .u64 0) := by kernel_rfl
@[go_sem] theorem hz346 : zeroT Tryd.prog 346 = some (.pointer none) := by kernel_rfl
@[go_sem] theorem hz352 : zeroT Tryd.prog 352 = some (.int .u16 0) := by kernel_rfl
@[go_sem] theorem hz355 : zeroT Tryd.prog 355 = some (.agg #[.bool false, .bool false, .bool false, .bool false]) := by kernel_rfl
@[go_sem] theorem hz358 : zeroT Tryd.prog 358 = some (.agg #[.int .u32 0, .int .u32 0, .int .u32 0, .int .u32 0, .int .u32 0, .int .u32 0, .int .u32 0, .int .u32 0, .int .u32 0, .int .u32 0, .int .u32 0, .int .u32 0, .int .u32 0, .int .u32 0, .int .u32 0, .int .u32 0]) := by kernel_rfl
@[go_sem] theorem hz365 : zeroT Tryd.prog 365 = some (.pointer none) := by kernel_rfl
@[go_sem] theorem hz383 : zeroT Tryd.prog 383 = some (.int .u8 0) := by kernel_rfl
@[go_sem] theorem hz384 : zeroT Tryd.prog 384 = some (.nilFunc) := by kernel_rfl
@[go_sem] theorem hz385 : zeroT Tryd.prog 385 = some (.pointer none) := by kernel_rfl
@[go_sem] theorem hz386 : zeroT Tryd.prog 386 = some (.int .i32 0) := by kernel_rfl
@[go_sem] theorem hz387 : zeroT Tryd.prog 387 = some (.int .i32 0) := by kernel_rfl
@[go_sem] theorem hz388 : zeroT Tryd.prog 388 = some (.agg #[.int .u64 0, .int .u64 0, .int .u32 0, .int .u8 0, .int .u8 0, .int .u8 0, .int .u8 0, .nilFunc, .pointer none, .int .i32 0, .int .i32 0]) := by kernel_rfl
@[go_sem] theorem hz389 : zeroT Tryd.prog 389 = some (.agg #[.int .u64 0, .int .u64 0, .int .u32 0, .int .u8 0, .int .u8 0, .int .u8 0, .int .u8 0, .nilFunc, .pointer none, .int .i32 0, .int .i32 0]) := by kernel_rfl
@[go_sem] theorem hcl3 : calleeB Tryd.prog 3 = true := by kernel_rfl
@[go_sem] theorem hcl4 : calleeB Tryd.prog 4 = true := by kernel_rfl
@[go_sem] theorem hcl5 : calleeB Tryd.prog 5 = true := by kernel_rfl
@[go_sem] theorem hcl6 : calleeB Tryd.prog 6 = true := by kernel_rfl
@[go_sem] theorem hcl7 : calleeB Tryd.prog 7 = true := by kernel_rfl
@[go_sem] theorem hcl8 : calleeB Tryd.prog 8 = true := by kernel_rfl
@[go_sem] theorem hcl9 : calleeB Tryd.prog 9 = true := by kernel_rfl
@[go_sem] theorem hcl10 : calleeB Tryd.prog 10 = true := by kernel_rfl
@[go_sem] theorem hcl11 : calleeB Tryd.prog 11 = true := by kernel_rfl
@[go_sem] theorem hcl12 : calleeB Tryd.prog 12 = true := by kernel_rfl
@[go_sem] theorem hcl13 : calleeB Tryd.prog 13 = true := by kernel_rfl
@[go_sem] theorem hcl14 : calleeB Tryd.prog 14 = true := by kernel_rfl
@[go_sem] theorem hcl15 : calleeB Tryd.prog 15 = true := by kernel_rfl
@[go_sem] theorem hcl16 : calleeB Tryd.prog 16 = true := by kernel_rfl
@[go_sem] theorem hcl17 : calleeB Tryd.prog 17 = true := by kernel_rfl
@[go_sem] theorem hcl18 : calleeB Tryd.prog 18 = true := by kernel_rfl
@[go_sem] theorem hcl19 : calleeB Tryd.prog 19 = true := by kernel_rfl
@[go_sem] theorem hcl20 : calleeB Tryd.prog 20 = true := by kernel_rfl
@[go_sem] theorem hcl21 : calleeB Tryd.prog 21 = true := by kernel_rfl
@[go_sem] theorem hcl22 : calleeB Tryd.prog 22 = true := by kernel_rfl
@[go_sem] theorem hcl23 : calleeB Tryd.prog 23 = true := by kernel_rfl
@[go_sem] theorem hcl24 : calleeB Tryd.prog 24 = true := by kernel_rfl
@[go_sem] theorem hcl25 : calleeB Tryd.prog 25 = true := by kernel_rfl
@[go_sem] theorem hcl26 : calleeB Tryd.prog 26 = true := by kernel_rfl
@[go_sem] theorem hcl27 : calleeB Tryd.prog 27 = true := by kernel_rfl
@[go_sem] theorem hcl28 : calleeB Tryd.prog 28 = true := by kernel_rfl
@[go_sem] theorem hcl29 : calleeB Tryd.prog 29 = true := by kernel_rfl
@[go_sem] theorem hcl30 : calleeB Tryd.prog 30 = true := by kernel_rfl
@[go_sem] theorem hcl31 : calleeB Tryd.prog 31 = true := by kernel_rfl
@[go_sem] theorem hcl32 : calleeB Tryd.prog 32 = true := by kernel_rfl
@[go_sem] theorem hcl33 : calleeB Tryd.prog 33 = true := by kernel_rfl
@[go_sem] theorem hcl34 : calleeB Tryd.prog 34 = true := by kernel_rfl
@[go_sem] theorem hcl35 : calleeB Tryd.prog 35 = true := by kernel_rfl
@[go_sem] theorem hcl36 : calleeB Tryd.prog 36 = true := by kernel_rfl
@[go_sem] theorem hcl37 : calleeB Tryd.prog 37 = true := by kernel_rfl
@[go_sem] theorem hcl38 : calleeB Tryd.prog 38 = true := by kernel_rfl
@[go_sem] theorem hcl39 : calleeB Tryd.prog 39 = true := by kernel_rfl
@[go_sem] theorem hcl40 : calleeB Tryd.prog 40 = true := by kernel_rfl
@[go_sem] theorem hcl41 : calleeB Tryd.prog 41 = true := by kernel_rfl
@[go_sem] theorem hcl42 : calleeB Tryd.prog 42 = true := by kernel_rfl
@[go_sem] theorem hcl43 : calleeB Tryd.prog 43 = true := by kernel_rfl
@[go_sem] theorem hcl44 : calleeB Tryd.prog 44 = true := by kernel_rfl
@[go_sem] theorem hcl45 : calleeB Tryd.prog 45 = true := by kernel_rfl
@[go_sem] theorem hcl46 : calleeB Tryd.prog 46 = true := by kernel_rfl
@[go_sem] theorem hcl47 : calleeB Tryd.prog 47 = true := by kernel_rfl
@[go_sem] theorem hcl48 : calleeB Tryd.prog 48 = true := by kernel_rfl
@[go_sem] theorem hcl49 : calleeB Tryd.prog 49 = true := by kernel_rfl
@[go_sem] theorem hcl50 : calleeB Tryd.prog 50 = true := by kernel_rfl
@[go_sem] theorem hcl51 : calleeB Tryd.prog 51 = true := by kernel_rfl
@[go_sem] theorem hcl52 : calleeB Tryd.prog 52 = true := by kernel_rfl
@[go_sem] theorem hcl53 : calleeB Tryd.prog 53 = true := by kernel_rfl
@[go_sem] theorem hcl54 : calleeB Tryd.prog 54 = true := by kernel_rfl
@[go_sem] theorem hcl55 : calleeB Tryd.prog 55 = true := by kernel_rfl
@[go_sem] theorem hcl56 : calleeB Tryd.prog 56 = true := by kernel_rfl
@[go_sem] theorem hcl57 : calleeB Tryd.prog 57 = true := by kernel_rfl
@[go_sem] theorem hcl58 : calleeB Tryd.prog 58 = true := by kernel_rfl
@[go_sem] theorem hcl59 : calleeB Tryd.prog 59 = true := by kernel_rfl
@[go_sem] theorem hcl60 : calleeB Tryd.prog 60 = true := by kernel_rfl
@[go_sem] theorem hcl61 : calleeB Tryd.prog 61 = true := by kernel_rfl
@[go_sem] theorem hcl62 : calleeB Tryd.prog 62 = true := by kernel_rfl
@[go_sem] theorem hcl63 : calleeB Tryd.prog 63 = true := by kernel_rfl
@[go_sem] theorem hcl64 : calleeB Tryd.prog 64 = true := by kernel_rfl
@[go_sem] theorem hcl65 : calleeB Tryd.prog 65 = true := by kernel_rfl
@[go_sem] theorem hcl66 : calleeB Tryd.prog 66 = true := by kernel_rfl
@[go_sem] theorem hcl67 : calleeB Tryd.prog 67 = true := by kernel_rfl
@[go_sem] theorem hcl68 : calleeB Tryd.prog 68 = true := by kernel_rfl
@[go_sem] theorem hcl69 : calleeB Tryd.prog 69 = true := by kernel_rfl
@[go_sem] theorem hcl70 : calleeB Tryd.prog 70 = true := by kernel_rfl
@[go_sem] theorem hcl71 : calleeB Tryd.prog 71 = true := by kernel_rfl
@[go_sem] theorem hcl72 : calleeB Tryd.prog 72 = true := by kernel_rfl
@[go_sem] theorem hcl73 : calleeB Tryd.prog 73 = true := by kernel_rfl
@[go_sem] theorem hcl74 : calleeB Tryd.prog 74 = true := by kernel_rfl
@[go_sem] theorem hcl75 : calleeB Tryd.prog 75 = true := by kernel_rfl
@[go_sem] theorem hcl76 : calleeB Tryd.prog 76 = true := by kernel_rfl
@[go_sem] theorem hcl77 : calleeB Tryd.prog 77 = true := by kernel_rfl
@[go_sem] theorem hcl78 : calleeB Tryd.prog 78 = true := by kernel_rfl
@[go_sem] theorem hcl79 : calleeB Tryd.prog 79 = true := by kernel_rfl
@[go_sem] theorem hcl80 : calleeB Tryd.prog 80 = true := by kernel_rfl
@[go_sem] theorem hcl81 : calleeB Tryd.prog 81 = true := by kernel_rfl
@[go_sem] theorem hcl82 : calleeB Tryd.prog 82 = true := by kernel_rfl
@[go_sem] theorem hcl83 : calleeB Tryd.prog 83 = true := by kernel_rfl
@[go_sem] theorem hcl84 : calleeB Tryd.prog 84 = true := by kernel_rfl
@[go_sem] theorem hcl85 : calleeB Tryd.prog 85 = true := by kernel_rfl
@[go_sem] theorem hcl86 : calleeB Tryd.prog 86 = true := by kernel_rfl
@[go_sem] theorem hcl87 : calleeB Tryd.prog 87 = true := by kernel_rfl
@[go_sem] theorem hcl88 : calleeB Tryd.prog 88 = true := by kernel_rfl
@[go_sem] theorem hcl89 : calleeB Tryd.prog 89 = true := by kernel_rfl
@[go_sem] theorem hcl90 : calleeB Tryd.prog 90 = true := by kernel_rfl
@[go_sem] theorem hcl91 : calleeB Tryd.prog 91 = true := by kernel_rfl
@[go_sem] theorem hcl92 : calleeB Tryd.prog 92 = true := by kernel_rfl
@[go_sem] theorem hcl93 : calleeB Tryd.prog 93 = true := by kernel_rfl
@[go_sem] theorem hcl94 : calleeB Tryd.prog 94 = true := by kernel_rfl
@[go_sem] theorem hcl95 : calleeB Tryd.prog 95 = true := by kernel_rfl
@[go_sem] theorem hcl96 : calleeB Tryd.prog 96 = true := by kernel_rfl
@[go_sem] theorem hcl97 : calleeB Tryd.prog 97 = true := by kernel_rfl
@[go_sem] theorem hcl98 : calleeB Tryd.prog 98 = true := by kernel_rfl
@[go_sem] theorem hcl99 : calleeB Tryd.prog 99 = true := by kernel_rfl
@[go_sem] theorem hcl100 : calleeB Tryd.prog 100 = true := by kernel_rfl
@[go_sem] theorem hcl101 : calleeB Tryd.prog 101 = true := by kernel_rfl
@[go_sem] theorem hcl102 : calleeB Tryd.prog 102 = true := by kernel_rfl
@[go_sem] theorem hcl103 : calleeB Tryd.prog 103 = true := by kernel_rfl
@[go_sem] theorem hcl104 : calleeB Tryd.prog 104 = true := by kernel_rfl
@[go_sem] theorem hcl105 : calleeB Tryd.prog 105 = true := by kernel_rfl
@[go_sem] theorem hcl106 : calleeB Tryd.prog 106 = true := by kernel_rfl
@[go_sem] theorem hcl107 : calleeB Tryd.prog 107 = true := by kernel_rfl
@[go_sem] theorem hcl108 : calleeB Tryd.prog 108 = true := by kernel_rfl
@[go_sem] theorem hcl109 : calleeB Tryd.prog 109 = true := by kernel_rfl
@[go_sem] theorem hcl110 : calleeB Tryd.prog 110 = true := by kernel_rfl
@[go_sem] theorem hcl111 : calleeB Tryd.prog 111 = true := by kernel_rfl
@[go_sem] theorem hcl112 : calleeB Tryd.prog 112 = true := by kernel_rfl
@[go_sem] theorem hcl113 : calleeB Tryd.prog 113 = true := by kernel_rfl
@[go_sem] theorem hcl114 : calleeB Tryd.prog 114 = true := by kernel_rfl
@[go_sem] theorem hcl115 : calleeB Tryd.prog 115 = true := by kernel_rfl
@[go_sem] theorem hcl116 : calleeB Tryd.prog 116 = true := by kernel_rfl
@[go_sem] theorem hcl117 : calleeB Tryd.prog 117 = true := by kernel_rfl
@[go_sem] theorem hcl118 : calleeB Tryd.prog 118 = true := by kernel_rfl
@[go_sem] theorem hcl119 : calleeB Tryd.prog 119 = true := by kernel_rfl
@[go_sem] theorem hcl120 : calleeB Tryd.prog 120 = true := by kernel_rfl
@[go_sem] theorem hcl121 : calleeB Tryd.prog 121 = true := by kernel_rfl
@[go_sem] theorem hcl122 : calleeB Tryd.prog 122 = true := by kernel_rfl
@[go_sem] theorem hcl123 : calleeB Tryd.prog 123 = true := by kernel_rfl
@[go_sem] theorem hcl124 : calleeB Tryd.prog 124 = true := by kernel_rfl
@[go_sem] theorem hcl125 : calleeB Tryd.prog 125 = true := by kernel_rfl
@[go_sem] theorem hcl126 : calleeB Tryd.prog 126 = true := by kernel_rfl
@[go_sem] theorem hcl127 : calleeB Tryd.prog 127 = true := by kernel_rfl
@[go_sem] theorem hcl128 : calleeB Tryd.prog 128 = true := by kernel_rfl
@[go_sem] theorem hcl129 : calleeB Tryd.prog 129 = true := by kernel_rfl
@[go_sem] theorem hcl130 : calleeB Tryd.prog 130 = true := by kernel_rfl
@[go_sem] theorem hcl131 : calleeB Tryd.prog 131 = true := by kernel_rfl
@[go_sem] theorem hcl132 : calleeB Tryd.prog 132 = true := by kernel_rfl
@[go_sem] theorem hcl133 : calleeB Tryd.prog 133 = true := by kernel_rfl
@[go_sem] theorem hcl134 : calleeB Tryd.prog 134 = true := by kernel_rfl
@[go_sem] theorem hcl135 : calleeB Tryd.prog 135 = true := by kernel_rfl
@[go_sem] theorem hcl136 : calleeB Tryd.prog 136 = true := by kernel_rfl
@[go_sem] theorem hcl140 : calleeB Tryd.prog 140 = true := by kernel_rfl
@[go_sem] theorem hcl142 : calleeB Tryd.prog 142 = true := by kernel_rfl
@[go_sem] theorem hcl143 : calleeB Tryd.prog 143 = true := by kernel_rfl
@[go_sem] theorem hcl144 : calleeB Tryd.prog 144 = true := by kernel_rfl
@[go_sem] theorem hcl145 : calleeB Tryd.prog 145 = true := by kernel_rfl
@[go_sem] theorem hcl146 : calleeB Tryd.prog 146 = true := by kernel_rfl
@[go_sem] theorem hcl147 : calleeB Tryd.prog 147 = true := by kernel_rfl
@[go_sem] theorem hcl148 : calleeB Tryd.prog 148 = true := by kernel_rfl
@[go_sem] theorem hcl149 : calleeB Tryd.prog 149 = true := by kernel_rfl
@[go_sem] theorem hcl150 : calleeB Tryd.prog 150 = true := by kernel_rfl
@[go_sem] theorem hcl151 : calleeB Tryd.prog 151 = true := by kernel_rfl
@[go_sem] theorem hcl152 : calleeB Tryd.prog 152 = true := by kernel_rfl
@[go_sem] theorem hcl153 : calleeB Tryd.prog 153 = true := by kernel_rfl
@[go_sem] theorem hcl154 : calleeB Tryd.prog 154 = true := by kernel_rfl
@[go_sem] theorem hcl155 : calleeB Tryd.prog 155 = true := by kernel_rfl
@[go_sem] theorem hcl156 : calleeB Tryd.prog 156 = true := by kernel_rfl
@[go_sem] theorem hcl157 : calleeB Tryd.prog 157 = true := by kernel_rfl
@[go_sem] theorem hcl158 : calleeB Tryd.prog 158 = true := by kernel_rfl
@[go_sem] theorem hcl159 : calleeB Tryd.prog 159 = true := by kernel_rfl
@[go_sem] theorem hcl160 : calleeB Tryd.prog 160 = true := by kernel_rfl
@[go_sem] theorem hcl161 : calleeB Tryd.prog 161 = true := by kernel_rfl
@[go_sem] theorem hcl162 : calleeB Tryd.prog 162 = true := by kernel_rfl
@[go_sem] theorem hcl163 : calleeB Tryd.prog 163 = true := by kernel_rfl
@[go_sem] theorem hcl164 : calleeB Tryd.prog 164 = true := by kernel_rfl
@[go_sem] theorem hcl165 : calleeB Tryd.prog 165 = true := by kernel_rfl
@[go_sem] theorem hcl166 : calleeB Tryd.prog 166 = true := by kernel_rfl
@[go_sem] theorem hcl167 : calleeB Tryd.prog 167 = true := by kernel_rfl
@[go_sem] theorem hcl168 : calleeB Tryd.prog 168 = true := by kernel_rfl
@[go_sem] theorem hcl169 : calleeB Tryd.prog 169 = true := by kernel_rfl
@[go_sem] theorem hcl170 : calleeB Tryd.prog 170 = true := by kernel_rfl
@[go_sem] theorem hcl171 : calleeB Tryd.prog 171 = true := by kernel_rfl
@[go_sem] theorem hcl174 : calleeB Tryd.prog 174 = true := by kernel_rfl
@[go_sem] theorem hcl175 : calleeB Tryd.prog 175 = true := by kernel_rfl
@[go_sem] theorem hcl176 : calleeB Tryd.prog 176 = true := by kernel_rfl
@[go_sem] theorem hcl177 : calleeB Tryd.prog 177 = true := by kernel_rfl
@[go_sem] theorem hcl178 : calleeB Tryd.prog 178 = true := by kernel_rfl
@[go_sem] theorem hcl179 : calleeB Tryd.prog 179 = true := by kernel_rfl
@[go_sem] theorem hcl180 : calleeB Tryd.prog 180 = true := by kernel_rfl
@[go_sem] theorem hcl181 : calleeB Tryd.prog 181 = true := by kernel_rfl
@[go_sem] theorem hcl182 : calleeB Tryd.prog 182 = true := by kernel_rfl
@[go_sem] theorem hcl183 : calleeB Tryd.prog 183 = true := by kernel_rfl
@[go_sem] theorem hcl184 : calleeB Tryd.prog 184 = true := by kernel_rfl
@[go_sem] theorem hcl185 : calleeB Tryd.prog 185 = true := by kernel_rfl
@[go_sem] theorem hcl186 : calleeB Tryd.prog 186 = true := by kernel_rfl
@[go_sem] theorem hcl187 : calleeB Tryd.prog 187 = true := by kernel_rfl
@[go_sem] theorem hcl188 : calleeB Tryd.prog 188 = true := by kernel_rfl
@[go_sem] theorem hcl190 : calleeB Tryd.prog 190 = true := by kernel_rfl
@[go_sem] theorem hcl191 : calleeB Tryd.prog 191 = true := by kernel_rfl
@[go_sem] theorem hcl192 : calleeB Tryd.prog 192 = true := by kernel_rfl
@[go_sem] theorem hcl193 : calleeB Tryd.prog 193 = true := by kernel_rfl
@[go_sem] theorem hcl194 : calleeB Tryd.prog 194 = true := by kernel_rfl
@[go_sem] theorem hcl195 : calleeB Tryd.prog 195 = true := by kernel_rfl
@[go_sem] theorem hcl196 : calleeB Tryd.prog 196 = true := by kernel_rfl
@[go_sem] theorem hcl197 : calleeB Tryd.prog 197 = true := by kernel_rfl
@[go_sem] theorem hcl198 : calleeB Tryd.prog 198 = true := by kernel_rfl
@[go_sem] theorem hcl199 : calleeB Tryd.prog 199 = true := by kernel_rfl
@[go_sem] theorem hcl200 : calleeB Tryd.prog 200 = true := by kernel_rfl
@[go_sem] theorem hcl201 : calleeB Tryd.prog 201 = true := by kernel_rfl
@[go_sem] theorem hcl202 : calleeB Tryd.prog 202 = true := by kernel_rfl
@[go_sem] theorem hcl203 : calleeB Tryd.prog 203 = true := by kernel_rfl
@[go_sem] theorem hcl204 : calleeB Tryd.prog 204 = true := by kernel_rfl
@[go_sem] theorem hcl205 : calleeB Tryd.prog 205 = true := by kernel_rfl
@[go_sem] theorem hcl206 : calleeB Tryd.prog 206 = true := by kernel_rfl
@[go_sem] theorem hcl207 : calleeB Tryd.prog 207 = true := by kernel_rfl
@[go_sem] theorem hcl208 : calleeB Tryd.prog 208 = true := by kernel_rfl
@[go_sem] theorem hcl209 : calleeB Tryd.prog 209 = true := by kernel_rfl
@[go_sem] theorem hcl210 : calleeB Tryd.prog 210 = true := by kernel_rfl
@[go_sem] theorem hcl211 : calleeB Tryd.prog 211 = true := by kernel_rfl
@[go_sem] theorem hcl212 : calleeB Tryd.prog 212 = true := by kernel_rfl
@[go_sem] theorem hcl213 : calleeB Tryd.prog 213 = true := by kernel_rfl
@[go_sem] theorem hcl214 : calleeB Tryd.prog 214 = true := by kernel_rfl
@[go_sem] theorem hcl215 : calleeB Tryd.prog 215 = true := by kernel_rfl
@[go_sem] theorem hcl216 : calleeB Tryd.prog 216 = true := by kernel_rfl
@[go_sem] theorem hcl217 : calleeB Tryd.prog 217 = true := by kernel_rfl
@[go_sem] theorem hcl218 : calleeB Tryd.prog 218 = true := by kernel_rfl
@[go_sem] theorem hcl219 : calleeB Tryd.prog 219 = true := by kernel_rfl
@[go_sem] theorem hcl220 : calleeB Tryd.prog 220 = true := by kernel_rfl
@[go_sem] theorem hcl221 : calleeB Tryd.prog 221 = true := by kernel_rfl
@[go_sem] theorem hcl222 : calleeB Tryd.prog 222 = true := by kernel_rfl
@[go_sem] theorem hcl223 : calleeB Tryd.prog 223 = true := by kernel_rfl
@[go_sem] theorem hcl224 : calleeB Tryd.prog 224 = true := by kernel_rfl
@[go_sem] theorem hcl225 : calleeB Tryd.prog 225 = true := by kernel_rfl
@[go_sem] theorem hcl226 : calleeB Tryd.prog 226 = true := by kernel_rfl
@[go_sem] theorem hcl227 : calleeB Tryd.prog 227 = true := by kernel_rfl
@[go_sem] theorem hcl228 : calleeB Tryd.prog 228 = true := by kernel_rfl
@[go_sem] theorem hcl229 : calleeB Tryd.prog 229 = true := by kernel_rfl
@[go_sem] theorem hcl230 : calleeB Tryd.prog 230 = true := by kernel_rfl
@[go_sem] theorem hcl231 : calleeB Tryd.prog 231 = true := by kernel_rfl
@[go_sem] theorem hcl232 : calleeB Tryd.prog 232 = true := by kernel_rfl
@[go_sem] theorem hcl233 : calleeB Tryd.prog 233 = true := by kernel_rfl
@[go_sem] theorem hcl234 : calleeB Tryd.prog 234 = true := by kernel_rfl
@[go_sem] theorem hcl235 : calleeB Tryd.prog 235 = true := by kernel_rfl
@[go_sem] theorem hcl236 : calleeB Tryd.prog 236 = true := by kernel_rfl
@[go_sem] theorem hcl237 : calleeB Tryd.prog 237 = true := by kernel_rfl
@[go_sem] theorem hcl238 : calleeB Tryd.prog 238 = true := by kernel_rfl
@[go_sem] theorem hcl239 : calleeB Tryd.prog 239 = true := by kernel_rfl
@[go_sem] theorem hcl240 : calleeB Tryd.prog 240 = true := by kernel_rfl
@[go_sem] theorem hcl241 : calleeB Tryd.prog 241 = true := by kernel_rfl
@[go_sem] theorem hcl242 : calleeB Tryd.prog 242 = true := by kernel_rfl
@[go_sem] theorem hcl243 : calleeB Tryd.prog 243 = true := by kernel_rfl
@[go_sem] theorem hcl244 : calleeB Tryd.prog 244 = true := by kernel_rfl
attribute [go_sem] underlying0 underlying1 underlying2 underlying3 underlying4 underlying5 underlying6 underlying7 underlying8 underlying9 underlying12 underlying17 underlying20 underlying21 underlying22 underlying24 underlying25 underlying26 underlying27 underlying28 underlying29 underlying30 underlying33 underlying34 underlying37 underlying40 underlying42 underlying43 underlying44 underlying45 underlying46 underlying48 underlying49 underlying50 underlying51 underlying52 underlying53 underlying54 underlying55 underlying56 underlying58 underlying60 underlying63 underlying65 underlying67 underlying68 underlying69 underlying71 underlying72 underlying73 underlying82 underlying90 underlying91 underlying93 underlying94 underlying95 underlying96 underlying97 underlying98 underlying99 underlying104 underlying107 underlying108 underlying110 underlying111 underlying112 underlying113 underlying114 underlying115 underlying116 underlying117 underlying120 underlying121 underlying122 underlying123 underlying129 underlying130 underlying131 underlying134 underlying135 underlying136 underlying139 underlying140 underlying143 underlying144 underlying145 underlying146 underlying147 underlying148 underlying149 underlying150 underlying153 underlying154 underlying155 underlying156 underlying163 underlying165 underlying168 underlying170 underlying171 underlying172 underlying174 underlying175 underlying177 underlying178 underlying179 underlying182 underlying183 underlying186 underlying192 underlying194 underlying195 underlying196 underlying197 underlying198 underlying199 underlying208 underlying213 underlying216 underlying220 underlying222 underlying223 underlying224 underlying227 underlying229 underlying230 underlying240 underlying241 underlying242 underlying243 underlying245 underlying246 underlying248 underlying255 underlying257 underlying258 underlying263 underlying267 underlying268 underlying270 underlying271 underlying275 underlying276 underlying279 underlying281 underlying282 underlying283 underlying285 underlying289 underlying290 underlying291 underlying292 underlying298 underlying299 underlying301 underlying302 underlying303 underlying305 underlying306 underlying309 underlying311 underlying312 underlying317 underlying327 underlying328 underlying333 underlying334 underlying335 underlying337 underlying338 underlying343 underlying346 underlying350 underlying352 underlying353 underlying355 underlying358 underlying365 underlying366 underlying383 underlying384 underlying385 underlying386 underlying387 underlying388 underlying389
end Go.Proofs.Tryd
