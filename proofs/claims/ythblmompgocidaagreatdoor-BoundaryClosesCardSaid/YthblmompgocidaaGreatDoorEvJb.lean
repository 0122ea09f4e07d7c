/- Closed calls, in other words. -/
import Derived.Test.YthblmompgocidaaGreatDoorEvJa
import Derived.Test.YthblmompgocidaaGreatDoorEvK0
import Derived.Test.YthblmompgocidaaGreatDoorEvK1
import Derived.Test.YthblmompgocidaaGreatDoorEvK2
import Derived.Test.YthblmompgocidaaGreatDoorEvK3
import Derived.Test.YthblmompgocidaaGreatDoorEvK4
set_option linter.all false
namespace Go.Ev.B
open Go.Proofs
def txtOf : Nat → PV
  | 0 => S [40,105,110,116,41,32,45,62,32,105,110,116]
  | 1 => S [123,40,105,110,116,41,32,45,62,32,105,110,116,44,32,105,110,116,125]
  | 2 => S [123,58,97,44,32,40,105,110,116,41,32,45,62,32,105,110,116,125,32,111,114,32,123,58,111,107,44,32,105,110,116,125]
  | 3 => S [108,105,115,116,40,40,105,110,116,41,32,45,62,32,105,110,116,41]
  | 4 => S [37,123,97,58,32,40,105,110,116,41,32,45,62,32,105,110,116,125]
  | 5 => S [105,110,116,32,111,114,32,40,40,105,110,116,41,32,45,62,32,105,110,116,41]
  | 6 => S [123,105,110,116,125,32,111,114,32,40,40,105,110,116,41,32,45,62,32,105,110,116,41]
  | _ => S [40,41,32,45,62,32,105,110,116]
section
variable [E : Env]
theorem c4_0 : Known Tryz.prog 4 [txtOf 0] (.tup [T 0, I 0]) := Known.weak (n := 1000) k19 (by kernel_rfl)
theorem c22_0 : Known Tryz.prog 22 [T 0] (Bo true) := k37
theorem c49_0 : Known Tryz.prog 49 [T 0] (I 0) := k29
theorem c88_0 : Known Tryz.prog 88 [T 0, I 2] (Tk 0 2) := Known.weak (n := 1000) k38 (by kernel_rfl)
theorem c17_0_0_0 : Known Tryz.prog 17 [.agg (ld (.fn (far 0) [109] 1 0)), Tk 0 (fk 0), S (inns.getD 0 []), S (outs.getD 0 [])] (.agg (ld (.nw 0 (inns.getD 0 []) (outs.getD 0 [])))) := Known.weak (n := 1000) k53 (by kernel_rfl)
theorem c17_0_0_1 : Known Tryz.prog 17 [.agg (ld (.fn (far 0) [109] 1 0)), Tk 0 (fk 0), S (inns.getD 0 []), S (outs.getD 1 [])] (.agg (ld (.nw 0 (inns.getD 0 []) (outs.getD 1 [])))) := Known.weak (n := 1000) k54 (by kernel_rfl)
theorem c17_0_1_0 : Known Tryz.prog 17 [.agg (ld (.fn (far 0) [109] 1 0)), Tk 0 (fk 0), S (inns.getD 1 []), S (outs.getD 0 [])] (.agg (ld (.nw 0 (inns.getD 1 []) (outs.getD 0 [])))) := Known.weak (n := 1000) k55 (by kernel_rfl)
theorem c17_0_1_1 : Known Tryz.prog 17 [.agg (ld (.fn (far 0) [109] 1 0)), Tk 0 (fk 0), S (inns.getD 1 []), S (outs.getD 1 [])] (.agg (ld (.nw 0 (inns.getD 1 []) (outs.getD 1 [])))) := Known.weak (n := 1000) k56 (by kernel_rfl)
theorem c17_0_2_0 : Known Tryz.prog 17 [.agg (ld (.fn (far 0) [109] 1 0)), Tk 0 (fk 0), S (inns.getD 2 []), S (outs.getD 0 [])] (.agg (ld (.nw 0 (inns.getD 2 []) (outs.getD 0 [])))) := Known.weak (n := 1000) k57 (by kernel_rfl)
theorem c17_0_2_1 : Known Tryz.prog 17 [.agg (ld (.fn (far 0) [109] 1 0)), Tk 0 (fk 0), S (inns.getD 2 []), S (outs.getD 1 [])] (.agg (ld (.nw 0 (inns.getD 2 []) (outs.getD 1 [])))) := Known.weak (n := 1000) k58 (by kernel_rfl)
theorem c4_1 : Known Tryz.prog 4 [txtOf 1] (.tup [T 1, I 0]) := Known.weak (n := 1000) k76 (by kernel_rfl)
theorem c22_1 : Known Tryz.prog 22 [T 1] (Bo true) := k88
theorem c49_1 : Known Tryz.prog 49 [T 1] (I 0) := k82
theorem c88_1 : Known Tryz.prog 88 [T 1, I 2] (Tk 1 2) := Known.weak (n := 1000) k89 (by kernel_rfl)
theorem c17_1_0_0 : Known Tryz.prog 17 [.agg (ld (.fn (far 1) [109] 1 0)), Tk 1 (fk 1), S (inns.getD 0 []), S (outs.getD 0 [])] (.agg (ld (.nw 1 (inns.getD 0 []) (outs.getD 0 [])))) := Known.weak (n := 1000) k106 (by kernel_rfl)
theorem c17_1_0_1 : Known Tryz.prog 17 [.agg (ld (.fn (far 1) [109] 1 0)), Tk 1 (fk 1), S (inns.getD 0 []), S (outs.getD 1 [])] (.agg (ld (.nw 1 (inns.getD 0 []) (outs.getD 1 [])))) := Known.weak (n := 1000) k107 (by kernel_rfl)
theorem c17_1_1_0 : Known Tryz.prog 17 [.agg (ld (.fn (far 1) [109] 1 0)), Tk 1 (fk 1), S (inns.getD 1 []), S (outs.getD 0 [])] (.agg (ld (.nw 1 (inns.getD 1 []) (outs.getD 0 [])))) := Known.weak (n := 1000) k108 (by kernel_rfl)
theorem c17_1_1_1 : Known Tryz.prog 17 [.agg (ld (.fn (far 1) [109] 1 0)), Tk 1 (fk 1), S (inns.getD 1 []), S (outs.getD 1 [])] (.agg (ld (.nw 1 (inns.getD 1 []) (outs.getD 1 [])))) := Known.weak (n := 1000) k109 (by kernel_rfl)
theorem c17_1_2_0 : Known Tryz.prog 17 [.agg (ld (.fn (far 1) [109] 1 0)), Tk 1 (fk 1), S (inns.getD 2 []), S (outs.getD 0 [])] (.agg (ld (.nw 1 (inns.getD 2 []) (outs.getD 0 [])))) := Known.weak (n := 1000) k110 (by kernel_rfl)
theorem c17_1_2_1 : Known Tryz.prog 17 [.agg (ld (.fn (far 1) [109] 1 0)), Tk 1 (fk 1), S (inns.getD 2 []), S (outs.getD 1 [])] (.agg (ld (.nw 1 (inns.getD 2 []) (outs.getD 1 [])))) := Known.weak (n := 1000) k111 (by kernel_rfl)
theorem c4_2 : Known Tryz.prog 4 [txtOf 2] (.tup [T 2, I 0]) := Known.weak (n := 1000) k149 (by kernel_rfl)
theorem c22_2 : Known Tryz.prog 22 [T 2] (Bo true) := k466
theorem c49_2 : Known Tryz.prog 49 [T 2] (I 0) := k177
theorem c88_2 : Known Tryz.prog 88 [T 2, I 3] (Tk 2 3) := Known.weak (n := 1000) k467 (by kernel_rfl)
theorem c17_2_0_0 : Known Tryz.prog 17 [.agg (ld (.fn (far 2) [109] 1 0)), Tk 2 (fk 2), S (inns.getD 0 []), S (outs.getD 0 [])] (.agg (ld (.nw 2 (inns.getD 0 []) (outs.getD 0 [])))) := Known.weak (n := 1000) k493 (by kernel_rfl)
theorem c17_2_0_1 : Known Tryz.prog 17 [.agg (ld (.fn (far 2) [109] 1 0)), Tk 2 (fk 2), S (inns.getD 0 []), S (outs.getD 1 [])] (.agg (ld (.nw 2 (inns.getD 0 []) (outs.getD 1 [])))) := Known.weak (n := 1000) k494 (by kernel_rfl)
theorem c17_2_1_0 : Known Tryz.prog 17 [.agg (ld (.fn (far 2) [109] 1 0)), Tk 2 (fk 2), S (inns.getD 1 []), S (outs.getD 0 [])] (.agg (ld (.nw 2 (inns.getD 1 []) (outs.getD 0 [])))) := Known.weak (n := 1000) k495 (by kernel_rfl)
theorem c17_2_1_1 : Known Tryz.prog 17 [.agg (ld (.fn (far 2) [109] 1 0)), Tk 2 (fk 2), S (inns.getD 1 []), S (outs.getD 1 [])] (.agg (ld (.nw 2 (inns.getD 1 []) (outs.getD 1 [])))) := Known.weak (n := 1000) k496 (by kernel_rfl)
theorem c17_2_2_0 : Known Tryz.prog 17 [.agg (ld (.fn (far 2) [109] 1 0)), Tk 2 (fk 2), S (inns.getD 2 []), S (outs.getD 0 [])] (.agg (ld (.nw 2 (inns.getD 2 []) (outs.getD 0 [])))) := Known.weak (n := 1000) k497 (by kernel_rfl)
theorem c17_2_2_1 : Known Tryz.prog 17 [.agg (ld (.fn (far 2) [109] 1 0)), Tk 2 (fk 2), S (inns.getD 2 []), S (outs.getD 1 [])] (.agg (ld (.nw 2 (inns.getD 2 []) (outs.getD 1 [])))) := Known.weak (n := 1000) k498 (by kernel_rfl)
theorem c4_3 : Known Tryz.prog 4 [txtOf 3] (.tup [T 3, I 0]) := Known.weak (n := 1000) k517 (by kernel_rfl)
theorem c22_3 : Known Tryz.prog 22 [T 3] (Bo true) := k638
theorem c49_3 : Known Tryz.prog 49 [T 3] (I 0) := k530
theorem c88_3 : Known Tryz.prog 88 [T 3, I 2] (Tk 3 2) := Known.weak (n := 1000) k639 (by kernel_rfl)
theorem c17_3_0_0 : Known Tryz.prog 17 [.agg (ld (.fn (far 3) [109] 1 0)), Tk 3 (fk 3), S (inns.getD 0 []), S (outs.getD 0 [])] (.agg (ld (.nw 3 (inns.getD 0 []) (outs.getD 0 [])))) := Known.weak (n := 1000) k662 (by kernel_rfl)
theorem c17_3_0_1 : Known Tryz.prog 17 [.agg (ld (.fn (far 3) [109] 1 0)), Tk 3 (fk 3), S (inns.getD 0 []), S (outs.getD 1 [])] (.agg (ld (.nw 3 (inns.getD 0 []) (outs.getD 1 [])))) := Known.weak (n := 1000) k663 (by kernel_rfl)
theorem c17_3_1_0 : Known Tryz.prog 17 [.agg (ld (.fn (far 3) [109] 1 0)), Tk 3 (fk 3), S (inns.getD 1 []), S (outs.getD 0 [])] (.agg (ld (.nw 3 (inns.getD 1 []) (outs.getD 0 [])))) := Known.weak (n := 1000) k664 (by kernel_rfl)
theorem c17_3_1_1 : Known Tryz.prog 17 [.agg (ld (.fn (far 3) [109] 1 0)), Tk 3 (fk 3), S (inns.getD 1 []), S (outs.getD 1 [])] (.agg (ld (.nw 3 (inns.getD 1 []) (outs.getD 1 [])))) := Known.weak (n := 1000) k665 (by kernel_rfl)
theorem c17_3_2_0 : Known Tryz.prog 17 [.agg (ld (.fn (far 3) [109] 1 0)), Tk 3 (fk 3), S (inns.getD 2 []), S (outs.getD 0 [])] (.agg (ld (.nw 3 (inns.getD 2 []) (outs.getD 0 [])))) := Known.weak (n := 1000) k666 (by kernel_rfl)
theorem c17_3_2_1 : Known Tryz.prog 17 [.agg (ld (.fn (far 3) [109] 1 0)), Tk 3 (fk 3), S (inns.getD 2 []), S (outs.getD 1 [])] (.agg (ld (.nw 3 (inns.getD 2 []) (outs.getD 1 [])))) := Known.weak (n := 1000) k667 (by kernel_rfl)
theorem c4_4 : Known Tryz.prog 4 [txtOf 4] (.tup [T 4, I 0]) := Known.weak (n := 1000) k685 (by kernel_rfl)
theorem c22_4 : Known Tryz.prog 22 [T 4] (Bo true) := k703
theorem c49_4 : Known Tryz.prog 49 [T 4] (I 0) := k697
theorem c88_4 : Known Tryz.prog 88 [T 4, I 2] (Tk 4 2) := Known.weak (n := 1000) k704 (by kernel_rfl)
theorem c17_4_0_0 : Known Tryz.prog 17 [.agg (ld (.fn (far 4) [109] 1 0)), Tk 4 (fk 4), S (inns.getD 0 []), S (outs.getD 0 [])] (.agg (ld (.nw 4 (inns.getD 0 []) (outs.getD 0 [])))) := Known.weak (n := 1000) k723 (by kernel_rfl)
theorem c17_4_0_1 : Known Tryz.prog 17 [.agg (ld (.fn (far 4) [109] 1 0)), Tk 4 (fk 4), S (inns.getD 0 []), S (outs.getD 1 [])] (.agg (ld (.nw 4 (inns.getD 0 []) (outs.getD 1 [])))) := Known.weak (n := 1000) k724 (by kernel_rfl)
theorem c17_4_1_0 : Known Tryz.prog 17 [.agg (ld (.fn (far 4) [109] 1 0)), Tk 4 (fk 4), S (inns.getD 1 []), S (outs.getD 0 [])] (.agg (ld (.nw 4 (inns.getD 1 []) (outs.getD 0 [])))) := Known.weak (n := 1000) k725 (by kernel_rfl)
theorem c17_4_1_1 : Known Tryz.prog 17 [.agg (ld (.fn (far 4) [109] 1 0)), Tk 4 (fk 4), S (inns.getD 1 []), S (outs.getD 1 [])] (.agg (ld (.nw 4 (inns.getD 1 []) (outs.getD 1 [])))) := Known.weak (n := 1000) k726 (by kernel_rfl)
theorem c17_4_2_0 : Known Tryz.prog 17 [.agg (ld (.fn (far 4) [109] 1 0)), Tk 4 (fk 4), S (inns.getD 2 []), S (outs.getD 0 [])] (.agg (ld (.nw 4 (inns.getD 2 []) (outs.getD 0 [])))) := Known.weak (n := 1000) k727 (by kernel_rfl)
theorem c17_4_2_1 : Known Tryz.prog 17 [.agg (ld (.fn (far 4) [109] 1 0)), Tk 4 (fk 4), S (inns.getD 2 []), S (outs.getD 1 [])] (.agg (ld (.nw 4 (inns.getD 2 []) (outs.getD 1 [])))) := Known.weak (n := 1000) k728 (by kernel_rfl)
theorem c4_5 : Known Tryz.prog 4 [txtOf 5] (.tup [T 5, I 0]) := Known.weak (n := 1000) k740 (by kernel_rfl)
theorem c22_5 : Known Tryz.prog 22 [T 5] (Bo true) := k827
theorem c49_5 : Known Tryz.prog 49 [T 5] (I 0) := k745
theorem c88_5 : Known Tryz.prog 88 [T 5, I 3] (Tk 5 3) := Known.weak (n := 1000) k758 (by kernel_rfl)
theorem c17_5_0_0 : Known Tryz.prog 17 [.agg (ld (.fn (far 5) [109] 1 0)), Tk 5 (fk 5), S (inns.getD 0 []), S (outs.getD 0 [])] (.agg (ld (.nw 5 (inns.getD 0 []) (outs.getD 0 [])))) := Known.weak (n := 1000) k844 (by kernel_rfl)
theorem c17_5_0_1 : Known Tryz.prog 17 [.agg (ld (.fn (far 5) [109] 1 0)), Tk 5 (fk 5), S (inns.getD 0 []), S (outs.getD 1 [])] (.agg (ld (.nw 5 (inns.getD 0 []) (outs.getD 1 [])))) := Known.weak (n := 1000) k845 (by kernel_rfl)
theorem c17_5_1_0 : Known Tryz.prog 17 [.agg (ld (.fn (far 5) [109] 1 0)), Tk 5 (fk 5), S (inns.getD 1 []), S (outs.getD 0 [])] (.agg (ld (.nw 5 (inns.getD 1 []) (outs.getD 0 [])))) := Known.weak (n := 1000) k846 (by kernel_rfl)
theorem c17_5_1_1 : Known Tryz.prog 17 [.agg (ld (.fn (far 5) [109] 1 0)), Tk 5 (fk 5), S (inns.getD 1 []), S (outs.getD 1 [])] (.agg (ld (.nw 5 (inns.getD 1 []) (outs.getD 1 [])))) := Known.weak (n := 1000) k847 (by kernel_rfl)
theorem c17_5_2_0 : Known Tryz.prog 17 [.agg (ld (.fn (far 5) [109] 1 0)), Tk 5 (fk 5), S (inns.getD 2 []), S (outs.getD 0 [])] (.agg (ld (.nw 5 (inns.getD 2 []) (outs.getD 0 [])))) := Known.weak (n := 1000) k848 (by kernel_rfl)
theorem c17_5_2_1 : Known Tryz.prog 17 [.agg (ld (.fn (far 5) [109] 1 0)), Tk 5 (fk 5), S (inns.getD 2 []), S (outs.getD 1 [])] (.agg (ld (.nw 5 (inns.getD 2 []) (outs.getD 1 [])))) := Known.weak (n := 1000) k849 (by kernel_rfl)
theorem c4_6 : Known Tryz.prog 4 [txtOf 6] (.tup [T 6, I 0]) := Known.weak (n := 1000) k865 (by kernel_rfl)
theorem c22_6 : Known Tryz.prog 22 [T 6] (Bo true) := k983
theorem c49_6 : Known Tryz.prog 49 [T 6] (I 0) := k876
theorem c88_6 : Known Tryz.prog 88 [T 6, I 4] (Tk 6 4) := Known.weak (n := 1000) k890 (by kernel_rfl)
theorem c17_6_0_0 : Known Tryz.prog 17 [.agg (ld (.fn (far 6) [109] 1 0)), Tk 6 (fk 6), S (inns.getD 0 []), S (outs.getD 0 [])] (.agg (ld (.nw 6 (inns.getD 0 []) (outs.getD 0 [])))) := Known.weak (n := 1000) k1003 (by kernel_rfl)
theorem c17_6_0_1 : Known Tryz.prog 17 [.agg (ld (.fn (far 6) [109] 1 0)), Tk 6 (fk 6), S (inns.getD 0 []), S (outs.getD 1 [])] (.agg (ld (.nw 6 (inns.getD 0 []) (outs.getD 1 [])))) := Known.weak (n := 1000) k1004 (by kernel_rfl)
theorem c17_6_1_0 : Known Tryz.prog 17 [.agg (ld (.fn (far 6) [109] 1 0)), Tk 6 (fk 6), S (inns.getD 1 []), S (outs.getD 0 [])] (.agg (ld (.nw 6 (inns.getD 1 []) (outs.getD 0 [])))) := Known.weak (n := 1000) k1005 (by kernel_rfl)
theorem c17_6_1_1 : Known Tryz.prog 17 [.agg (ld (.fn (far 6) [109] 1 0)), Tk 6 (fk 6), S (inns.getD 1 []), S (outs.getD 1 [])] (.agg (ld (.nw 6 (inns.getD 1 []) (outs.getD 1 [])))) := Known.weak (n := 1000) k1006 (by kernel_rfl)
theorem c17_6_2_0 : Known Tryz.prog 17 [.agg (ld (.fn (far 6) [109] 1 0)), Tk 6 (fk 6), S (inns.getD 2 []), S (outs.getD 0 [])] (.agg (ld (.nw 6 (inns.getD 2 []) (outs.getD 0 [])))) := Known.weak (n := 1000) k1007 (by kernel_rfl)
theorem c17_6_2_1 : Known Tryz.prog 17 [.agg (ld (.fn (far 6) [109] 1 0)), Tk 6 (fk 6), S (inns.getD 2 []), S (outs.getD 1 [])] (.agg (ld (.nw 6 (inns.getD 2 []) (outs.getD 1 [])))) := Known.weak (n := 1000) k1008 (by kernel_rfl)
theorem c4_7 : Known Tryz.prog 4 [txtOf 7] (.tup [T 7, I 0]) := Known.weak (n := 1000) k1016 (by kernel_rfl)
theorem c22_7 : Known Tryz.prog 22 [T 7] (Bo true) := k1027
theorem c49_7 : Known Tryz.prog 49 [T 7] (I 0) := k1021
theorem c88_7 : Known Tryz.prog 88 [T 7, I 1] (Tk 7 1) := Known.weak (n := 1000) k1028 (by kernel_rfl)
theorem c17_7_0_0 : Known Tryz.prog 17 [.agg (ld (.fn (far 7) [109] 1 0)), Tk 7 (fk 7), S (inns.getD 0 []), S (outs.getD 0 [])] (.agg (ld (.nw 7 (inns.getD 0 []) (outs.getD 0 [])))) := Known.weak (n := 1000) k1041 (by kernel_rfl)
theorem c17_7_0_1 : Known Tryz.prog 17 [.agg (ld (.fn (far 7) [109] 1 0)), Tk 7 (fk 7), S (inns.getD 0 []), S (outs.getD 1 [])] (.agg (ld (.nw 7 (inns.getD 0 []) (outs.getD 1 [])))) := Known.weak (n := 1000) k1042 (by kernel_rfl)
theorem c17_7_1_0 : Known Tryz.prog 17 [.agg (ld (.fn (far 7) [109] 1 0)), Tk 7 (fk 7), S (inns.getD 1 []), S (outs.getD 0 [])] (.agg (ld (.nw 7 (inns.getD 1 []) (outs.getD 0 [])))) := Known.weak (n := 1000) k1043 (by kernel_rfl)
theorem c17_7_1_1 : Known Tryz.prog 17 [.agg (ld (.fn (far 7) [109] 1 0)), Tk 7 (fk 7), S (inns.getD 1 []), S (outs.getD 1 [])] (.agg (ld (.nw 7 (inns.getD 1 []) (outs.getD 1 [])))) := Known.weak (n := 1000) k1044 (by kernel_rfl)
theorem c17_7_2_0 : Known Tryz.prog 17 [.agg (ld (.fn (far 7) [109] 1 0)), Tk 7 (fk 7), S (inns.getD 2 []), S (outs.getD 0 [])] (.agg (ld (.nw 7 (inns.getD 2 []) (outs.getD 0 [])))) := Known.weak (n := 1000) k1045 (by kernel_rfl)
theorem c17_7_2_1 : Known Tryz.prog 17 [.agg (ld (.fn (far 7) [109] 1 0)), Tk 7 (fk 7), S (inns.getD 2 []), S (outs.getD 1 [])] (.agg (ld (.nw 7 (inns.getD 2 []) (outs.getD 1 [])))) := Known.weak (n := 1000) k1046 (by kernel_rfl)
theorem c9 : Known Tryz.prog 9 [] (Bo true) := k1070
theorem c4 : ∀ a, a < 8 → Known Tryz.prog 4 [txtOf a] (.tup [T a, I 0]) := eight c4_0 c4_1 c4_2 c4_3 c4_4 c4_5 c4_6 c4_7
theorem c22 : ∀ a, a < 8 → Known Tryz.prog 22 [T a] (Bo true) := eight c22_0 c22_1 c22_2 c22_3 c22_4 c22_5 c22_6 c22_7
theorem c49 : ∀ a, a < 8 → Known Tryz.prog 49 [T a] (I 0) := eight c49_0 c49_1 c49_2 c49_3 c49_4 c49_5 c49_6 c49_7
theorem c88 : ∀ a, a < 8 → Known Tryz.prog 88 [T a, I (fk a)] (Tk a (fk a)) := eight c88_0 c88_1 c88_2 c88_3 c88_4 c88_5 c88_6 c88_7
theorem c17 {i j : Nat} (hi : i < 3) (hj : j < 2) : ∀ a, a < 8 → Known Tryz.prog 17 [.agg (ld (.fn (far a) [109] 1 0)), Tk a (fk a), S (inns.getD i []), S (outs.getD j [])] (.agg (ld (.nw a (inns.getD i []) (outs.getD j [])))) := by
  match i, hi, j, hj with
  | 0, _, 0, _ => exact eight c17_0_0_0 c17_1_0_0 c17_2_0_0 c17_3_0_0 c17_4_0_0 c17_5_0_0 c17_6_0_0 c17_7_0_0
  | 0, _, 1, _ => exact eight c17_0_0_1 c17_1_0_1 c17_2_0_1 c17_3_0_1 c17_4_0_1 c17_5_0_1 c17_6_0_1 c17_7_0_1
  | 1, _, 0, _ => exact eight c17_0_1_0 c17_1_1_0 c17_2_1_0 c17_3_1_0 c17_4_1_0 c17_5_1_0 c17_6_1_0 c17_7_1_0
  | 1, _, 1, _ => exact eight c17_0_1_1 c17_1_1_1 c17_2_1_1 c17_3_1_1 c17_4_1_1 c17_5_1_1 c17_6_1_1 c17_7_1_1
  | 2, _, 0, _ => exact eight c17_0_2_0 c17_1_2_0 c17_2_2_0 c17_3_2_0 c17_4_2_0 c17_5_2_0 c17_6_2_0 c17_7_2_0
  | 2, _, 1, _ => exact eight c17_0_2_1 c17_1_2_1 c17_2_2_1 c17_3_2_1 c17_4_2_1 c17_5_2_1 c17_6_2_1 c17_7_2_1
end
end Go.Ev.B
