/- The stages put together: whatever the number, the slice and the key, the law's own run answers true. -/
import Derived.Test.YtaceidhlamlmhaaGreatEvConj0
import Derived.Test.YtaceidhlamlmhaaGreatEvConj1
import Derived.Test.YtaceidhlamlmhaaGreatEvConj2
set_option linter.all false
namespace Go.Ev
open Go.Proofs
def Key8 (xk xt : PV) : Prop := (xk = (i 0) ∧ xt = (sb [97])) ∨ (xk = (i 0) ∧ xt = (sb [98])) ∨ (xk = (i 0) ∧ xt = (sb [111,107])) ∨ (xk = (i 0) ∧ xt = (sb [101,114,114,111,114])) ∨ (xk = (i 1) ∧ xt = (sb [])) ∨ (xk = (i 1) ∧ xt = (sb [115])) ∨ (xk = (i 1) ∧ xt = (sb [120,32,121])) ∨ (xk = (i 1) ∧ xt = (sb [97]))
def A19 (a : PV) : Prop := a = (j 8) ∨ a = (j 7) ∨ a = (j 6) ∨ a = (j 5) ∨ a = (j 4) ∨ a = (j 3) ∨ a = (j 2) ∨ a = (j 1) ∨ a = (j 0) ∨ a = (i 0) ∨ a = (i 1) ∨ a = (i 2) ∨ a = (i 3) ∨ a = (i 4) ∨ a = (i 5) ∨ a = (i 6) ∨ a = (i 7) ∨ a = (i 8) ∨ a = (i 9)
theorem s6_0 {a xk xt : PV} (ha : A19 a) (hx : Key8 xk xt) (b1 b2 b3 : Blk) : Leads r6 (ask bk0) [(7, a), (9, .ptr 4 0), (4, .ptr 0 0)] ⟨[(4, kb xk xt), (3, b3), (2, b2), (1, b1), (0, kb (i 0) (.sym 0))], 5⟩ [(6, .v (.bool true))] ⟨[(4, kb xk xt), (3, b3), (2, b2), (1, b1), (0, kb (i 0) (.sym 0))], 5⟩ := by
  rcases ha with rfl | rfl | rfl | rfl | rfl | rfl | rfl | rfl | rfl | rfl | rfl | rfl | rfl | rfl | rfl | rfl | rfl | rfl | rfl 
  · rcases hx with ⟨rfl, rfl⟩ | ⟨rfl, rfl⟩ | ⟨rfl, rfl⟩ | ⟨rfl, rfl⟩ | ⟨rfl, rfl⟩ | ⟨rfl, rfl⟩ | ⟨rfl, rfl⟩ | ⟨rfl, rfl⟩ 
    · exact s6_0_m9_00 b1 b2 b3
    · exact s6_0_m9_01 b1 b2 b3
    · exact s6_0_m9_02 b1 b2 b3
    · exact s6_0_m9_03 b1 b2 b3
    · exact s6_0_m9_10 b1 b2 b3
    · exact s6_0_m9_11 b1 b2 b3
    · exact s6_0_m9_12 b1 b2 b3
    · exact s6_0_m9_13 b1 b2 b3
  · rcases hx with ⟨rfl, rfl⟩ | ⟨rfl, rfl⟩ | ⟨rfl, rfl⟩ | ⟨rfl, rfl⟩ | ⟨rfl, rfl⟩ | ⟨rfl, rfl⟩ | ⟨rfl, rfl⟩ | ⟨rfl, rfl⟩ 
    · exact s6_0_m8_00 b1 b2 b3
    · exact s6_0_m8_01 b1 b2 b3
    · exact s6_0_m8_02 b1 b2 b3
    · exact s6_0_m8_03 b1 b2 b3
    · exact s6_0_m8_10 b1 b2 b3
    · exact s6_0_m8_11 b1 b2 b3
    · exact s6_0_m8_12 b1 b2 b3
    · exact s6_0_m8_13 b1 b2 b3
  · rcases hx with ⟨rfl, rfl⟩ | ⟨rfl, rfl⟩ | ⟨rfl, rfl⟩ | ⟨rfl, rfl⟩ | ⟨rfl, rfl⟩ | ⟨rfl, rfl⟩ | ⟨rfl, rfl⟩ | ⟨rfl, rfl⟩ 
    · exact s6_0_m7_00 b1 b2 b3
    · exact s6_0_m7_01 b1 b2 b3
    · exact s6_0_m7_02 b1 b2 b3
    · exact s6_0_m7_03 b1 b2 b3
    · exact s6_0_m7_10 b1 b2 b3
    · exact s6_0_m7_11 b1 b2 b3
    · exact s6_0_m7_12 b1 b2 b3
    · exact s6_0_m7_13 b1 b2 b3
  · rcases hx with ⟨rfl, rfl⟩ | ⟨rfl, rfl⟩ | ⟨rfl, rfl⟩ | ⟨rfl, rfl⟩ | ⟨rfl, rfl⟩ | ⟨rfl, rfl⟩ | ⟨rfl, rfl⟩ | ⟨rfl, rfl⟩ 
    · exact s6_0_m6_00 b1 b2 b3
    · exact s6_0_m6_01 b1 b2 b3
    · exact s6_0_m6_02 b1 b2 b3
    · exact s6_0_m6_03 b1 b2 b3
    · exact s6_0_m6_10 b1 b2 b3
    · exact s6_0_m6_11 b1 b2 b3
    · exact s6_0_m6_12 b1 b2 b3
    · exact s6_0_m6_13 b1 b2 b3
  · rcases hx with ⟨rfl, rfl⟩ | ⟨rfl, rfl⟩ | ⟨rfl, rfl⟩ | ⟨rfl, rfl⟩ | ⟨rfl, rfl⟩ | ⟨rfl, rfl⟩ | ⟨rfl, rfl⟩ | ⟨rfl, rfl⟩ 
    · exact s6_0_m5_00 b1 b2 b3
    · exact s6_0_m5_01 b1 b2 b3
    · exact s6_0_m5_02 b1 b2 b3
    · exact s6_0_m5_03 b1 b2 b3
    · exact s6_0_m5_10 b1 b2 b3
    · exact s6_0_m5_11 b1 b2 b3
    · exact s6_0_m5_12 b1 b2 b3
    · exact s6_0_m5_13 b1 b2 b3
  · rcases hx with ⟨rfl, rfl⟩ | ⟨rfl, rfl⟩ | ⟨rfl, rfl⟩ | ⟨rfl, rfl⟩ | ⟨rfl, rfl⟩ | ⟨rfl, rfl⟩ | ⟨rfl, rfl⟩ | ⟨rfl, rfl⟩ 
    · exact s6_0_m4_00 b1 b2 b3
    · exact s6_0_m4_01 b1 b2 b3
    · exact s6_0_m4_02 b1 b2 b3
    · exact s6_0_m4_03 b1 b2 b3
    · exact s6_0_m4_10 b1 b2 b3
    · exact s6_0_m4_11 b1 b2 b3
    · exact s6_0_m4_12 b1 b2 b3
    · exact s6_0_m4_13 b1 b2 b3
  · rcases hx with ⟨rfl, rfl⟩ | ⟨rfl, rfl⟩ | ⟨rfl, rfl⟩ | ⟨rfl, rfl⟩ | ⟨rfl, rfl⟩ | ⟨rfl, rfl⟩ | ⟨rfl, rfl⟩ | ⟨rfl, rfl⟩ 
    · exact s6_0_m3_00 b1 b2 b3
    · exact s6_0_m3_01 b1 b2 b3
    · exact s6_0_m3_02 b1 b2 b3
    · exact s6_0_m3_03 b1 b2 b3
    · exact s6_0_m3_10 b1 b2 b3
    · exact s6_0_m3_11 b1 b2 b3
    · exact s6_0_m3_12 b1 b2 b3
    · exact s6_0_m3_13 b1 b2 b3
  · rcases hx with ⟨rfl, rfl⟩ | ⟨rfl, rfl⟩ | ⟨rfl, rfl⟩ | ⟨rfl, rfl⟩ | ⟨rfl, rfl⟩ | ⟨rfl, rfl⟩ | ⟨rfl, rfl⟩ | ⟨rfl, rfl⟩ 
    · exact s6_0_m2_00 b1 b2 b3
    · exact s6_0_m2_01 b1 b2 b3
    · exact s6_0_m2_02 b1 b2 b3
    · exact s6_0_m2_03 b1 b2 b3
    · exact s6_0_m2_10 b1 b2 b3
    · exact s6_0_m2_11 b1 b2 b3
    · exact s6_0_m2_12 b1 b2 b3
    · exact s6_0_m2_13 b1 b2 b3
  · rcases hx with ⟨rfl, rfl⟩ | ⟨rfl, rfl⟩ | ⟨rfl, rfl⟩ | ⟨rfl, rfl⟩ | ⟨rfl, rfl⟩ | ⟨rfl, rfl⟩ | ⟨rfl, rfl⟩ | ⟨rfl, rfl⟩ 
    · exact s6_0_m1_00 b1 b2 b3
    · exact s6_0_m1_01 b1 b2 b3
    · exact s6_0_m1_02 b1 b2 b3
    · exact s6_0_m1_03 b1 b2 b3
    · exact s6_0_m1_10 b1 b2 b3
    · exact s6_0_m1_11 b1 b2 b3
    · exact s6_0_m1_12 b1 b2 b3
    · exact s6_0_m1_13 b1 b2 b3
  · rcases hx with ⟨rfl, rfl⟩ | ⟨rfl, rfl⟩ | ⟨rfl, rfl⟩ | ⟨rfl, rfl⟩ | ⟨rfl, rfl⟩ | ⟨rfl, rfl⟩ | ⟨rfl, rfl⟩ | ⟨rfl, rfl⟩ 
    · exact s6_0_0_00 b1 b2 b3
    · exact s6_0_0_01 b1 b2 b3
    · exact s6_0_0_02 b1 b2 b3
    · exact s6_0_0_03 b1 b2 b3
    · exact s6_0_0_10 b1 b2 b3
    · exact s6_0_0_11 b1 b2 b3
    · exact s6_0_0_12 b1 b2 b3
    · exact s6_0_0_13 b1 b2 b3
  · rcases hx with ⟨rfl, rfl⟩ | ⟨rfl, rfl⟩ | ⟨rfl, rfl⟩ | ⟨rfl, rfl⟩ | ⟨rfl, rfl⟩ | ⟨rfl, rfl⟩ | ⟨rfl, rfl⟩ | ⟨rfl, rfl⟩ 
    · exact s6_0_1_00 b1 b2 b3
    · exact s6_0_1_01 b1 b2 b3
    · exact s6_0_1_02 b1 b2 b3
    · exact s6_0_1_03 b1 b2 b3
    · exact s6_0_1_10 b1 b2 b3
    · exact s6_0_1_11 b1 b2 b3
    · exact s6_0_1_12 b1 b2 b3
    · exact s6_0_1_13 b1 b2 b3
  · rcases hx with ⟨rfl, rfl⟩ | ⟨rfl, rfl⟩ | ⟨rfl, rfl⟩ | ⟨rfl, rfl⟩ | ⟨rfl, rfl⟩ | ⟨rfl, rfl⟩ | ⟨rfl, rfl⟩ | ⟨rfl, rfl⟩ 
    · exact s6_0_2_00 b1 b2 b3
    · exact s6_0_2_01 b1 b2 b3
    · exact s6_0_2_02 b1 b2 b3
    · exact s6_0_2_03 b1 b2 b3
    · exact s6_0_2_10 b1 b2 b3
    · exact s6_0_2_11 b1 b2 b3
    · exact s6_0_2_12 b1 b2 b3
    · exact s6_0_2_13 b1 b2 b3
  · rcases hx with ⟨rfl, rfl⟩ | ⟨rfl, rfl⟩ | ⟨rfl, rfl⟩ | ⟨rfl, rfl⟩ | ⟨rfl, rfl⟩ | ⟨rfl, rfl⟩ | ⟨rfl, rfl⟩ | ⟨rfl, rfl⟩ 
    · exact s6_0_3_00 b1 b2 b3
    · exact s6_0_3_01 b1 b2 b3
    · exact s6_0_3_02 b1 b2 b3
    · exact s6_0_3_03 b1 b2 b3
    · exact s6_0_3_10 b1 b2 b3
    · exact s6_0_3_11 b1 b2 b3
    · exact s6_0_3_12 b1 b2 b3
    · exact s6_0_3_13 b1 b2 b3
  · rcases hx with ⟨rfl, rfl⟩ | ⟨rfl, rfl⟩ | ⟨rfl, rfl⟩ | ⟨rfl, rfl⟩ | ⟨rfl, rfl⟩ | ⟨rfl, rfl⟩ | ⟨rfl, rfl⟩ | ⟨rfl, rfl⟩ 
    · exact s6_0_4_00 b1 b2 b3
    · exact s6_0_4_01 b1 b2 b3
    · exact s6_0_4_02 b1 b2 b3
    · exact s6_0_4_03 b1 b2 b3
    · exact s6_0_4_10 b1 b2 b3
    · exact s6_0_4_11 b1 b2 b3
    · exact s6_0_4_12 b1 b2 b3
    · exact s6_0_4_13 b1 b2 b3
  · rcases hx with ⟨rfl, rfl⟩ | ⟨rfl, rfl⟩ | ⟨rfl, rfl⟩ | ⟨rfl, rfl⟩ | ⟨rfl, rfl⟩ | ⟨rfl, rfl⟩ | ⟨rfl, rfl⟩ | ⟨rfl, rfl⟩ 
    · exact s6_0_5_00 b1 b2 b3
    · exact s6_0_5_01 b1 b2 b3
    · exact s6_0_5_02 b1 b2 b3
    · exact s6_0_5_03 b1 b2 b3
    · exact s6_0_5_10 b1 b2 b3
    · exact s6_0_5_11 b1 b2 b3
    · exact s6_0_5_12 b1 b2 b3
    · exact s6_0_5_13 b1 b2 b3
  · rcases hx with ⟨rfl, rfl⟩ | ⟨rfl, rfl⟩ | ⟨rfl, rfl⟩ | ⟨rfl, rfl⟩ | ⟨rfl, rfl⟩ | ⟨rfl, rfl⟩ | ⟨rfl, rfl⟩ | ⟨rfl, rfl⟩ 
    · exact s6_0_6_00 b1 b2 b3
    · exact s6_0_6_01 b1 b2 b3
    · exact s6_0_6_02 b1 b2 b3
    · exact s6_0_6_03 b1 b2 b3
    · exact s6_0_6_10 b1 b2 b3
    · exact s6_0_6_11 b1 b2 b3
    · exact s6_0_6_12 b1 b2 b3
    · exact s6_0_6_13 b1 b2 b3
  · rcases hx with ⟨rfl, rfl⟩ | ⟨rfl, rfl⟩ | ⟨rfl, rfl⟩ | ⟨rfl, rfl⟩ | ⟨rfl, rfl⟩ | ⟨rfl, rfl⟩ | ⟨rfl, rfl⟩ | ⟨rfl, rfl⟩ 
    · exact s6_0_7_00 b1 b2 b3
    · exact s6_0_7_01 b1 b2 b3
    · exact s6_0_7_02 b1 b2 b3
    · exact s6_0_7_03 b1 b2 b3
    · exact s6_0_7_10 b1 b2 b3
    · exact s6_0_7_11 b1 b2 b3
    · exact s6_0_7_12 b1 b2 b3
    · exact s6_0_7_13 b1 b2 b3
  · rcases hx with ⟨rfl, rfl⟩ | ⟨rfl, rfl⟩ | ⟨rfl, rfl⟩ | ⟨rfl, rfl⟩ | ⟨rfl, rfl⟩ | ⟨rfl, rfl⟩ | ⟨rfl, rfl⟩ | ⟨rfl, rfl⟩ 
    · exact s6_0_8_00 b1 b2 b3
    · exact s6_0_8_01 b1 b2 b3
    · exact s6_0_8_02 b1 b2 b3
    · exact s6_0_8_03 b1 b2 b3
    · exact s6_0_8_10 b1 b2 b3
    · exact s6_0_8_11 b1 b2 b3
    · exact s6_0_8_12 b1 b2 b3
    · exact s6_0_8_13 b1 b2 b3
  · rcases hx with ⟨rfl, rfl⟩ | ⟨rfl, rfl⟩ | ⟨rfl, rfl⟩ | ⟨rfl, rfl⟩ | ⟨rfl, rfl⟩ | ⟨rfl, rfl⟩ | ⟨rfl, rfl⟩ | ⟨rfl, rfl⟩ 
    · exact s6_0_9_00 b1 b2 b3
    · exact s6_0_9_01 b1 b2 b3
    · exact s6_0_9_02 b1 b2 b3
    · exact s6_0_9_03 b1 b2 b3
    · exact s6_0_9_10 b1 b2 b3
    · exact s6_0_9_11 b1 b2 b3
    · exact s6_0_9_12 b1 b2 b3
    · exact s6_0_9_13 b1 b2 b3
theorem s6_1 {a xk xt : PV} (ha : A19 a) (hx : Key8 xk xt) (b1 b2 b3 : Blk) : Leads r6 (ask bk1) [(7, a), (9, .ptr 4 0), (4, .ptr 0 0)] ⟨[(4, kb xk xt), (3, b3), (2, b2), (1, b1), (0, kb (i 1) (.sym 0))], 5⟩ [(6, .v (.bool true))] ⟨[(4, kb xk xt), (3, b3), (2, b2), (1, b1), (0, kb (i 1) (.sym 0))], 5⟩ := by
  rcases ha with rfl | rfl | rfl | rfl | rfl | rfl | rfl | rfl | rfl | rfl | rfl | rfl | rfl | rfl | rfl | rfl | rfl | rfl | rfl 
  · rcases hx with ⟨rfl, rfl⟩ | ⟨rfl, rfl⟩ | ⟨rfl, rfl⟩ | ⟨rfl, rfl⟩ | ⟨rfl, rfl⟩ | ⟨rfl, rfl⟩ | ⟨rfl, rfl⟩ | ⟨rfl, rfl⟩ 
    · exact s6_1_m9_00 b1 b2 b3
    · exact s6_1_m9_01 b1 b2 b3
    · exact s6_1_m9_02 b1 b2 b3
    · exact s6_1_m9_03 b1 b2 b3
    · exact s6_1_m9_10 b1 b2 b3
    · exact s6_1_m9_11 b1 b2 b3
    · exact s6_1_m9_12 b1 b2 b3
    · exact s6_1_m9_13 b1 b2 b3
  · rcases hx with ⟨rfl, rfl⟩ | ⟨rfl, rfl⟩ | ⟨rfl, rfl⟩ | ⟨rfl, rfl⟩ | ⟨rfl, rfl⟩ | ⟨rfl, rfl⟩ | ⟨rfl, rfl⟩ | ⟨rfl, rfl⟩ 
    · exact s6_1_m8_00 b1 b2 b3
    · exact s6_1_m8_01 b1 b2 b3
    · exact s6_1_m8_02 b1 b2 b3
    · exact s6_1_m8_03 b1 b2 b3
    · exact s6_1_m8_10 b1 b2 b3
    · exact s6_1_m8_11 b1 b2 b3
    · exact s6_1_m8_12 b1 b2 b3
    · exact s6_1_m8_13 b1 b2 b3
  · rcases hx with ⟨rfl, rfl⟩ | ⟨rfl, rfl⟩ | ⟨rfl, rfl⟩ | ⟨rfl, rfl⟩ | ⟨rfl, rfl⟩ | ⟨rfl, rfl⟩ | ⟨rfl, rfl⟩ | ⟨rfl, rfl⟩ 
    · exact s6_1_m7_00 b1 b2 b3
    · exact s6_1_m7_01 b1 b2 b3
    · exact s6_1_m7_02 b1 b2 b3
    · exact s6_1_m7_03 b1 b2 b3
    · exact s6_1_m7_10 b1 b2 b3
    · exact s6_1_m7_11 b1 b2 b3
    · exact s6_1_m7_12 b1 b2 b3
    · exact s6_1_m7_13 b1 b2 b3
  · rcases hx with ⟨rfl, rfl⟩ | ⟨rfl, rfl⟩ | ⟨rfl, rfl⟩ | ⟨rfl, rfl⟩ | ⟨rfl, rfl⟩ | ⟨rfl, rfl⟩ | ⟨rfl, rfl⟩ | ⟨rfl, rfl⟩ 
    · exact s6_1_m6_00 b1 b2 b3
    · exact s6_1_m6_01 b1 b2 b3
    · exact s6_1_m6_02 b1 b2 b3
    · exact s6_1_m6_03 b1 b2 b3
    · exact s6_1_m6_10 b1 b2 b3
    · exact s6_1_m6_11 b1 b2 b3
    · exact s6_1_m6_12 b1 b2 b3
    · exact s6_1_m6_13 b1 b2 b3
  · rcases hx with ⟨rfl, rfl⟩ | ⟨rfl, rfl⟩ | ⟨rfl, rfl⟩ | ⟨rfl, rfl⟩ | ⟨rfl, rfl⟩ | ⟨rfl, rfl⟩ | ⟨rfl, rfl⟩ | ⟨rfl, rfl⟩ 
    · exact s6_1_m5_00 b1 b2 b3
    · exact s6_1_m5_01 b1 b2 b3
    · exact s6_1_m5_02 b1 b2 b3
    · exact s6_1_m5_03 b1 b2 b3
    · exact s6_1_m5_10 b1 b2 b3
    · exact s6_1_m5_11 b1 b2 b3
    · exact s6_1_m5_12 b1 b2 b3
    · exact s6_1_m5_13 b1 b2 b3
  · rcases hx with ⟨rfl, rfl⟩ | ⟨rfl, rfl⟩ | ⟨rfl, rfl⟩ | ⟨rfl, rfl⟩ | ⟨rfl, rfl⟩ | ⟨rfl, rfl⟩ | ⟨rfl, rfl⟩ | ⟨rfl, rfl⟩ 
    · exact s6_1_m4_00 b1 b2 b3
    · exact s6_1_m4_01 b1 b2 b3
    · exact s6_1_m4_02 b1 b2 b3
    · exact s6_1_m4_03 b1 b2 b3
    · exact s6_1_m4_10 b1 b2 b3
    · exact s6_1_m4_11 b1 b2 b3
    · exact s6_1_m4_12 b1 b2 b3
    · exact s6_1_m4_13 b1 b2 b3
  · rcases hx with ⟨rfl, rfl⟩ | ⟨rfl, rfl⟩ | ⟨rfl, rfl⟩ | ⟨rfl, rfl⟩ | ⟨rfl, rfl⟩ | ⟨rfl, rfl⟩ | ⟨rfl, rfl⟩ | ⟨rfl, rfl⟩ 
    · exact s6_1_m3_00 b1 b2 b3
    · exact s6_1_m3_01 b1 b2 b3
    · exact s6_1_m3_02 b1 b2 b3
    · exact s6_1_m3_03 b1 b2 b3
    · exact s6_1_m3_10 b1 b2 b3
    · exact s6_1_m3_11 b1 b2 b3
    · exact s6_1_m3_12 b1 b2 b3
    · exact s6_1_m3_13 b1 b2 b3
  · rcases hx with ⟨rfl, rfl⟩ | ⟨rfl, rfl⟩ | ⟨rfl, rfl⟩ | ⟨rfl, rfl⟩ | ⟨rfl, rfl⟩ | ⟨rfl, rfl⟩ | ⟨rfl, rfl⟩ | ⟨rfl, rfl⟩ 
    · exact s6_1_m2_00 b1 b2 b3
    · exact s6_1_m2_01 b1 b2 b3
    · exact s6_1_m2_02 b1 b2 b3
    · exact s6_1_m2_03 b1 b2 b3
    · exact s6_1_m2_10 b1 b2 b3
    · exact s6_1_m2_11 b1 b2 b3
    · exact s6_1_m2_12 b1 b2 b3
    · exact s6_1_m2_13 b1 b2 b3
  · rcases hx with ⟨rfl, rfl⟩ | ⟨rfl, rfl⟩ | ⟨rfl, rfl⟩ | ⟨rfl, rfl⟩ | ⟨rfl, rfl⟩ | ⟨rfl, rfl⟩ | ⟨rfl, rfl⟩ | ⟨rfl, rfl⟩ 
    · exact s6_1_m1_00 b1 b2 b3
    · exact s6_1_m1_01 b1 b2 b3
    · exact s6_1_m1_02 b1 b2 b3
    · exact s6_1_m1_03 b1 b2 b3
    · exact s6_1_m1_10 b1 b2 b3
    · exact s6_1_m1_11 b1 b2 b3
    · exact s6_1_m1_12 b1 b2 b3
    · exact s6_1_m1_13 b1 b2 b3
  · rcases hx with ⟨rfl, rfl⟩ | ⟨rfl, rfl⟩ | ⟨rfl, rfl⟩ | ⟨rfl, rfl⟩ | ⟨rfl, rfl⟩ | ⟨rfl, rfl⟩ | ⟨rfl, rfl⟩ | ⟨rfl, rfl⟩ 
    · exact s6_1_0_00 b1 b2 b3
    · exact s6_1_0_01 b1 b2 b3
    · exact s6_1_0_02 b1 b2 b3
    · exact s6_1_0_03 b1 b2 b3
    · exact s6_1_0_10 b1 b2 b3
    · exact s6_1_0_11 b1 b2 b3
    · exact s6_1_0_12 b1 b2 b3
    · exact s6_1_0_13 b1 b2 b3
  · rcases hx with ⟨rfl, rfl⟩ | ⟨rfl, rfl⟩ | ⟨rfl, rfl⟩ | ⟨rfl, rfl⟩ | ⟨rfl, rfl⟩ | ⟨rfl, rfl⟩ | ⟨rfl, rfl⟩ | ⟨rfl, rfl⟩ 
    · exact s6_1_1_00 b1 b2 b3
    · exact s6_1_1_01 b1 b2 b3
    · exact s6_1_1_02 b1 b2 b3
    · exact s6_1_1_03 b1 b2 b3
    · exact s6_1_1_10 b1 b2 b3
    · exact s6_1_1_11 b1 b2 b3
    · exact s6_1_1_12 b1 b2 b3
    · exact s6_1_1_13 b1 b2 b3
  · rcases hx with ⟨rfl, rfl⟩ | ⟨rfl, rfl⟩ | ⟨rfl, rfl⟩ | ⟨rfl, rfl⟩ | ⟨rfl, rfl⟩ | ⟨rfl, rfl⟩ | ⟨rfl, rfl⟩ | ⟨rfl, rfl⟩ 
    · exact s6_1_2_00 b1 b2 b3
    · exact s6_1_2_01 b1 b2 b3
    · exact s6_1_2_02 b1 b2 b3
    · exact s6_1_2_03 b1 b2 b3
    · exact s6_1_2_10 b1 b2 b3
    · exact s6_1_2_11 b1 b2 b3
    · exact s6_1_2_12 b1 b2 b3
    · exact s6_1_2_13 b1 b2 b3
  · rcases hx with ⟨rfl, rfl⟩ | ⟨rfl, rfl⟩ | ⟨rfl, rfl⟩ | ⟨rfl, rfl⟩ | ⟨rfl, rfl⟩ | ⟨rfl, rfl⟩ | ⟨rfl, rfl⟩ | ⟨rfl, rfl⟩ 
    · exact s6_1_3_00 b1 b2 b3
    · exact s6_1_3_01 b1 b2 b3
    · exact s6_1_3_02 b1 b2 b3
    · exact s6_1_3_03 b1 b2 b3
    · exact s6_1_3_10 b1 b2 b3
    · exact s6_1_3_11 b1 b2 b3
    · exact s6_1_3_12 b1 b2 b3
    · exact s6_1_3_13 b1 b2 b3
  · rcases hx with ⟨rfl, rfl⟩ | ⟨rfl, rfl⟩ | ⟨rfl, rfl⟩ | ⟨rfl, rfl⟩ | ⟨rfl, rfl⟩ | ⟨rfl, rfl⟩ | ⟨rfl, rfl⟩ | ⟨rfl, rfl⟩ 
    · exact s6_1_4_00 b1 b2 b3
    · exact s6_1_4_01 b1 b2 b3
    · exact s6_1_4_02 b1 b2 b3
    · exact s6_1_4_03 b1 b2 b3
    · exact s6_1_4_10 b1 b2 b3
    · exact s6_1_4_11 b1 b2 b3
    · exact s6_1_4_12 b1 b2 b3
    · exact s6_1_4_13 b1 b2 b3
  · rcases hx with ⟨rfl, rfl⟩ | ⟨rfl, rfl⟩ | ⟨rfl, rfl⟩ | ⟨rfl, rfl⟩ | ⟨rfl, rfl⟩ | ⟨rfl, rfl⟩ | ⟨rfl, rfl⟩ | ⟨rfl, rfl⟩ 
    · exact s6_1_5_00 b1 b2 b3
    · exact s6_1_5_01 b1 b2 b3
    · exact s6_1_5_02 b1 b2 b3
    · exact s6_1_5_03 b1 b2 b3
    · exact s6_1_5_10 b1 b2 b3
    · exact s6_1_5_11 b1 b2 b3
    · exact s6_1_5_12 b1 b2 b3
    · exact s6_1_5_13 b1 b2 b3
  · rcases hx with ⟨rfl, rfl⟩ | ⟨rfl, rfl⟩ | ⟨rfl, rfl⟩ | ⟨rfl, rfl⟩ | ⟨rfl, rfl⟩ | ⟨rfl, rfl⟩ | ⟨rfl, rfl⟩ | ⟨rfl, rfl⟩ 
    · exact s6_1_6_00 b1 b2 b3
    · exact s6_1_6_01 b1 b2 b3
    · exact s6_1_6_02 b1 b2 b3
    · exact s6_1_6_03 b1 b2 b3
    · exact s6_1_6_10 b1 b2 b3
    · exact s6_1_6_11 b1 b2 b3
    · exact s6_1_6_12 b1 b2 b3
    · exact s6_1_6_13 b1 b2 b3
  · rcases hx with ⟨rfl, rfl⟩ | ⟨rfl, rfl⟩ | ⟨rfl, rfl⟩ | ⟨rfl, rfl⟩ | ⟨rfl, rfl⟩ | ⟨rfl, rfl⟩ | ⟨rfl, rfl⟩ | ⟨rfl, rfl⟩ 
    · exact s6_1_7_00 b1 b2 b3
    · exact s6_1_7_01 b1 b2 b3
    · exact s6_1_7_02 b1 b2 b3
    · exact s6_1_7_03 b1 b2 b3
    · exact s6_1_7_10 b1 b2 b3
    · exact s6_1_7_11 b1 b2 b3
    · exact s6_1_7_12 b1 b2 b3
    · exact s6_1_7_13 b1 b2 b3
  · rcases hx with ⟨rfl, rfl⟩ | ⟨rfl, rfl⟩ | ⟨rfl, rfl⟩ | ⟨rfl, rfl⟩ | ⟨rfl, rfl⟩ | ⟨rfl, rfl⟩ | ⟨rfl, rfl⟩ | ⟨rfl, rfl⟩ 
    · exact s6_1_8_00 b1 b2 b3
    · exact s6_1_8_01 b1 b2 b3
    · exact s6_1_8_02 b1 b2 b3
    · exact s6_1_8_03 b1 b2 b3
    · exact s6_1_8_10 b1 b2 b3
    · exact s6_1_8_11 b1 b2 b3
    · exact s6_1_8_12 b1 b2 b3
    · exact s6_1_8_13 b1 b2 b3
  · rcases hx with ⟨rfl, rfl⟩ | ⟨rfl, rfl⟩ | ⟨rfl, rfl⟩ | ⟨rfl, rfl⟩ | ⟨rfl, rfl⟩ | ⟨rfl, rfl⟩ | ⟨rfl, rfl⟩ | ⟨rfl, rfl⟩ 
    · exact s6_1_9_00 b1 b2 b3
    · exact s6_1_9_01 b1 b2 b3
    · exact s6_1_9_02 b1 b2 b3
    · exact s6_1_9_03 b1 b2 b3
    · exact s6_1_9_10 b1 b2 b3
    · exact s6_1_9_11 b1 b2 b3
    · exact s6_1_9_12 b1 b2 b3
    · exact s6_1_9_13 b1 b2 b3
theorem s6_2 {a xk xt : PV} (ha : A19 a) (hx : Key8 xk xt) (b1 b2 b3 : Blk) : Leads r6 (ask bk2) [(7, a), (9, .ptr 4 0), (4, .ptr 0 0)] ⟨[(4, kb xk xt), (3, b3), (2, b2), (1, b1), (0, kb (.sym 1) (.sym 0))], 5⟩ [(6, .v (.bool true))] ⟨[(4, kb xk xt), (3, b3), (2, b2), (1, b1), (0, kb (.sym 1) (.sym 0))], 5⟩ := by
  rcases ha with rfl | rfl | rfl | rfl | rfl | rfl | rfl | rfl | rfl | rfl | rfl | rfl | rfl | rfl | rfl | rfl | rfl | rfl | rfl 
  · rcases hx with ⟨rfl, rfl⟩ | ⟨rfl, rfl⟩ | ⟨rfl, rfl⟩ | ⟨rfl, rfl⟩ | ⟨rfl, rfl⟩ | ⟨rfl, rfl⟩ | ⟨rfl, rfl⟩ | ⟨rfl, rfl⟩ 
    · exact s6_2_m9_00 b1 b2 b3
    · exact s6_2_m9_01 b1 b2 b3
    · exact s6_2_m9_02 b1 b2 b3
    · exact s6_2_m9_03 b1 b2 b3
    · exact s6_2_m9_10 b1 b2 b3
    · exact s6_2_m9_11 b1 b2 b3
    · exact s6_2_m9_12 b1 b2 b3
    · exact s6_2_m9_13 b1 b2 b3
  · rcases hx with ⟨rfl, rfl⟩ | ⟨rfl, rfl⟩ | ⟨rfl, rfl⟩ | ⟨rfl, rfl⟩ | ⟨rfl, rfl⟩ | ⟨rfl, rfl⟩ | ⟨rfl, rfl⟩ | ⟨rfl, rfl⟩ 
    · exact s6_2_m8_00 b1 b2 b3
    · exact s6_2_m8_01 b1 b2 b3
    · exact s6_2_m8_02 b1 b2 b3
    · exact s6_2_m8_03 b1 b2 b3
    · exact s6_2_m8_10 b1 b2 b3
    · exact s6_2_m8_11 b1 b2 b3
    · exact s6_2_m8_12 b1 b2 b3
    · exact s6_2_m8_13 b1 b2 b3
  · rcases hx with ⟨rfl, rfl⟩ | ⟨rfl, rfl⟩ | ⟨rfl, rfl⟩ | ⟨rfl, rfl⟩ | ⟨rfl, rfl⟩ | ⟨rfl, rfl⟩ | ⟨rfl, rfl⟩ | ⟨rfl, rfl⟩ 
    · exact s6_2_m7_00 b1 b2 b3
    · exact s6_2_m7_01 b1 b2 b3
    · exact s6_2_m7_02 b1 b2 b3
    · exact s6_2_m7_03 b1 b2 b3
    · exact s6_2_m7_10 b1 b2 b3
    · exact s6_2_m7_11 b1 b2 b3
    · exact s6_2_m7_12 b1 b2 b3
    · exact s6_2_m7_13 b1 b2 b3
  · rcases hx with ⟨rfl, rfl⟩ | ⟨rfl, rfl⟩ | ⟨rfl, rfl⟩ | ⟨rfl, rfl⟩ | ⟨rfl, rfl⟩ | ⟨rfl, rfl⟩ | ⟨rfl, rfl⟩ | ⟨rfl, rfl⟩ 
    · exact s6_2_m6_00 b1 b2 b3
    · exact s6_2_m6_01 b1 b2 b3
    · exact s6_2_m6_02 b1 b2 b3
    · exact s6_2_m6_03 b1 b2 b3
    · exact s6_2_m6_10 b1 b2 b3
    · exact s6_2_m6_11 b1 b2 b3
    · exact s6_2_m6_12 b1 b2 b3
    · exact s6_2_m6_13 b1 b2 b3
  · rcases hx with ⟨rfl, rfl⟩ | ⟨rfl, rfl⟩ | ⟨rfl, rfl⟩ | ⟨rfl, rfl⟩ | ⟨rfl, rfl⟩ | ⟨rfl, rfl⟩ | ⟨rfl, rfl⟩ | ⟨rfl, rfl⟩ 
    · exact s6_2_m5_00 b1 b2 b3
    · exact s6_2_m5_01 b1 b2 b3
    · exact s6_2_m5_02 b1 b2 b3
    · exact s6_2_m5_03 b1 b2 b3
    · exact s6_2_m5_10 b1 b2 b3
    · exact s6_2_m5_11 b1 b2 b3
    · exact s6_2_m5_12 b1 b2 b3
    · exact s6_2_m5_13 b1 b2 b3
  · rcases hx with ⟨rfl, rfl⟩ | ⟨rfl, rfl⟩ | ⟨rfl, rfl⟩ | ⟨rfl, rfl⟩ | ⟨rfl, rfl⟩ | ⟨rfl, rfl⟩ | ⟨rfl, rfl⟩ | ⟨rfl, rfl⟩ 
    · exact s6_2_m4_00 b1 b2 b3
    · exact s6_2_m4_01 b1 b2 b3
    · exact s6_2_m4_02 b1 b2 b3
    · exact s6_2_m4_03 b1 b2 b3
    · exact s6_2_m4_10 b1 b2 b3
    · exact s6_2_m4_11 b1 b2 b3
    · exact s6_2_m4_12 b1 b2 b3
    · exact s6_2_m4_13 b1 b2 b3
  · rcases hx with ⟨rfl, rfl⟩ | ⟨rfl, rfl⟩ | ⟨rfl, rfl⟩ | ⟨rfl, rfl⟩ | ⟨rfl, rfl⟩ | ⟨rfl, rfl⟩ | ⟨rfl, rfl⟩ | ⟨rfl, rfl⟩ 
    · exact s6_2_m3_00 b1 b2 b3
    · exact s6_2_m3_01 b1 b2 b3
    · exact s6_2_m3_02 b1 b2 b3
    · exact s6_2_m3_03 b1 b2 b3
    · exact s6_2_m3_10 b1 b2 b3
    · exact s6_2_m3_11 b1 b2 b3
    · exact s6_2_m3_12 b1 b2 b3
    · exact s6_2_m3_13 b1 b2 b3
  · rcases hx with ⟨rfl, rfl⟩ | ⟨rfl, rfl⟩ | ⟨rfl, rfl⟩ | ⟨rfl, rfl⟩ | ⟨rfl, rfl⟩ | ⟨rfl, rfl⟩ | ⟨rfl, rfl⟩ | ⟨rfl, rfl⟩ 
    · exact s6_2_m2_00 b1 b2 b3
    · exact s6_2_m2_01 b1 b2 b3
    · exact s6_2_m2_02 b1 b2 b3
    · exact s6_2_m2_03 b1 b2 b3
    · exact s6_2_m2_10 b1 b2 b3
    · exact s6_2_m2_11 b1 b2 b3
    · exact s6_2_m2_12 b1 b2 b3
    · exact s6_2_m2_13 b1 b2 b3
  · rcases hx with ⟨rfl, rfl⟩ | ⟨rfl, rfl⟩ | ⟨rfl, rfl⟩ | ⟨rfl, rfl⟩ | ⟨rfl, rfl⟩ | ⟨rfl, rfl⟩ | ⟨rfl, rfl⟩ | ⟨rfl, rfl⟩ 
    · exact s6_2_m1_00 b1 b2 b3
    · exact s6_2_m1_01 b1 b2 b3
    · exact s6_2_m1_02 b1 b2 b3
    · exact s6_2_m1_03 b1 b2 b3
    · exact s6_2_m1_10 b1 b2 b3
    · exact s6_2_m1_11 b1 b2 b3
    · exact s6_2_m1_12 b1 b2 b3
    · exact s6_2_m1_13 b1 b2 b3
  · rcases hx with ⟨rfl, rfl⟩ | ⟨rfl, rfl⟩ | ⟨rfl, rfl⟩ | ⟨rfl, rfl⟩ | ⟨rfl, rfl⟩ | ⟨rfl, rfl⟩ | ⟨rfl, rfl⟩ | ⟨rfl, rfl⟩ 
    · exact s6_2_0_00 b1 b2 b3
    · exact s6_2_0_01 b1 b2 b3
    · exact s6_2_0_02 b1 b2 b3
    · exact s6_2_0_03 b1 b2 b3
    · exact s6_2_0_10 b1 b2 b3
    · exact s6_2_0_11 b1 b2 b3
    · exact s6_2_0_12 b1 b2 b3
    · exact s6_2_0_13 b1 b2 b3
  · rcases hx with ⟨rfl, rfl⟩ | ⟨rfl, rfl⟩ | ⟨rfl, rfl⟩ | ⟨rfl, rfl⟩ | ⟨rfl, rfl⟩ | ⟨rfl, rfl⟩ | ⟨rfl, rfl⟩ | ⟨rfl, rfl⟩ 
    · exact s6_2_1_00 b1 b2 b3
    · exact s6_2_1_01 b1 b2 b3
    · exact s6_2_1_02 b1 b2 b3
    · exact s6_2_1_03 b1 b2 b3
    · exact s6_2_1_10 b1 b2 b3
    · exact s6_2_1_11 b1 b2 b3
    · exact s6_2_1_12 b1 b2 b3
    · exact s6_2_1_13 b1 b2 b3
  · rcases hx with ⟨rfl, rfl⟩ | ⟨rfl, rfl⟩ | ⟨rfl, rfl⟩ | ⟨rfl, rfl⟩ | ⟨rfl, rfl⟩ | ⟨rfl, rfl⟩ | ⟨rfl, rfl⟩ | ⟨rfl, rfl⟩ 
    · exact s6_2_2_00 b1 b2 b3
    · exact s6_2_2_01 b1 b2 b3
    · exact s6_2_2_02 b1 b2 b3
    · exact s6_2_2_03 b1 b2 b3
    · exact s6_2_2_10 b1 b2 b3
    · exact s6_2_2_11 b1 b2 b3
    · exact s6_2_2_12 b1 b2 b3
    · exact s6_2_2_13 b1 b2 b3
  · rcases hx with ⟨rfl, rfl⟩ | ⟨rfl, rfl⟩ | ⟨rfl, rfl⟩ | ⟨rfl, rfl⟩ | ⟨rfl, rfl⟩ | ⟨rfl, rfl⟩ | ⟨rfl, rfl⟩ | ⟨rfl, rfl⟩ 
    · exact s6_2_3_00 b1 b2 b3
    · exact s6_2_3_01 b1 b2 b3
    · exact s6_2_3_02 b1 b2 b3
    · exact s6_2_3_03 b1 b2 b3
    · exact s6_2_3_10 b1 b2 b3
    · exact s6_2_3_11 b1 b2 b3
    · exact s6_2_3_12 b1 b2 b3
    · exact s6_2_3_13 b1 b2 b3
  · rcases hx with ⟨rfl, rfl⟩ | ⟨rfl, rfl⟩ | ⟨rfl, rfl⟩ | ⟨rfl, rfl⟩ | ⟨rfl, rfl⟩ | ⟨rfl, rfl⟩ | ⟨rfl, rfl⟩ | ⟨rfl, rfl⟩ 
    · exact s6_2_4_00 b1 b2 b3
    · exact s6_2_4_01 b1 b2 b3
    · exact s6_2_4_02 b1 b2 b3
    · exact s6_2_4_03 b1 b2 b3
    · exact s6_2_4_10 b1 b2 b3
    · exact s6_2_4_11 b1 b2 b3
    · exact s6_2_4_12 b1 b2 b3
    · exact s6_2_4_13 b1 b2 b3
  · rcases hx with ⟨rfl, rfl⟩ | ⟨rfl, rfl⟩ | ⟨rfl, rfl⟩ | ⟨rfl, rfl⟩ | ⟨rfl, rfl⟩ | ⟨rfl, rfl⟩ | ⟨rfl, rfl⟩ | ⟨rfl, rfl⟩ 
    · exact s6_2_5_00 b1 b2 b3
    · exact s6_2_5_01 b1 b2 b3
    · exact s6_2_5_02 b1 b2 b3
    · exact s6_2_5_03 b1 b2 b3
    · exact s6_2_5_10 b1 b2 b3
    · exact s6_2_5_11 b1 b2 b3
    · exact s6_2_5_12 b1 b2 b3
    · exact s6_2_5_13 b1 b2 b3
  · rcases hx with ⟨rfl, rfl⟩ | ⟨rfl, rfl⟩ | ⟨rfl, rfl⟩ | ⟨rfl, rfl⟩ | ⟨rfl, rfl⟩ | ⟨rfl, rfl⟩ | ⟨rfl, rfl⟩ | ⟨rfl, rfl⟩ 
    · exact s6_2_6_00 b1 b2 b3
    · exact s6_2_6_01 b1 b2 b3
    · exact s6_2_6_02 b1 b2 b3
    · exact s6_2_6_03 b1 b2 b3
    · exact s6_2_6_10 b1 b2 b3
    · exact s6_2_6_11 b1 b2 b3
    · exact s6_2_6_12 b1 b2 b3
    · exact s6_2_6_13 b1 b2 b3
  · rcases hx with ⟨rfl, rfl⟩ | ⟨rfl, rfl⟩ | ⟨rfl, rfl⟩ | ⟨rfl, rfl⟩ | ⟨rfl, rfl⟩ | ⟨rfl, rfl⟩ | ⟨rfl, rfl⟩ | ⟨rfl, rfl⟩ 
    · exact s6_2_7_00 b1 b2 b3
    · exact s6_2_7_01 b1 b2 b3
    · exact s6_2_7_02 b1 b2 b3
    · exact s6_2_7_03 b1 b2 b3
    · exact s6_2_7_10 b1 b2 b3
    · exact s6_2_7_11 b1 b2 b3
    · exact s6_2_7_12 b1 b2 b3
    · exact s6_2_7_13 b1 b2 b3
  · rcases hx with ⟨rfl, rfl⟩ | ⟨rfl, rfl⟩ | ⟨rfl, rfl⟩ | ⟨rfl, rfl⟩ | ⟨rfl, rfl⟩ | ⟨rfl, rfl⟩ | ⟨rfl, rfl⟩ | ⟨rfl, rfl⟩ 
    · exact s6_2_8_00 b1 b2 b3
    · exact s6_2_8_01 b1 b2 b3
    · exact s6_2_8_02 b1 b2 b3
    · exact s6_2_8_03 b1 b2 b3
    · exact s6_2_8_10 b1 b2 b3
    · exact s6_2_8_11 b1 b2 b3
    · exact s6_2_8_12 b1 b2 b3
    · exact s6_2_8_13 b1 b2 b3
  · rcases hx with ⟨rfl, rfl⟩ | ⟨rfl, rfl⟩ | ⟨rfl, rfl⟩ | ⟨rfl, rfl⟩ | ⟨rfl, rfl⟩ | ⟨rfl, rfl⟩ | ⟨rfl, rfl⟩ | ⟨rfl, rfl⟩ 
    · exact s6_2_9_00 b1 b2 b3
    · exact s6_2_9_01 b1 b2 b3
    · exact s6_2_9_02 b1 b2 b3
    · exact s6_2_9_03 b1 b2 b3
    · exact s6_2_9_10 b1 b2 b3
    · exact s6_2_9_11 b1 b2 b3
    · exact s6_2_9_12 b1 b2 b3
    · exact s6_2_9_13 b1 b2 b3

theorem fbody : e3m.fn.body = some (.seq r0 (.seq r1 (.seq (.seq r2 c2) (.seq r4 (.seq r5 (.seq r6 .ret)))))) := by kernel_rfl
theorem bodyB_some {R : Type} {T : Types} {fi : FI} {c : Code} (h : fi.fn.body = some c) (rc : RF R) (l : List PV) (hp : Hp) (k : Nx R) :
    (bodyB T fi).f rc l hp k = Bool.rec (motive := fun _ => Option R) none (rc fi c (initF l) hp (endF (resB T fi.fn).f k)) (Nat.ble (lenF l) fi.fn.ntmps) := by
  unfold bodyB
  rw [h]
theorem Leads.seq {a b : Code} {O : Orc} {tm tm' : Tm} {hp hp' : Hp} (h : Leads a O tm hp tm' hp') (K : KF PV) :
    (codeB tys e3m (.seq a b)).f (CR O) (runF tys fns O 99999) tm hp K = (codeB tys e3m b).f (CR O) (runF tys fns O 99999) tm' hp' K := h (seqF (fun t p => (codeB tys e3m b).f (CR O) (runF tys fns O 99999) t p K) K)
theorem ends (hp : Hp) : endF (resB tys e3m.fn).f (dataKF (fun p _ => some p) ⟨[], 0⟩) .ret [(6, .v (.bool true))] hp = some (.v (.bool true)) := by kernel_rfl
theorem rstep (O : Orc) (c : Code) (tm : Tm) (hp : Hp) (K : KF PV) : runF tys fns O 100000 e3m c tm hp K = (codeB tys e3m c).f (CR O) (runF tys fns O 99999) tm hp K := by kernel_rfl
theorem initF3 (a b c : PV) : initF [a, b, c] = [(0, a), (1, b), (2, c)] := rfl
theorem hn3 (a b c : PV) : Nat.ble (lenF [a, b, c]) e3m.fn.ntmps = true := by kernel_rfl
theorem boolRec_true {α : Type} (a b : α) : Bool.rec (motive := fun _ => α) a b true = b := rfl
theorem dataF_some {R : Type} (body : List PV → Hp → Nx R → Option R) (k : Nx R) (ds : List PV) (hp : Hp) : dataF body k (some (ds, hp)) = body ds ⟨[], 0⟩ (dataKF k hp) := rfl
theorem comesF_of {T : Types} {FT : Fns} {B : Book} {n : Nat} {fi : FI} {ds : List PV} {q q0 : PV} (h : dataF ((bodyB (R := PV) T fi).f (runF T FT (ask B) n)) (fun p _ => some p) (some (ds, ⟨[], 0⟩)) = some q0)
    (hq : peq 1000 q0 q = true) : comesF T FT B n fi ds q = true := by
  unfold comesF
  rw [h]
  exact hq
theorem comes_main {B : Book} {n kk kt l a : PV} {tmA tmC : Tm} {hpB hpC hpD : Hp}
    (h2 : Leads (.seq r2 c2) (ask B) [(7, n), (0, n), (2, l), (4, .ptr 0 0)] ⟨[(0, kb kk kt)], 1⟩ tmA ⟨[(0, kb kk kt)], 1⟩)
    (h4 : Leads r4 (ask B) tmA ⟨[(0, kb kk kt)], 1⟩ [(7, a), (4, .ptr 0 0), (8, .ptr 1 0)] hpB)
    (h5 : Leads r5 (ask B) [(7, a), (4, .ptr 0 0), (8, .ptr 1 0)] hpB tmC hpC)
    (h6 : Leads r6 (ask B) tmC hpC [(6, .v (.bool true))] hpD) : comesF tys fns B 100000 e3m [n, .agg [kk, kt], l] (.v (.bool true)) = true := by
  refine comesF_of (q0 := .v (.bool true)) ?_ rfl
  rw [dataF_some, bodyB_some fbody, hn3, boolRec_true (none : Option PV), initF3, rstep, (s0 (ask B) n kk kt l).seq, (s1 (ask B) n l _).seq, h2.seq, h4.seq, h5.seq, h6.seq]
  exact ends hpD
/-- what is asked of a slice -/
def LOk (l : PV) : Prop := ∃ l' xk xt, Key8 xk xt ∧ (∀ (O : Orc) (a n : PV) (b0 : Blk), Leads r4 O [(16, .v (.bool false)), (7, a), (0, n), (2, l), (4, .ptr 0 0)] ⟨[(0, b0)], 1⟩ [(7, a), (4, .ptr 0 0), (8, .ptr 1 0)] ⟨[(1, kb l' (i 0)), (0, b0)], 2⟩) ∧
  (∀ (O : Orc) (a : PV) (b0 : Blk), Leads r4 O [(7, a), (4, .ptr 0 0), (2, l)] ⟨[(0, b0)], 1⟩ [(7, a), (4, .ptr 0 0), (8, .ptr 1 0)] ⟨[(1, kb l' (i 0)), (0, b0)], 2⟩) ∧
  ∀ (O : Orc) (a : PV) (b0 : Blk), ∃ b1 b2 b3, Leads r5 O [(7, a), (4, .ptr 0 0), (8, .ptr 1 0)] ⟨[(1, kb l' (i 0)), (0, b0)], 2⟩ [(7, a), (9, .ptr 4 0), (4, .ptr 0 0)] ⟨[(4, kb xk xt), (3, b3), (2, b2), (1, b1), (0, b0)], 5⟩
def NOk (n : PV) : Prop := ∃ a, A19 a ∧ ((∀ (O : Orc) (l : PV) (hp : Hp), Leads (.seq r2 c2) O [(7, n), (0, n), (2, l), (4, .ptr 0 0)] hp [(16, .v (.bool false)), (7, a), (0, n), (2, l), (4, .ptr 0 0)] hp) ∨
  (∀ (O : Orc) (l : PV) (hp : Hp), Leads (.seq r2 c2) O [(7, n), (0, n), (2, l), (4, .ptr 0 0)] hp [(7, a), (4, .ptr 0 0), (2, l)] hp))
theorem main_0 [Env] (h : KV0) {n l : PV} (hn : NOk n) (hl : LOk l) : Known Tryz.prog 3 [n, .agg [(i 0), (.sym 0)], l] (.v (.bool true)) := by
  obtain ⟨a, ha, hn⟩ := hn
  obtain ⟨l', xk, xt, hx, h4a, h4b, h5⟩ := hl
  obtain ⟨b1, b2, b3, h5⟩ := h5 (ask bk0) a (kb (i 0) (.sym 0))
  refine known_ofF tOk mixed fnsOk (bk0ok h) e3mok (n := 100000) ?_
  rcases hn with hn | hn
  · exact comes_main (hn _ _ _) (h4a _ _ _ _) h5 (s6_0 ha hx b1 b2 b3)
  · exact comes_main (hn _ _ _) (h4b _ _ _) h5 (s6_0 ha hx b1 b2 b3)
theorem main_1 [Env] (h : KV1) {n l : PV} (hn : NOk n) (hl : LOk l) : Known Tryz.prog 3 [n, .agg [(i 1), (.sym 0)], l] (.v (.bool true)) := by
  obtain ⟨a, ha, hn⟩ := hn
  obtain ⟨l', xk, xt, hx, h4a, h4b, h5⟩ := hl
  obtain ⟨b1, b2, b3, h5⟩ := h5 (ask bk1) a (kb (i 1) (.sym 0))
  refine known_ofF tOk mixed fnsOk (bk1ok h) e3mok (n := 100000) ?_
  rcases hn with hn | hn
  · exact comes_main (hn _ _ _) (h4a _ _ _ _) h5 (s6_1 ha hx b1 b2 b3)
  · exact comes_main (hn _ _ _) (h4b _ _ _) h5 (s6_1 ha hx b1 b2 b3)
theorem main_2 [Env] (h : KV2) {n l : PV} (hn : NOk n) (hl : LOk l) : Known Tryz.prog 3 [n, .agg [(.sym 1), (.sym 0)], l] (.v (.bool true)) := by
  obtain ⟨a, ha, hn⟩ := hn
  obtain ⟨l', xk, xt, hx, h4a, h4b, h5⟩ := hl
  obtain ⟨b1, b2, b3, h5⟩ := h5 (ask bk2) a (kb (.sym 1) (.sym 0))
  refine known_ofF tOk mixed fnsOk (bk2ok h) e3mok (n := 100000) ?_
  rcases hn with hn | hn
  · exact comes_main (hn _ _ _) (h4a _ _ _ _) h5 (s6_2 ha hx b1 b2 b3)
  · exact comes_main (hn _ _ _) (h4b _ _ _) h5 (s6_2 ha hx b1 b2 b3)
theorem a19_wild (z : Int) (h : -1 ≤ z ∧ z ≤ 5) : A19 (.v (.int .i64 z)) := by
  have : z = -1 ∨ z = 0 ∨ z = 1 ∨ z = 2 ∨ z = 3 ∨ z = 4 ∨ z = 5 := by omega
  unfold A19
  rcases this with rfl | rfl | rfl | rfl | rfl | rfl | rfl
  · exact .inr <| .inr <| .inr <| .inr <| .inr <| .inr <| .inr <| .inr <| .inl rfl
  · exact .inr <| .inr <| .inr <| .inr <| .inr <| .inr <| .inr <| .inr <| .inr <| .inl rfl
  · exact .inr <| .inr <| .inr <| .inr <| .inr <| .inr <| .inr <| .inr <| .inr <| .inr <| .inl rfl
  · exact .inr <| .inr <| .inr <| .inr <| .inr <| .inr <| .inr <| .inr <| .inr <| .inr <| .inr <| .inl rfl
  · exact .inr <| .inr <| .inr <| .inr <| .inr <| .inr <| .inr <| .inr <| .inr <| .inr <| .inr <| .inr <| .inl rfl
  · exact .inr <| .inr <| .inr <| .inr <| .inr <| .inr <| .inr <| .inr <| .inr <| .inr <| .inr <| .inr <| .inr <| .inl rfl
  · exact .inr <| .inr <| .inr <| .inr <| .inr <| .inr <| .inr <| .inr <| .inr <| .inr <| .inr <| .inr <| .inr <| .inr <| .inl rfl
theorem wild_in [Env] (n : Int) : -1 ≤ wild n ∧ wild n ≤ 5 := by
  have h1 : 0 ≤ wrapq .u64 n := by rw [wrapq_eq]; simp only [IntKind.wrap, IntKind.bits, IntKind.signed]; first | omega | (simp; omega)
  have h2 : 0 ≤ (wrapq .u64 n).tmod 7 ∧ (wrapq .u64 n).tmod 7 < 7 := by
    rw [Int.tmod_eq_emod_of_nonneg h1]
    omega
  have w : ∀ x : Int, -10 ≤ x → x ≤ 10 → wrapq .i64 x = x := by
    intro x hx hx'
    rw [wrapq_eq]
    simp only [IntKind.wrap, IntKind.bits, IntKind.signed]
    first | omega | (simp; omega) | (split <;> omega)
  have e1 := w ((wrapq .u64 n).tmod 7) (by omega) (by omega)
  unfold wild
  rw [e1, w _ (by omega) (by omega)]
  omega
theorem nOk [Env] (z : Int) : NOk (.v (.int .i64 z)) := by
  cases z with
  | ofNat m =>
    by_cases hm : m ≤ 9
    · have : m = 0 ∨ m = 1 ∨ m = 2 ∨ m = 3 ∨ m = 4 ∨ m = 5 ∨ m = 6 ∨ m = 7 ∨ m = 8 ∨ m = 9 := by omega
      rcases this with rfl | rfl | rfl | rfl | rfl | rfl | rfl | rfl | rfl | rfl
      · exact ⟨(i 0), .inr <| .inr <| .inr <| .inr <| .inr <| .inr <| .inr <| .inr <| .inr <| .inl rfl, .inl fun O l hp => s2_0 O l hp⟩
      · exact ⟨(i 1), .inr <| .inr <| .inr <| .inr <| .inr <| .inr <| .inr <| .inr <| .inr <| .inr <| .inl rfl, .inl fun O l hp => s2_1 O l hp⟩
      · exact ⟨(i 2), .inr <| .inr <| .inr <| .inr <| .inr <| .inr <| .inr <| .inr <| .inr <| .inr <| .inr <| .inl rfl, .inl fun O l hp => s2_2 O l hp⟩
      · exact ⟨(i 3), .inr <| .inr <| .inr <| .inr <| .inr <| .inr <| .inr <| .inr <| .inr <| .inr <| .inr <| .inr <| .inl rfl, .inl fun O l hp => s2_3 O l hp⟩
      · exact ⟨(i 4), .inr <| .inr <| .inr <| .inr <| .inr <| .inr <| .inr <| .inr <| .inr <| .inr <| .inr <| .inr <| .inr <| .inl rfl, .inl fun O l hp => s2_4 O l hp⟩
      · exact ⟨(i 5), .inr <| .inr <| .inr <| .inr <| .inr <| .inr <| .inr <| .inr <| .inr <| .inr <| .inr <| .inr <| .inr <| .inr <| .inl rfl, .inl fun O l hp => s2_5 O l hp⟩
      · exact ⟨(i 6), .inr <| .inr <| .inr <| .inr <| .inr <| .inr <| .inr <| .inr <| .inr <| .inr <| .inr <| .inr <| .inr <| .inr <| .inr <| .inl rfl, .inl fun O l hp => s2_6 O l hp⟩
      · exact ⟨(i 7), .inr <| .inr <| .inr <| .inr <| .inr <| .inr <| .inr <| .inr <| .inr <| .inr <| .inr <| .inr <| .inr <| .inr <| .inr <| .inr <| .inl rfl, .inl fun O l hp => s2_7 O l hp⟩
      · exact ⟨(i 8), .inr <| .inr <| .inr <| .inr <| .inr <| .inr <| .inr <| .inr <| .inr <| .inr <| .inr <| .inr <| .inr <| .inr <| .inr <| .inr <| .inr <| .inl rfl, .inl fun O l hp => s2_8 O l hp⟩
      · exact ⟨(i 9), .inr <| .inr <| .inr <| .inr <| .inr <| .inr <| .inr <| .inr <| .inr <| .inr <| .inr <| .inr <| .inr <| .inr <| .inr <| .inr <| .inr <| .inr <| rfl, .inl fun O l hp => s2_9 O l hp⟩
    · obtain ⟨q, rfl⟩ : ∃ q, m = q + 10 := ⟨m - 10, by omega⟩
      exact ⟨.v (.int .i64 (wild (.ofNat (q + 10)))), a19_wild _ (wild_in _), .inr fun O l hp => s2_hi O q l hp⟩
  | negSucc m =>
    by_cases hm : m ≤ 8
    · have : m = 0 ∨ m = 1 ∨ m = 2 ∨ m = 3 ∨ m = 4 ∨ m = 5 ∨ m = 6 ∨ m = 7 ∨ m = 8 := by omega
      rcases this with rfl | rfl | rfl | rfl | rfl | rfl | rfl | rfl | rfl
      · exact ⟨(j 0), .inr <| .inr <| .inr <| .inr <| .inr <| .inr <| .inr <| .inr <| .inl rfl, .inl fun O l hp => s2_m1 O l hp⟩
      · exact ⟨(j 1), .inr <| .inr <| .inr <| .inr <| .inr <| .inr <| .inr <| .inl rfl, .inl fun O l hp => s2_m2 O l hp⟩
      · exact ⟨(j 2), .inr <| .inr <| .inr <| .inr <| .inr <| .inr <| .inl rfl, .inl fun O l hp => s2_m3 O l hp⟩
      · exact ⟨(j 3), .inr <| .inr <| .inr <| .inr <| .inr <| .inl rfl, .inl fun O l hp => s2_m4 O l hp⟩
      · exact ⟨(j 4), .inr <| .inr <| .inr <| .inr <| .inl rfl, .inl fun O l hp => s2_m5 O l hp⟩
      · exact ⟨(j 5), .inr <| .inr <| .inr <| .inl rfl, .inl fun O l hp => s2_m6 O l hp⟩
      · exact ⟨(j 6), .inr <| .inr <| .inl rfl, .inl fun O l hp => s2_m7 O l hp⟩
      · exact ⟨(j 7), .inr <| .inl rfl, .inl fun O l hp => s2_m8 O l hp⟩
      · exact ⟨(j 8), .inl rfl, .inl fun O l hp => s2_m9 O l hp⟩
    · obtain ⟨q, rfl⟩ : ∃ q, m = q + 9 := ⟨m - 9, by omega⟩
      exact ⟨.v (.int .i64 (wild (.negSucc (q + 9)))), a19_wild _ (wild_in _), .inr fun O l hp => s2_lo O q l hp⟩
theorem lOk_nil : LOk nl := ⟨nl, _, _, .inl ⟨rfl, rfl⟩, fun O a n b0 => s4a_nil O a n b0, fun O a b0 => s4b_nil O a b0, fun O a b0 => s5_nil O a b0⟩
theorem lOk_0 (ex : Bool) : LOk (.sl [] ex) := ⟨.sl [] (ex && true), _, _, .inl ⟨rfl, rfl⟩, fun O a n b0 => s4a_0 O a n ex b0, fun O a b0 => s4b_0 O a ex b0, fun O a b0 => s5_0 O a _ b0⟩
theorem lOk_1_0 (ex : Bool) : LOk (.sl [[.sym 101]] ex) := ⟨.sl [[.sym 101]] (ex && true), _, _, .inr <| .inr <| .inr <| .inr <| .inl ⟨rfl, rfl⟩, fun O a n b0 => s4a_1 O a n _ ex b0, fun O a b0 => s4b_1 O a _ ex b0, fun O a b0 => s5_1_0 O a _ b0⟩
theorem lOk_1_1 (ex : Bool) : LOk (.sl [[.sym 103]] ex) := ⟨.sl [[.sym 103]] (ex && true), _, _, .inl ⟨rfl, rfl⟩, fun O a n b0 => s4a_1 O a n _ ex b0, fun O a b0 => s4b_1 O a _ ex b0, fun O a b0 => s5_1_1 O a _ b0⟩
theorem lOk_1_2 (ex : Bool) : LOk (.sl [[.sym 105]] ex) := ⟨.sl [[.sym 105]] (ex && true), _, _, .inr <| .inr <| .inr <| .inr <| .inl ⟨rfl, rfl⟩, fun O a n b0 => s4a_1 O a n _ ex b0, fun O a b0 => s4b_1 O a _ ex b0, fun O a b0 => s5_1_2 O a _ b0⟩
theorem lOk_1_3 (ex : Bool) : LOk (.sl [[.sym 107]] ex) := ⟨.sl [[.sym 107]] (ex && true), _, _, .inl ⟨rfl, rfl⟩, fun O a n b0 => s4a_1 O a n _ ex b0, fun O a b0 => s4b_1 O a _ ex b0, fun O a b0 => s5_1_3 O a _ b0⟩
theorem lOk_1_4 (ex : Bool) : LOk (.sl [[.sym 109]] ex) := ⟨.sl [[.sym 109]] (ex && true), _, _, .inr <| .inr <| .inr <| .inr <| .inl ⟨rfl, rfl⟩, fun O a n b0 => s4a_1 O a n _ ex b0, fun O a b0 => s4b_1 O a _ ex b0, fun O a b0 => s5_1_4 O a _ b0⟩
theorem lOk_1_5 (ex : Bool) : LOk (.sl [[.sym 111]] ex) := ⟨.sl [[.sym 111]] (ex && true), _, _, .inl ⟨rfl, rfl⟩, fun O a n b0 => s4a_1 O a n _ ex b0, fun O a b0 => s4b_1 O a _ ex b0, fun O a b0 => s5_1_5 O a _ b0⟩
theorem lOk_1_6 (ex : Bool) : LOk (.sl [[.sym 113]] ex) := ⟨.sl [[.sym 113]] (ex && true), _, _, .inr <| .inr <| .inr <| .inr <| .inl ⟨rfl, rfl⟩, fun O a n b0 => s4a_1 O a n _ ex b0, fun O a b0 => s4b_1 O a _ ex b0, fun O a b0 => s5_1_6 O a _ b0⟩
/-- what a slice of two or more is cut to -/
def Cut (l l' : PV) : Prop := (∀ (O : Orc) (a n : PV) (b0 : Blk), Leads r4 O [(16, .v (.bool false)), (7, a), (0, n), (2, l), (4, .ptr 0 0)] ⟨[(0, b0)], 1⟩ [(7, a), (4, .ptr 0 0), (8, .ptr 1 0)] ⟨[(1, kb l' (i 0)), (0, b0)], 2⟩) ∧
  (∀ (O : Orc) (a : PV) (b0 : Blk), Leads r4 O [(7, a), (4, .ptr 0 0), (2, l)] ⟨[(0, b0)], 1⟩ [(7, a), (4, .ptr 0 0), (8, .ptr 1 0)] ⟨[(1, kb l' (i 0)), (0, b0)], 2⟩)
theorem cut_of (x y : PV) (ex : Bool) (rest : List PV) : ∃ r e, Cut (.sl ([x] :: [y] :: rest.map (fun z => [z])) ex) (.sl ([x] :: [y] :: r) e) := by
  rcases rest with _ | ⟨z2, _ | ⟨z3, _ | ⟨z4, _ | ⟨z5, _ | ⟨z6, _ | ⟨z7, _ | ⟨z8, _ | ⟨z9, _ | ⟨z10, r⟩⟩⟩⟩⟩⟩⟩⟩⟩
  · exact ⟨[], ex && true, fun O a n b0 => s4a_2 O a n x y ex b0, fun O a b0 => s4b_2 O a x y ex b0⟩
  · exact ⟨[[z2]], ex && true, fun O a n b0 => s4a_3 O a n x y z2 ex b0, fun O a b0 => s4b_3 O a x y z2 ex b0⟩
  · exact ⟨[[z2], [z3]], ex && true, fun O a n b0 => s4a_4 O a n x y z2 z3 ex b0, fun O a b0 => s4b_4 O a x y z2 z3 ex b0⟩
  · exact ⟨[[z2], [z3], [z4]], ex && true, fun O a n b0 => s4a_5 O a n x y z2 z3 z4 ex b0, fun O a b0 => s4b_5 O a x y z2 z3 z4 ex b0⟩
  · exact ⟨[[z2], [z3], [z4], [z5]], ex && true, fun O a n b0 => s4a_6 O a n x y z2 z3 z4 z5 ex b0, fun O a b0 => s4b_6 O a x y z2 z3 z4 z5 ex b0⟩
  · exact ⟨[[z2], [z3], [z4], [z5], [z6]], ex && true, fun O a n b0 => s4a_7 O a n x y z2 z3 z4 z5 z6 ex b0, fun O a b0 => s4b_7 O a x y z2 z3 z4 z5 z6 ex b0⟩
  · exact ⟨[[z2], [z3], [z4], [z5], [z6], [z7]], ex && true, fun O a n b0 => s4a_8 O a n x y z2 z3 z4 z5 z6 z7 ex b0, fun O a b0 => s4b_8 O a x y z2 z3 z4 z5 z6 z7 ex b0⟩
  · exact ⟨[[z2], [z3], [z4], [z5], [z6], [z7], [z8]], ex && true, fun O a n b0 => s4a_9 O a n x y z2 z3 z4 z5 z6 z7 z8 ex b0, fun O a b0 => s4b_9 O a x y z2 z3 z4 z5 z6 z7 z8 ex b0⟩
  · exact ⟨[[z2], [z3], [z4], [z5], [z6], [z7], [z8], [z9]], ex && true, fun O a n b0 => s4a_10 O a n x y z2 z3 z4 z5 z6 z7 z8 z9 ex b0, fun O a b0 => s4b_10 O a x y z2 z3 z4 z5 z6 z7 z8 z9 ex b0⟩
  · exact ⟨[[z2], [z3], [z4], [z5], [z6], [z7], [z8], [z9]], ex && false, fun O a n b0 => s4a_more O a n x y z2 z3 z4 z5 z6 z7 z8 z9 z10 (r.map fun z => [z]) ex b0, fun O a b0 => s4b_more O a x y z2 z3 z4 z5 z6 z7 z8 z9 z10 (r.map fun z => [z]) ex b0⟩
theorem lOk_2_0_0 (ex : Bool) (rest : List PV) : LOk (.sl ([.sym 101] :: [.sym 115] :: rest.map (fun z => [z])) ex) := by
  obtain ⟨r, e, h1, h2⟩ := cut_of (.sym 101) (.sym 115) ex rest
  exact ⟨_, _, _, .inr <| .inr <| .inr <| .inr <| .inr <| .inl ⟨rfl, rfl⟩, h1, h2, fun O a b0 => s5_2_0_0 O a r e b0⟩
theorem lOk_2_0_1 (ex : Bool) (rest : List PV) : LOk (.sl ([.sym 101] :: [.sym 117] :: rest.map (fun z => [z])) ex) := by
  obtain ⟨r, e, h1, h2⟩ := cut_of (.sym 101) (.sym 117) ex rest
  exact ⟨_, _, _, .inr <| .inr <| .inr <| .inr <| .inr <| .inr <| .inl ⟨rfl, rfl⟩, h1, h2, fun O a b0 => s5_2_0_1 O a r e b0⟩
theorem lOk_2_0_2 (ex : Bool) (rest : List PV) : LOk (.sl ([.sym 101] :: [.sym 119] :: rest.map (fun z => [z])) ex) := by
  obtain ⟨r, e, h1, h2⟩ := cut_of (.sym 101) (.sym 119) ex rest
  exact ⟨_, _, _, .inr <| .inr <| .inr <| .inr <| .inr <| .inr <| .inr <| ⟨rfl, rfl⟩, h1, h2, fun O a b0 => s5_2_0_2 O a r e b0⟩
theorem lOk_2_0_3 (ex : Bool) (rest : List PV) : LOk (.sl ([.sym 101] :: [.sym 121] :: rest.map (fun z => [z])) ex) := by
  obtain ⟨r, e, h1, h2⟩ := cut_of (.sym 101) (.sym 121) ex rest
  exact ⟨_, _, _, .inr <| .inr <| .inr <| .inr <| .inl ⟨rfl, rfl⟩, h1, h2, fun O a b0 => s5_2_0_3 O a r e b0⟩
theorem lOk_2_0_4 (ex : Bool) (rest : List PV) : LOk (.sl ([.sym 101] :: [.sym 123] :: rest.map (fun z => [z])) ex) := by
  obtain ⟨r, e, h1, h2⟩ := cut_of (.sym 101) (.sym 123) ex rest
  exact ⟨_, _, _, .inr <| .inr <| .inr <| .inr <| .inr <| .inl ⟨rfl, rfl⟩, h1, h2, fun O a b0 => s5_2_0_4 O a r e b0⟩
theorem lOk_2_0_5 (ex : Bool) (rest : List PV) : LOk (.sl ([.sym 101] :: [.sym 125] :: rest.map (fun z => [z])) ex) := by
  obtain ⟨r, e, h1, h2⟩ := cut_of (.sym 101) (.sym 125) ex rest
  exact ⟨_, _, _, .inr <| .inr <| .inr <| .inr <| .inr <| .inr <| .inl ⟨rfl, rfl⟩, h1, h2, fun O a b0 => s5_2_0_5 O a r e b0⟩
theorem lOk_2_0_6 (ex : Bool) (rest : List PV) : LOk (.sl ([.sym 101] :: [.sym 127] :: rest.map (fun z => [z])) ex) := by
  obtain ⟨r, e, h1, h2⟩ := cut_of (.sym 101) (.sym 127) ex rest
  exact ⟨_, _, _, .inr <| .inr <| .inr <| .inr <| .inr <| .inr <| .inr <| ⟨rfl, rfl⟩, h1, h2, fun O a b0 => s5_2_0_6 O a r e b0⟩
theorem lOk_2_1_0 (ex : Bool) (rest : List PV) : LOk (.sl ([.sym 103] :: [.sym 115] :: rest.map (fun z => [z])) ex) := by
  obtain ⟨r, e, h1, h2⟩ := cut_of (.sym 103) (.sym 115) ex rest
  exact ⟨_, _, _, .inr <| .inl ⟨rfl, rfl⟩, h1, h2, fun O a b0 => s5_2_1_0 O a r e b0⟩
theorem lOk_2_1_1 (ex : Bool) (rest : List PV) : LOk (.sl ([.sym 103] :: [.sym 117] :: rest.map (fun z => [z])) ex) := by
  obtain ⟨r, e, h1, h2⟩ := cut_of (.sym 103) (.sym 117) ex rest
  exact ⟨_, _, _, .inr <| .inr <| .inl ⟨rfl, rfl⟩, h1, h2, fun O a b0 => s5_2_1_1 O a r e b0⟩
theorem lOk_2_1_2 (ex : Bool) (rest : List PV) : LOk (.sl ([.sym 103] :: [.sym 119] :: rest.map (fun z => [z])) ex) := by
  obtain ⟨r, e, h1, h2⟩ := cut_of (.sym 103) (.sym 119) ex rest
  exact ⟨_, _, _, .inr <| .inr <| .inr <| .inl ⟨rfl, rfl⟩, h1, h2, fun O a b0 => s5_2_1_2 O a r e b0⟩
theorem lOk_2_1_3 (ex : Bool) (rest : List PV) : LOk (.sl ([.sym 103] :: [.sym 121] :: rest.map (fun z => [z])) ex) := by
  obtain ⟨r, e, h1, h2⟩ := cut_of (.sym 103) (.sym 121) ex rest
  exact ⟨_, _, _, .inl ⟨rfl, rfl⟩, h1, h2, fun O a b0 => s5_2_1_3 O a r e b0⟩
theorem lOk_2_1_4 (ex : Bool) (rest : List PV) : LOk (.sl ([.sym 103] :: [.sym 123] :: rest.map (fun z => [z])) ex) := by
  obtain ⟨r, e, h1, h2⟩ := cut_of (.sym 103) (.sym 123) ex rest
  exact ⟨_, _, _, .inr <| .inl ⟨rfl, rfl⟩, h1, h2, fun O a b0 => s5_2_1_4 O a r e b0⟩
theorem lOk_2_1_5 (ex : Bool) (rest : List PV) : LOk (.sl ([.sym 103] :: [.sym 125] :: rest.map (fun z => [z])) ex) := by
  obtain ⟨r, e, h1, h2⟩ := cut_of (.sym 103) (.sym 125) ex rest
  exact ⟨_, _, _, .inr <| .inr <| .inl ⟨rfl, rfl⟩, h1, h2, fun O a b0 => s5_2_1_5 O a r e b0⟩
theorem lOk_2_1_6 (ex : Bool) (rest : List PV) : LOk (.sl ([.sym 103] :: [.sym 127] :: rest.map (fun z => [z])) ex) := by
  obtain ⟨r, e, h1, h2⟩ := cut_of (.sym 103) (.sym 127) ex rest
  exact ⟨_, _, _, .inr <| .inr <| .inr <| .inl ⟨rfl, rfl⟩, h1, h2, fun O a b0 => s5_2_1_6 O a r e b0⟩
theorem lOk_2_2_0 (ex : Bool) (rest : List PV) : LOk (.sl ([.sym 105] :: [.sym 115] :: rest.map (fun z => [z])) ex) := by
  obtain ⟨r, e, h1, h2⟩ := cut_of (.sym 105) (.sym 115) ex rest
  exact ⟨_, _, _, .inr <| .inr <| .inr <| .inr <| .inr <| .inl ⟨rfl, rfl⟩, h1, h2, fun O a b0 => s5_2_2_0 O a r e b0⟩
theorem lOk_2_2_1 (ex : Bool) (rest : List PV) : LOk (.sl ([.sym 105] :: [.sym 117] :: rest.map (fun z => [z])) ex) := by
  obtain ⟨r, e, h1, h2⟩ := cut_of (.sym 105) (.sym 117) ex rest
  exact ⟨_, _, _, .inr <| .inr <| .inr <| .inr <| .inr <| .inr <| .inl ⟨rfl, rfl⟩, h1, h2, fun O a b0 => s5_2_2_1 O a r e b0⟩
theorem lOk_2_2_2 (ex : Bool) (rest : List PV) : LOk (.sl ([.sym 105] :: [.sym 119] :: rest.map (fun z => [z])) ex) := by
  obtain ⟨r, e, h1, h2⟩ := cut_of (.sym 105) (.sym 119) ex rest
  exact ⟨_, _, _, .inr <| .inr <| .inr <| .inr <| .inr <| .inr <| .inr <| ⟨rfl, rfl⟩, h1, h2, fun O a b0 => s5_2_2_2 O a r e b0⟩
theorem lOk_2_2_3 (ex : Bool) (rest : List PV) : LOk (.sl ([.sym 105] :: [.sym 121] :: rest.map (fun z => [z])) ex) := by
  obtain ⟨r, e, h1, h2⟩ := cut_of (.sym 105) (.sym 121) ex rest
  exact ⟨_, _, _, .inr <| .inr <| .inr <| .inr <| .inl ⟨rfl, rfl⟩, h1, h2, fun O a b0 => s5_2_2_3 O a r e b0⟩
theorem lOk_2_2_4 (ex : Bool) (rest : List PV) : LOk (.sl ([.sym 105] :: [.sym 123] :: rest.map (fun z => [z])) ex) := by
  obtain ⟨r, e, h1, h2⟩ := cut_of (.sym 105) (.sym 123) ex rest
  exact ⟨_, _, _, .inr <| .inr <| .inr <| .inr <| .inr <| .inl ⟨rfl, rfl⟩, h1, h2, fun O a b0 => s5_2_2_4 O a r e b0⟩
theorem lOk_2_2_5 (ex : Bool) (rest : List PV) : LOk (.sl ([.sym 105] :: [.sym 125] :: rest.map (fun z => [z])) ex) := by
  obtain ⟨r, e, h1, h2⟩ := cut_of (.sym 105) (.sym 125) ex rest
  exact ⟨_, _, _, .inr <| .inr <| .inr <| .inr <| .inr <| .inr <| .inl ⟨rfl, rfl⟩, h1, h2, fun O a b0 => s5_2_2_5 O a r e b0⟩
theorem lOk_2_2_6 (ex : Bool) (rest : List PV) : LOk (.sl ([.sym 105] :: [.sym 127] :: rest.map (fun z => [z])) ex) := by
  obtain ⟨r, e, h1, h2⟩ := cut_of (.sym 105) (.sym 127) ex rest
  exact ⟨_, _, _, .inr <| .inr <| .inr <| .inr <| .inr <| .inr <| .inr <| ⟨rfl, rfl⟩, h1, h2, fun O a b0 => s5_2_2_6 O a r e b0⟩
theorem lOk_2_3_0 (ex : Bool) (rest : List PV) : LOk (.sl ([.sym 107] :: [.sym 115] :: rest.map (fun z => [z])) ex) := by
  obtain ⟨r, e, h1, h2⟩ := cut_of (.sym 107) (.sym 115) ex rest
  exact ⟨_, _, _, .inr <| .inl ⟨rfl, rfl⟩, h1, h2, fun O a b0 => s5_2_3_0 O a r e b0⟩
theorem lOk_2_3_1 (ex : Bool) (rest : List PV) : LOk (.sl ([.sym 107] :: [.sym 117] :: rest.map (fun z => [z])) ex) := by
  obtain ⟨r, e, h1, h2⟩ := cut_of (.sym 107) (.sym 117) ex rest
  exact ⟨_, _, _, .inr <| .inr <| .inl ⟨rfl, rfl⟩, h1, h2, fun O a b0 => s5_2_3_1 O a r e b0⟩
theorem lOk_2_3_2 (ex : Bool) (rest : List PV) : LOk (.sl ([.sym 107] :: [.sym 119] :: rest.map (fun z => [z])) ex) := by
  obtain ⟨r, e, h1, h2⟩ := cut_of (.sym 107) (.sym 119) ex rest
  exact ⟨_, _, _, .inr <| .inr <| .inr <| .inl ⟨rfl, rfl⟩, h1, h2, fun O a b0 => s5_2_3_2 O a r e b0⟩
theorem lOk_2_3_3 (ex : Bool) (rest : List PV) : LOk (.sl ([.sym 107] :: [.sym 121] :: rest.map (fun z => [z])) ex) := by
  obtain ⟨r, e, h1, h2⟩ := cut_of (.sym 107) (.sym 121) ex rest
  exact ⟨_, _, _, .inl ⟨rfl, rfl⟩, h1, h2, fun O a b0 => s5_2_3_3 O a r e b0⟩
theorem lOk_2_3_4 (ex : Bool) (rest : List PV) : LOk (.sl ([.sym 107] :: [.sym 123] :: rest.map (fun z => [z])) ex) := by
  obtain ⟨r, e, h1, h2⟩ := cut_of (.sym 107) (.sym 123) ex rest
  exact ⟨_, _, _, .inr <| .inl ⟨rfl, rfl⟩, h1, h2, fun O a b0 => s5_2_3_4 O a r e b0⟩
theorem lOk_2_3_5 (ex : Bool) (rest : List PV) : LOk (.sl ([.sym 107] :: [.sym 125] :: rest.map (fun z => [z])) ex) := by
  obtain ⟨r, e, h1, h2⟩ := cut_of (.sym 107) (.sym 125) ex rest
  exact ⟨_, _, _, .inr <| .inr <| .inl ⟨rfl, rfl⟩, h1, h2, fun O a b0 => s5_2_3_5 O a r e b0⟩
theorem lOk_2_3_6 (ex : Bool) (rest : List PV) : LOk (.sl ([.sym 107] :: [.sym 127] :: rest.map (fun z => [z])) ex) := by
  obtain ⟨r, e, h1, h2⟩ := cut_of (.sym 107) (.sym 127) ex rest
  exact ⟨_, _, _, .inr <| .inr <| .inr <| .inl ⟨rfl, rfl⟩, h1, h2, fun O a b0 => s5_2_3_6 O a r e b0⟩
theorem lOk_2_4_0 (ex : Bool) (rest : List PV) : LOk (.sl ([.sym 109] :: [.sym 115] :: rest.map (fun z => [z])) ex) := by
  obtain ⟨r, e, h1, h2⟩ := cut_of (.sym 109) (.sym 115) ex rest
  exact ⟨_, _, _, .inr <| .inr <| .inr <| .inr <| .inr <| .inl ⟨rfl, rfl⟩, h1, h2, fun O a b0 => s5_2_4_0 O a r e b0⟩
theorem lOk_2_4_1 (ex : Bool) (rest : List PV) : LOk (.sl ([.sym 109] :: [.sym 117] :: rest.map (fun z => [z])) ex) := by
  obtain ⟨r, e, h1, h2⟩ := cut_of (.sym 109) (.sym 117) ex rest
  exact ⟨_, _, _, .inr <| .inr <| .inr <| .inr <| .inr <| .inr <| .inl ⟨rfl, rfl⟩, h1, h2, fun O a b0 => s5_2_4_1 O a r e b0⟩
theorem lOk_2_4_2 (ex : Bool) (rest : List PV) : LOk (.sl ([.sym 109] :: [.sym 119] :: rest.map (fun z => [z])) ex) := by
  obtain ⟨r, e, h1, h2⟩ := cut_of (.sym 109) (.sym 119) ex rest
  exact ⟨_, _, _, .inr <| .inr <| .inr <| .inr <| .inr <| .inr <| .inr <| ⟨rfl, rfl⟩, h1, h2, fun O a b0 => s5_2_4_2 O a r e b0⟩
theorem lOk_2_4_3 (ex : Bool) (rest : List PV) : LOk (.sl ([.sym 109] :: [.sym 121] :: rest.map (fun z => [z])) ex) := by
  obtain ⟨r, e, h1, h2⟩ := cut_of (.sym 109) (.sym 121) ex rest
  exact ⟨_, _, _, .inr <| .inr <| .inr <| .inr <| .inl ⟨rfl, rfl⟩, h1, h2, fun O a b0 => s5_2_4_3 O a r e b0⟩
theorem lOk_2_4_4 (ex : Bool) (rest : List PV) : LOk (.sl ([.sym 109] :: [.sym 123] :: rest.map (fun z => [z])) ex) := by
  obtain ⟨r, e, h1, h2⟩ := cut_of (.sym 109) (.sym 123) ex rest
  exact ⟨_, _, _, .inr <| .inr <| .inr <| .inr <| .inr <| .inl ⟨rfl, rfl⟩, h1, h2, fun O a b0 => s5_2_4_4 O a r e b0⟩
theorem lOk_2_4_5 (ex : Bool) (rest : List PV) : LOk (.sl ([.sym 109] :: [.sym 125] :: rest.map (fun z => [z])) ex) := by
  obtain ⟨r, e, h1, h2⟩ := cut_of (.sym 109) (.sym 125) ex rest
  exact ⟨_, _, _, .inr <| .inr <| .inr <| .inr <| .inr <| .inr <| .inl ⟨rfl, rfl⟩, h1, h2, fun O a b0 => s5_2_4_5 O a r e b0⟩
theorem lOk_2_4_6 (ex : Bool) (rest : List PV) : LOk (.sl ([.sym 109] :: [.sym 127] :: rest.map (fun z => [z])) ex) := by
  obtain ⟨r, e, h1, h2⟩ := cut_of (.sym 109) (.sym 127) ex rest
  exact ⟨_, _, _, .inr <| .inr <| .inr <| .inr <| .inr <| .inr <| .inr <| ⟨rfl, rfl⟩, h1, h2, fun O a b0 => s5_2_4_6 O a r e b0⟩
theorem lOk_2_5_0 (ex : Bool) (rest : List PV) : LOk (.sl ([.sym 111] :: [.sym 115] :: rest.map (fun z => [z])) ex) := by
  obtain ⟨r, e, h1, h2⟩ := cut_of (.sym 111) (.sym 115) ex rest
  exact ⟨_, _, _, .inr <| .inl ⟨rfl, rfl⟩, h1, h2, fun O a b0 => s5_2_5_0 O a r e b0⟩
theorem lOk_2_5_1 (ex : Bool) (rest : List PV) : LOk (.sl ([.sym 111] :: [.sym 117] :: rest.map (fun z => [z])) ex) := by
  obtain ⟨r, e, h1, h2⟩ := cut_of (.sym 111) (.sym 117) ex rest
  exact ⟨_, _, _, .inr <| .inr <| .inl ⟨rfl, rfl⟩, h1, h2, fun O a b0 => s5_2_5_1 O a r e b0⟩
theorem lOk_2_5_2 (ex : Bool) (rest : List PV) : LOk (.sl ([.sym 111] :: [.sym 119] :: rest.map (fun z => [z])) ex) := by
  obtain ⟨r, e, h1, h2⟩ := cut_of (.sym 111) (.sym 119) ex rest
  exact ⟨_, _, _, .inr <| .inr <| .inr <| .inl ⟨rfl, rfl⟩, h1, h2, fun O a b0 => s5_2_5_2 O a r e b0⟩
theorem lOk_2_5_3 (ex : Bool) (rest : List PV) : LOk (.sl ([.sym 111] :: [.sym 121] :: rest.map (fun z => [z])) ex) := by
  obtain ⟨r, e, h1, h2⟩ := cut_of (.sym 111) (.sym 121) ex rest
  exact ⟨_, _, _, .inl ⟨rfl, rfl⟩, h1, h2, fun O a b0 => s5_2_5_3 O a r e b0⟩
theorem lOk_2_5_4 (ex : Bool) (rest : List PV) : LOk (.sl ([.sym 111] :: [.sym 123] :: rest.map (fun z => [z])) ex) := by
  obtain ⟨r, e, h1, h2⟩ := cut_of (.sym 111) (.sym 123) ex rest
  exact ⟨_, _, _, .inr <| .inl ⟨rfl, rfl⟩, h1, h2, fun O a b0 => s5_2_5_4 O a r e b0⟩
theorem lOk_2_5_5 (ex : Bool) (rest : List PV) : LOk (.sl ([.sym 111] :: [.sym 125] :: rest.map (fun z => [z])) ex) := by
  obtain ⟨r, e, h1, h2⟩ := cut_of (.sym 111) (.sym 125) ex rest
  exact ⟨_, _, _, .inr <| .inr <| .inl ⟨rfl, rfl⟩, h1, h2, fun O a b0 => s5_2_5_5 O a r e b0⟩
theorem lOk_2_5_6 (ex : Bool) (rest : List PV) : LOk (.sl ([.sym 111] :: [.sym 127] :: rest.map (fun z => [z])) ex) := by
  obtain ⟨r, e, h1, h2⟩ := cut_of (.sym 111) (.sym 127) ex rest
  exact ⟨_, _, _, .inr <| .inr <| .inr <| .inl ⟨rfl, rfl⟩, h1, h2, fun O a b0 => s5_2_5_6 O a r e b0⟩
theorem lOk_2_6_0 (ex : Bool) (rest : List PV) : LOk (.sl ([.sym 113] :: [.sym 115] :: rest.map (fun z => [z])) ex) := by
  obtain ⟨r, e, h1, h2⟩ := cut_of (.sym 113) (.sym 115) ex rest
  exact ⟨_, _, _, .inr <| .inr <| .inr <| .inr <| .inr <| .inl ⟨rfl, rfl⟩, h1, h2, fun O a b0 => s5_2_6_0 O a r e b0⟩
theorem lOk_2_6_1 (ex : Bool) (rest : List PV) : LOk (.sl ([.sym 113] :: [.sym 117] :: rest.map (fun z => [z])) ex) := by
  obtain ⟨r, e, h1, h2⟩ := cut_of (.sym 113) (.sym 117) ex rest
  exact ⟨_, _, _, .inr <| .inr <| .inr <| .inr <| .inr <| .inr <| .inl ⟨rfl, rfl⟩, h1, h2, fun O a b0 => s5_2_6_1 O a r e b0⟩
theorem lOk_2_6_2 (ex : Bool) (rest : List PV) : LOk (.sl ([.sym 113] :: [.sym 119] :: rest.map (fun z => [z])) ex) := by
  obtain ⟨r, e, h1, h2⟩ := cut_of (.sym 113) (.sym 119) ex rest
  exact ⟨_, _, _, .inr <| .inr <| .inr <| .inr <| .inr <| .inr <| .inr <| ⟨rfl, rfl⟩, h1, h2, fun O a b0 => s5_2_6_2 O a r e b0⟩
theorem lOk_2_6_3 (ex : Bool) (rest : List PV) : LOk (.sl ([.sym 113] :: [.sym 121] :: rest.map (fun z => [z])) ex) := by
  obtain ⟨r, e, h1, h2⟩ := cut_of (.sym 113) (.sym 121) ex rest
  exact ⟨_, _, _, .inr <| .inr <| .inr <| .inr <| .inl ⟨rfl, rfl⟩, h1, h2, fun O a b0 => s5_2_6_3 O a r e b0⟩
theorem lOk_2_6_4 (ex : Bool) (rest : List PV) : LOk (.sl ([.sym 113] :: [.sym 123] :: rest.map (fun z => [z])) ex) := by
  obtain ⟨r, e, h1, h2⟩ := cut_of (.sym 113) (.sym 123) ex rest
  exact ⟨_, _, _, .inr <| .inr <| .inr <| .inr <| .inr <| .inl ⟨rfl, rfl⟩, h1, h2, fun O a b0 => s5_2_6_4 O a r e b0⟩
theorem lOk_2_6_5 (ex : Bool) (rest : List PV) : LOk (.sl ([.sym 113] :: [.sym 125] :: rest.map (fun z => [z])) ex) := by
  obtain ⟨r, e, h1, h2⟩ := cut_of (.sym 113) (.sym 125) ex rest
  exact ⟨_, _, _, .inr <| .inr <| .inr <| .inr <| .inr <| .inr <| .inl ⟨rfl, rfl⟩, h1, h2, fun O a b0 => s5_2_6_5 O a r e b0⟩
theorem lOk_2_6_6 (ex : Bool) (rest : List PV) : LOk (.sl ([.sym 113] :: [.sym 127] :: rest.map (fun z => [z])) ex) := by
  obtain ⟨r, e, h1, h2⟩ := cut_of (.sym 113) (.sym 127) ex rest
  exact ⟨_, _, _, .inr <| .inr <| .inr <| .inr <| .inr <| .inr <| .inr <| ⟨rfl, rfl⟩, h1, h2, fun O a b0 => s5_2_6_6 O a r e b0⟩
theorem lOk_1 (q : Nat) (hq : q < 7) (ex : Bool) : LOk (.sl [[.sym (101 + 2 * q)]] ex) := by
  have : q = 0 ∨ q = 1 ∨ q = 2 ∨ q = 3 ∨ q = 4 ∨ q = 5 ∨ q = 6 := by omega
  rcases this with rfl | rfl | rfl | rfl | rfl | rfl | rfl
  · exact lOk_1_0 ex
  · exact lOk_1_1 ex
  · exact lOk_1_2 ex
  · exact lOk_1_3 ex
  · exact lOk_1_4 ex
  · exact lOk_1_5 ex
  · exact lOk_1_6 ex
theorem lOk_2 (q p : Nat) (hq : q < 7) (hp : p < 7) (ex : Bool) (rest : List PV) : LOk (.sl ([.sym (101 + 2 * q)] :: [.sym (115 + 2 * p)] :: rest.map (fun z => [z])) ex) := by
  have h1 : q = 0 ∨ q = 1 ∨ q = 2 ∨ q = 3 ∨ q = 4 ∨ q = 5 ∨ q = 6 := by omega
  have h2 : p = 0 ∨ p = 1 ∨ p = 2 ∨ p = 3 ∨ p = 4 ∨ p = 5 ∨ p = 6 := by omega
  rcases h1 with rfl | rfl | rfl | rfl | rfl | rfl | rfl
  · rcases h2 with rfl | rfl | rfl | rfl | rfl | rfl | rfl
    · exact lOk_2_0_0 ex rest
    · exact lOk_2_0_1 ex rest
    · exact lOk_2_0_2 ex rest
    · exact lOk_2_0_3 ex rest
    · exact lOk_2_0_4 ex rest
    · exact lOk_2_0_5 ex rest
    · exact lOk_2_0_6 ex rest
  · rcases h2 with rfl | rfl | rfl | rfl | rfl | rfl | rfl
    · exact lOk_2_1_0 ex rest
    · exact lOk_2_1_1 ex rest
    · exact lOk_2_1_2 ex rest
    · exact lOk_2_1_3 ex rest
    · exact lOk_2_1_4 ex rest
    · exact lOk_2_1_5 ex rest
    · exact lOk_2_1_6 ex rest
  · rcases h2 with rfl | rfl | rfl | rfl | rfl | rfl | rfl
    · exact lOk_2_2_0 ex rest
    · exact lOk_2_2_1 ex rest
    · exact lOk_2_2_2 ex rest
    · exact lOk_2_2_3 ex rest
    · exact lOk_2_2_4 ex rest
    · exact lOk_2_2_5 ex rest
    · exact lOk_2_2_6 ex rest
  · rcases h2 with rfl | rfl | rfl | rfl | rfl | rfl | rfl
    · exact lOk_2_3_0 ex rest
    · exact lOk_2_3_1 ex rest
    · exact lOk_2_3_2 ex rest
    · exact lOk_2_3_3 ex rest
    · exact lOk_2_3_4 ex rest
    · exact lOk_2_3_5 ex rest
    · exact lOk_2_3_6 ex rest
  · rcases h2 with rfl | rfl | rfl | rfl | rfl | rfl | rfl
    · exact lOk_2_4_0 ex rest
    · exact lOk_2_4_1 ex rest
    · exact lOk_2_4_2 ex rest
    · exact lOk_2_4_3 ex rest
    · exact lOk_2_4_4 ex rest
    · exact lOk_2_4_5 ex rest
    · exact lOk_2_4_6 ex rest
  · rcases h2 with rfl | rfl | rfl | rfl | rfl | rfl | rfl
    · exact lOk_2_5_0 ex rest
    · exact lOk_2_5_1 ex rest
    · exact lOk_2_5_2 ex rest
    · exact lOk_2_5_3 ex rest
    · exact lOk_2_5_4 ex rest
    · exact lOk_2_5_5 ex rest
    · exact lOk_2_5_6 ex rest
  · rcases h2 with rfl | rfl | rfl | rfl | rfl | rfl | rfl
    · exact lOk_2_6_0 ex rest
    · exact lOk_2_6_1 ex rest
    · exact lOk_2_6_2 ex rest
    · exact lOk_2_6_3 ex rest
    · exact lOk_2_6_4 ex rest
    · exact lOk_2_6_5 ex rest
    · exact lOk_2_6_6 ex rest
end Go.Ev
