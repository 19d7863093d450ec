/-
  Closed facts of this seat's program, printed by program (gen.py): the types' shapes; for each function the plan of its functional reading, its check, and the step from the body to the call.
-/
import Derived.Test.YtfjccccfkpgmgaaFd8
import Derived.KernelRfl
import Derived.Test.YtfjccccfkpgmgaaFdK
namespace Go.Proofs.Ytfjccccfkpgmgaa.Fd
open Go
set_option maxRecDepth 100000
theorem mixed : Try.prog.follows .mixedOrders = true := by kernel_rfl
theorem t1_k : knd Try.prog 1 = some false := by kernel_rfl
theorem t1_s : siz Try.prog 1 = some 1 := by kernel_rfl
theorem t1_b : byt Try.prog 1 = some 8 := by kernel_rfl
theorem t1_g : tag Try.prog 1 = 7 := by kernel_rfl
theorem t1_z : zer Try.prog 1 = some .nilFunc := by kernel_rfl
theorem t1_e : elt Try.prog 1 = none := by kernel_rfl
theorem t2_k : knd Try.prog 2 = some false := by kernel_rfl
theorem t2_s : siz Try.prog 2 = some 1 := by kernel_rfl
theorem t2_b : byt Try.prog 2 = some 8 := by kernel_rfl
theorem t2_g : tag Try.prog 2 = 6 := by kernel_rfl
theorem t2_z : zer Try.prog 2 = some (.int .i64 0) := by kernel_rfl
theorem t2_e : elt Try.prog 2 = none := by kernel_rfl
theorem t3_k : knd Try.prog 3 = some false := by kernel_rfl
theorem t3_s : siz Try.prog 3 = some 1 := by kernel_rfl
theorem t3_b : byt Try.prog 3 = some 8 := by kernel_rfl
theorem t3_g : tag Try.prog 3 = 6 := by kernel_rfl
theorem t3_z : zer Try.prog 3 = some (.int .i64 0) := by kernel_rfl
theorem t3_e : elt Try.prog 3 = none := by kernel_rfl
theorem t4_k : knd Try.prog 4 = some false := by kernel_rfl
theorem t4_s : siz Try.prog 4 = some 1 := by kernel_rfl
theorem t4_b : byt Try.prog 4 = some 1 := by kernel_rfl
theorem t4_g : tag Try.prog 4 = 1 := by kernel_rfl
theorem t4_z : zer Try.prog 4 = some (.bool false) := by kernel_rfl
theorem t4_e : elt Try.prog 4 = none := by kernel_rfl
theorem t5_k : knd Try.prog 5 = some false := by kernel_rfl
theorem t5_s : siz Try.prog 5 = some 1 := by kernel_rfl
theorem t5_b : byt Try.prog 5 = some 1 := by kernel_rfl
theorem t5_g : tag Try.prog 5 = 6 := by kernel_rfl
theorem t5_z : zer Try.prog 5 = some (.int .u8 0) := by kernel_rfl
theorem t5_e : elt Try.prog 5 = none := by kernel_rfl
theorem t6_k : knd Try.prog 6 = some false := by kernel_rfl
theorem t6_s : siz Try.prog 6 = some 1 := by kernel_rfl
theorem t6_b : byt Try.prog 6 = some 1 := by kernel_rfl
theorem t6_g : tag Try.prog 6 = 6 := by kernel_rfl
theorem t6_z : zer Try.prog 6 = some (.int .u8 0) := by kernel_rfl
theorem t6_e : elt Try.prog 6 = none := by kernel_rfl
theorem t7_k : knd Try.prog 7 = some true := by kernel_rfl
theorem t7_s : siz Try.prog 7 = some 4 := by kernel_rfl
theorem t7_b : byt Try.prog 7 = some 24 := by kernel_rfl
theorem t7_g : tag Try.prog 7 = 0 := by kernel_rfl
theorem t7_z : zer Try.prog 7 = some (.agg #[(.int .i64 0), (.int .i64 0), (.bool false), (.int .u8 0)]) := by kernel_rfl
theorem t7_e : elt Try.prog 7 = none := by kernel_rfl
theorem t7_f0 : fofs Try.prog 7 0 = some 0 := by kernel_rfl
theorem t7_f1 : fofs Try.prog 7 1 = some 1 := by kernel_rfl
theorem t7_f2 : fofs Try.prog 7 2 = some 2 := by kernel_rfl
theorem t7_f3 : fofs Try.prog 7 3 = some 3 := by kernel_rfl
theorem t8_k : knd Try.prog 8 = some true := by kernel_rfl
theorem t8_s : siz Try.prog 8 = some 4 := by kernel_rfl
theorem t8_b : byt Try.prog 8 = some 24 := by kernel_rfl
theorem t8_g : tag Try.prog 8 = 0 := by kernel_rfl
theorem t8_z : zer Try.prog 8 = some (.agg #[(.int .i64 0), (.int .i64 0), (.bool false), (.int .u8 0)]) := by kernel_rfl
theorem t8_e : elt Try.prog 8 = none := by kernel_rfl
theorem t8_f0 : fofs Try.prog 8 0 = some 0 := by kernel_rfl
theorem t8_f1 : fofs Try.prog 8 1 = some 1 := by kernel_rfl
theorem t8_f2 : fofs Try.prog 8 2 = some 2 := by kernel_rfl
theorem t8_f3 : fofs Try.prog 8 3 = some 3 := by kernel_rfl
theorem t9_k : knd Try.prog 9 = some false := by kernel_rfl
theorem t9_s : siz Try.prog 9 = some 1 := by kernel_rfl
theorem t9_b : byt Try.prog 9 = some 16 := by kernel_rfl
theorem t9_g : tag Try.prog 9 = 4 := by kernel_rfl
theorem t9_z : zer Try.prog 9 = some (.string ByteArray.empty) := by kernel_rfl
theorem t9_e : elt Try.prog 9 = none := by kernel_rfl
theorem t10_k : knd Try.prog 10 = some false := by kernel_rfl
theorem t10_s : siz Try.prog 10 = some 1 := by kernel_rfl
theorem t10_b : byt Try.prog 10 = some 16 := by kernel_rfl
theorem t10_g : tag Try.prog 10 = 4 := by kernel_rfl
theorem t10_z : zer Try.prog 10 = some (.string ByteArray.empty) := by kernel_rfl
theorem t10_e : elt Try.prog 10 = none := by kernel_rfl
theorem t11_k : knd Try.prog 11 = some false := by kernel_rfl
theorem t11_s : siz Try.prog 11 = some 1 := by kernel_rfl
theorem t11_b : byt Try.prog 11 = some 16 := by kernel_rfl
theorem t11_g : tag Try.prog 11 = 4 := by kernel_rfl
theorem t11_z : zer Try.prog 11 = some (.string ByteArray.empty) := by kernel_rfl
theorem t11_e : elt Try.prog 11 = none := by kernel_rfl
theorem t12_k : knd Try.prog 12 = some false := by kernel_rfl
theorem t12_s : siz Try.prog 12 = some 1 := by kernel_rfl
theorem t12_b : byt Try.prog 12 = some 8 := by kernel_rfl
theorem t12_g : tag Try.prog 12 = 6 := by kernel_rfl
theorem t12_z : zer Try.prog 12 = some (.int .u64 0) := by kernel_rfl
theorem t12_e : elt Try.prog 12 = none := by kernel_rfl
theorem t13_k : knd Try.prog 13 = some true := by kernel_rfl
theorem t13_s : siz Try.prog 13 = some 2 := by kernel_rfl
theorem t13_b : byt Try.prog 13 = some 24 := by kernel_rfl
theorem t13_g : tag Try.prog 13 = 0 := by kernel_rfl
theorem t13_z : zer Try.prog 13 = some (.agg #[(.string ByteArray.empty), (.int .u64 0)]) := by kernel_rfl
theorem t13_e : elt Try.prog 13 = none := by kernel_rfl
theorem t13_f0 : fofs Try.prog 13 0 = some 0 := by kernel_rfl
theorem t13_f1 : fofs Try.prog 13 1 = some 1 := by kernel_rfl
theorem t14_k : knd Try.prog 14 = some true := by kernel_rfl
theorem t14_s : siz Try.prog 14 = some 2 := by kernel_rfl
theorem t14_b : byt Try.prog 14 = some 24 := by kernel_rfl
theorem t14_g : tag Try.prog 14 = 0 := by kernel_rfl
theorem t14_z : zer Try.prog 14 = some (.agg #[(.string ByteArray.empty), (.int .u64 0)]) := by kernel_rfl
theorem t14_e : elt Try.prog 14 = none := by kernel_rfl
theorem t14_f0 : fofs Try.prog 14 0 = some 0 := by kernel_rfl
theorem t14_f1 : fofs Try.prog 14 1 = some 1 := by kernel_rfl
theorem t15_k : knd Try.prog 15 = some false := by kernel_rfl
theorem t15_s : siz Try.prog 15 = some 1 := by kernel_rfl
theorem t15_b : byt Try.prog 15 = some 8 := by kernel_rfl
theorem t15_g : tag Try.prog 15 = 2 := by kernel_rfl
theorem t15_z : zer Try.prog 15 = some (.pointer none) := by kernel_rfl
theorem t15_e : elt Try.prog 15 = none := by kernel_rfl
theorem t16_k : knd Try.prog 16 = some false := by kernel_rfl
theorem t16_s : siz Try.prog 16 = some 1 := by kernel_rfl
theorem t16_b : byt Try.prog 16 = some 8 := by kernel_rfl
theorem t16_g : tag Try.prog 16 = 2 := by kernel_rfl
theorem t16_z : zer Try.prog 16 = some (.pointer none) := by kernel_rfl
theorem t16_e : elt Try.prog 16 = none := by kernel_rfl
theorem t17_k : knd Try.prog 17 = some false := by kernel_rfl
theorem t17_s : siz Try.prog 17 = some 1 := by kernel_rfl
theorem t17_b : byt Try.prog 17 = some 8 := by kernel_rfl
theorem t17_g : tag Try.prog 17 = 2 := by kernel_rfl
theorem t17_z : zer Try.prog 17 = some (.pointer none) := by kernel_rfl
theorem t17_e : elt Try.prog 17 = none := by kernel_rfl
theorem t18_k : knd Try.prog 18 = some true := by kernel_rfl
theorem t18_s : siz Try.prog 18 = some 1 := by kernel_rfl
theorem t18_b : byt Try.prog 18 = some 8 := by kernel_rfl
theorem t18_g : tag Try.prog 18 = 0 := by kernel_rfl
theorem t18_z : zer Try.prog 18 = some (.agg #[(.pointer none)]) := by kernel_rfl
theorem t18_e : elt Try.prog 18 = none := by kernel_rfl
theorem t18_f0 : fofs Try.prog 18 0 = some 0 := by kernel_rfl
theorem t19_k : knd Try.prog 19 = some true := by kernel_rfl
theorem t19_s : siz Try.prog 19 = some 1 := by kernel_rfl
theorem t19_b : byt Try.prog 19 = some 8 := by kernel_rfl
theorem t19_g : tag Try.prog 19 = 0 := by kernel_rfl
theorem t19_z : zer Try.prog 19 = some (.agg #[(.pointer none)]) := by kernel_rfl
theorem t19_e : elt Try.prog 19 = none := by kernel_rfl
theorem t19_f0 : fofs Try.prog 19 0 = some 0 := by kernel_rfl
theorem t20_k : knd Try.prog 20 = some false := by kernel_rfl
theorem t20_s : siz Try.prog 20 = some 1 := by kernel_rfl
theorem t20_b : byt Try.prog 20 = some 16 := by kernel_rfl
theorem t20_g : tag Try.prog 20 = 0 := by kernel_rfl
theorem t20_z : zer Try.prog 20 = some .nilIface := by kernel_rfl
theorem t20_e : elt Try.prog 20 = none := by kernel_rfl
theorem t21_k : knd Try.prog 21 = some false := by kernel_rfl
theorem t21_s : siz Try.prog 21 = some 1 := by kernel_rfl
theorem t21_b : byt Try.prog 21 = some 4 := by kernel_rfl
theorem t21_g : tag Try.prog 21 = 6 := by kernel_rfl
theorem t21_z : zer Try.prog 21 = some (.int .i32 0) := by kernel_rfl
theorem t21_e : elt Try.prog 21 = none := by kernel_rfl
theorem t22_k : knd Try.prog 22 = some false := by kernel_rfl
theorem t22_s : siz Try.prog 22 = some 1 := by kernel_rfl
theorem t22_b : byt Try.prog 22 = some 24 := by kernel_rfl
theorem t22_g : tag Try.prog 22 = 3 := by kernel_rfl
theorem t22_z : zer Try.prog 22 = some (.slice none 0 0) := by kernel_rfl
theorem t22_e : elt Try.prog 22 = some 29 := by kernel_rfl
theorem t23_k : knd Try.prog 23 = some false := by kernel_rfl
theorem t23_s : siz Try.prog 23 = some 1 := by kernel_rfl
theorem t23_b : byt Try.prog 23 = some 8 := by kernel_rfl
theorem t23_g : tag Try.prog 23 = 7 := by kernel_rfl
theorem t23_z : zer Try.prog 23 = some .nilFunc := by kernel_rfl
theorem t23_e : elt Try.prog 23 = none := by kernel_rfl
theorem t24_k : knd Try.prog 24 = some false := by kernel_rfl
theorem t24_s : siz Try.prog 24 = some 1 := by kernel_rfl
theorem t24_b : byt Try.prog 24 = some 8 := by kernel_rfl
theorem t24_g : tag Try.prog 24 = 6 := by kernel_rfl
theorem t24_z : zer Try.prog 24 = some (.int .i64 0) := by kernel_rfl
theorem t24_e : elt Try.prog 24 = none := by kernel_rfl
theorem t25_k : knd Try.prog 25 = some false := by kernel_rfl
theorem t25_s : siz Try.prog 25 = some 1 := by kernel_rfl
theorem t25_b : byt Try.prog 25 = some 8 := by kernel_rfl
theorem t25_g : tag Try.prog 25 = 7 := by kernel_rfl
theorem t25_z : zer Try.prog 25 = some .nilFunc := by kernel_rfl
theorem t25_e : elt Try.prog 25 = none := by kernel_rfl
theorem t26_k : knd Try.prog 26 = some false := by kernel_rfl
theorem t26_s : siz Try.prog 26 = some 1 := by kernel_rfl
theorem t26_b : byt Try.prog 26 = some 24 := by kernel_rfl
theorem t26_g : tag Try.prog 26 = 3 := by kernel_rfl
theorem t26_z : zer Try.prog 26 = some (.slice none 0 0) := by kernel_rfl
theorem t26_e : elt Try.prog 26 = some 3 := by kernel_rfl
theorem t28_k : knd Try.prog 28 = some false := by kernel_rfl
theorem t28_s : siz Try.prog 28 = some 1 := by kernel_rfl
theorem t28_b : byt Try.prog 28 = some 8 := by kernel_rfl
theorem t28_g : tag Try.prog 28 = 7 := by kernel_rfl
theorem t28_z : zer Try.prog 28 = some .nilFunc := by kernel_rfl
theorem t28_e : elt Try.prog 28 = none := by kernel_rfl
theorem t29_k : knd Try.prog 29 = some true := by kernel_rfl
theorem t29_s : siz Try.prog 29 = some 2 := by kernel_rfl
theorem t29_b : byt Try.prog 29 = some 16 := by kernel_rfl
theorem t29_g : tag Try.prog 29 = 0 := by kernel_rfl
theorem t29_z : zer Try.prog 29 = some (.agg #[(.int .i64 0), (.int .i64 0)]) := by kernel_rfl
theorem t29_e : elt Try.prog 29 = none := by kernel_rfl
theorem t29_a : arrOf Try.prog 29 = some (2, 3) := by kernel_rfl
theorem t30_k : knd Try.prog 30 = some false := by kernel_rfl
theorem t30_s : siz Try.prog 30 = some 1 := by kernel_rfl
theorem t30_b : byt Try.prog 30 = some 8 := by kernel_rfl
theorem t30_g : tag Try.prog 30 = 7 := by kernel_rfl
theorem t30_z : zer Try.prog 30 = some .nilFunc := by kernel_rfl
theorem t30_e : elt Try.prog 30 = none := by kernel_rfl
theorem t32_k : knd Try.prog 32 = some false := by kernel_rfl
theorem t32_s : siz Try.prog 32 = some 1 := by kernel_rfl
theorem t32_b : byt Try.prog 32 = some 8 := by kernel_rfl
theorem t32_g : tag Try.prog 32 = 7 := by kernel_rfl
theorem t32_z : zer Try.prog 32 = some .nilFunc := by kernel_rfl
theorem t32_e : elt Try.prog 32 = none := by kernel_rfl
theorem t34_k : knd Try.prog 34 = some false := by kernel_rfl
theorem t34_s : siz Try.prog 34 = some 1 := by kernel_rfl
theorem t34_b : byt Try.prog 34 = some 8 := by kernel_rfl
theorem t34_g : tag Try.prog 34 = 7 := by kernel_rfl
theorem t34_z : zer Try.prog 34 = some .nilFunc := by kernel_rfl
theorem t34_e : elt Try.prog 34 = none := by kernel_rfl
theorem t35_k : knd Try.prog 35 = some false := by kernel_rfl
theorem t35_s : siz Try.prog 35 = some 1 := by kernel_rfl
theorem t35_b : byt Try.prog 35 = some 24 := by kernel_rfl
theorem t35_g : tag Try.prog 35 = 3 := by kernel_rfl
theorem t35_z : zer Try.prog 35 = some (.slice none 0 0) := by kernel_rfl
theorem t35_e : elt Try.prog 35 = some 46 := by kernel_rfl
theorem t36_k : knd Try.prog 36 = some false := by kernel_rfl
theorem t36_s : siz Try.prog 36 = some 1 := by kernel_rfl
theorem t36_b : byt Try.prog 36 = some 8 := by kernel_rfl
theorem t36_g : tag Try.prog 36 = 7 := by kernel_rfl
theorem t36_z : zer Try.prog 36 = some .nilFunc := by kernel_rfl
theorem t36_e : elt Try.prog 36 = none := by kernel_rfl
theorem t37_k : knd Try.prog 37 = some false := by kernel_rfl
theorem t37_s : siz Try.prog 37 = some 1 := by kernel_rfl
theorem t37_b : byt Try.prog 37 = some 8 := by kernel_rfl
theorem t37_g : tag Try.prog 37 = 7 := by kernel_rfl
theorem t37_z : zer Try.prog 37 = some .nilFunc := by kernel_rfl
theorem t37_e : elt Try.prog 37 = none := by kernel_rfl
theorem t38_k : knd Try.prog 38 = some false := by kernel_rfl
theorem t38_s : siz Try.prog 38 = some 1 := by kernel_rfl
theorem t38_b : byt Try.prog 38 = some 8 := by kernel_rfl
theorem t38_g : tag Try.prog 38 = 7 := by kernel_rfl
theorem t38_z : zer Try.prog 38 = some .nilFunc := by kernel_rfl
theorem t38_e : elt Try.prog 38 = none := by kernel_rfl
theorem t39_k : knd Try.prog 39 = some false := by kernel_rfl
theorem t39_s : siz Try.prog 39 = some 1 := by kernel_rfl
theorem t39_b : byt Try.prog 39 = some 8 := by kernel_rfl
theorem t39_g : tag Try.prog 39 = 7 := by kernel_rfl
theorem t39_z : zer Try.prog 39 = some .nilFunc := by kernel_rfl
theorem t39_e : elt Try.prog 39 = none := by kernel_rfl
theorem t40_k : knd Try.prog 40 = some false := by kernel_rfl
theorem t40_s : siz Try.prog 40 = some 1 := by kernel_rfl
theorem t40_b : byt Try.prog 40 = some 8 := by kernel_rfl
theorem t40_g : tag Try.prog 40 = 7 := by kernel_rfl
theorem t40_z : zer Try.prog 40 = some .nilFunc := by kernel_rfl
theorem t40_e : elt Try.prog 40 = none := by kernel_rfl
theorem t41_k : knd Try.prog 41 = some false := by kernel_rfl
theorem t41_s : siz Try.prog 41 = some 1 := by kernel_rfl
theorem t41_b : byt Try.prog 41 = some 8 := by kernel_rfl
theorem t41_g : tag Try.prog 41 = 7 := by kernel_rfl
theorem t41_z : zer Try.prog 41 = some .nilFunc := by kernel_rfl
theorem t41_e : elt Try.prog 41 = none := by kernel_rfl
theorem t42_k : knd Try.prog 42 = some false := by kernel_rfl
theorem t42_s : siz Try.prog 42 = some 1 := by kernel_rfl
theorem t42_b : byt Try.prog 42 = some 8 := by kernel_rfl
theorem t42_g : tag Try.prog 42 = 7 := by kernel_rfl
theorem t42_z : zer Try.prog 42 = some .nilFunc := by kernel_rfl
theorem t42_e : elt Try.prog 42 = none := by kernel_rfl
theorem t43_k : knd Try.prog 43 = some false := by kernel_rfl
theorem t43_s : siz Try.prog 43 = some 1 := by kernel_rfl
theorem t43_b : byt Try.prog 43 = some 24 := by kernel_rfl
theorem t43_g : tag Try.prog 43 = 3 := by kernel_rfl
theorem t43_z : zer Try.prog 43 = some (.slice none 0 0) := by kernel_rfl
theorem t43_e : elt Try.prog 43 = some 26 := by kernel_rfl
theorem t45_k : knd Try.prog 45 = some false := by kernel_rfl
theorem t45_s : siz Try.prog 45 = some 1 := by kernel_rfl
theorem t45_b : byt Try.prog 45 = some 8 := by kernel_rfl
theorem t45_g : tag Try.prog 45 = 7 := by kernel_rfl
theorem t45_z : zer Try.prog 45 = some .nilFunc := by kernel_rfl
theorem t45_e : elt Try.prog 45 = none := by kernel_rfl
theorem t46_k : knd Try.prog 46 = some false := by kernel_rfl
theorem t46_s : siz Try.prog 46 = some 1 := by kernel_rfl
theorem t46_b : byt Try.prog 46 = some 24 := by kernel_rfl
theorem t46_g : tag Try.prog 46 = 3 := by kernel_rfl
theorem t46_z : zer Try.prog 46 = some (.slice none 0 0) := by kernel_rfl
theorem t46_e : elt Try.prog 46 = some 4 := by kernel_rfl
theorem t47_k : knd Try.prog 47 = some false := by kernel_rfl
theorem t47_s : siz Try.prog 47 = some 1 := by kernel_rfl
theorem t47_b : byt Try.prog 47 = some 8 := by kernel_rfl
theorem t47_g : tag Try.prog 47 = 7 := by kernel_rfl
theorem t47_z : zer Try.prog 47 = some .nilFunc := by kernel_rfl
theorem t47_e : elt Try.prog 47 = none := by kernel_rfl
theorem t48_k : knd Try.prog 48 = some false := by kernel_rfl
theorem t48_s : siz Try.prog 48 = some 1 := by kernel_rfl
theorem t48_b : byt Try.prog 48 = some 8 := by kernel_rfl
theorem t48_g : tag Try.prog 48 = 7 := by kernel_rfl
theorem t48_z : zer Try.prog 48 = some .nilFunc := by kernel_rfl
theorem t48_e : elt Try.prog 48 = none := by kernel_rfl
theorem t49_k : knd Try.prog 49 = some false := by kernel_rfl
theorem t49_s : siz Try.prog 49 = some 1 := by kernel_rfl
theorem t49_b : byt Try.prog 49 = some 8 := by kernel_rfl
theorem t49_g : tag Try.prog 49 = 7 := by kernel_rfl
theorem t49_z : zer Try.prog 49 = some .nilFunc := by kernel_rfl
theorem t49_e : elt Try.prog 49 = none := by kernel_rfl
theorem t50_k : knd Try.prog 50 = some false := by kernel_rfl
theorem t50_s : siz Try.prog 50 = some 1 := by kernel_rfl
theorem t50_b : byt Try.prog 50 = some 8 := by kernel_rfl
theorem t50_g : tag Try.prog 50 = 7 := by kernel_rfl
theorem t50_z : zer Try.prog 50 = some .nilFunc := by kernel_rfl
theorem t50_e : elt Try.prog 50 = none := by kernel_rfl
theorem t51_k : knd Try.prog 51 = some false := by kernel_rfl
theorem t51_s : siz Try.prog 51 = some 1 := by kernel_rfl
theorem t51_b : byt Try.prog 51 = some 8 := by kernel_rfl
theorem t51_g : tag Try.prog 51 = 6 := by kernel_rfl
theorem t51_z : zer Try.prog 51 = some (.int .u64 0) := by kernel_rfl
theorem t51_e : elt Try.prog 51 = none := by kernel_rfl
theorem t52_k : knd Try.prog 52 = some true := by kernel_rfl
theorem t52_s : siz Try.prog 52 = some 64 := by kernel_rfl
theorem t52_b : byt Try.prog 52 = some 512 := by kernel_rfl
theorem t52_g : tag Try.prog 52 = 0 := by kernel_rfl
theorem t52_z : zer Try.prog 52 = some (.agg (List.replicate 64 (.int .u64 0 : Value)).toArray) := by kernel_rfl
theorem t52_e : elt Try.prog 52 = none := by kernel_rfl
theorem t52_a : arrOf Try.prog 52 = some (64, 51) := by kernel_rfl
theorem t53_k : knd Try.prog 53 = some true := by kernel_rfl
theorem t53_s : siz Try.prog 53 = some 64 := by kernel_rfl
theorem t53_b : byt Try.prog 53 = some 512 := by kernel_rfl
theorem t53_g : tag Try.prog 53 = 0 := by kernel_rfl
theorem t53_z : zer Try.prog 53 = some (.agg (List.replicate 64 (.int .u64 0 : Value)).toArray) := by kernel_rfl
theorem t53_e : elt Try.prog 53 = none := by kernel_rfl
theorem t53_a : arrOf Try.prog 53 = some (64, 51) := by kernel_rfl
theorem t55_k : knd Try.prog 55 = some false := by kernel_rfl
theorem t55_s : siz Try.prog 55 = some 1 := by kernel_rfl
theorem t55_b : byt Try.prog 55 = some 8 := by kernel_rfl
theorem t55_g : tag Try.prog 55 = 7 := by kernel_rfl
theorem t55_z : zer Try.prog 55 = some .nilFunc := by kernel_rfl
theorem t55_e : elt Try.prog 55 = none := by kernel_rfl
theorem t56_k : knd Try.prog 56 = some false := by kernel_rfl
theorem t56_s : siz Try.prog 56 = some 1 := by kernel_rfl
theorem t56_b : byt Try.prog 56 = some 8 := by kernel_rfl
theorem t56_g : tag Try.prog 56 = 7 := by kernel_rfl
theorem t56_z : zer Try.prog 56 = some .nilFunc := by kernel_rfl
theorem t56_e : elt Try.prog 56 = none := by kernel_rfl
theorem t57_k : knd Try.prog 57 = some false := by kernel_rfl
theorem t57_s : siz Try.prog 57 = some 1 := by kernel_rfl
theorem t57_b : byt Try.prog 57 = some 8 := by kernel_rfl
theorem t57_g : tag Try.prog 57 = 7 := by kernel_rfl
theorem t57_z : zer Try.prog 57 = some .nilFunc := by kernel_rfl
theorem t57_e : elt Try.prog 57 = none := by kernel_rfl
theorem t58_k : knd Try.prog 58 = some false := by kernel_rfl
theorem t58_s : siz Try.prog 58 = some 1 := by kernel_rfl
theorem t58_b : byt Try.prog 58 = some 8 := by kernel_rfl
theorem t58_g : tag Try.prog 58 = 7 := by kernel_rfl
theorem t58_z : zer Try.prog 58 = some .nilFunc := by kernel_rfl
theorem t58_e : elt Try.prog 58 = none := by kernel_rfl
theorem t59_k : knd Try.prog 59 = some false := by kernel_rfl
theorem t59_s : siz Try.prog 59 = some 1 := by kernel_rfl
theorem t59_b : byt Try.prog 59 = some 8 := by kernel_rfl
theorem t59_g : tag Try.prog 59 = 7 := by kernel_rfl
theorem t59_z : zer Try.prog 59 = some .nilFunc := by kernel_rfl
theorem t59_e : elt Try.prog 59 = none := by kernel_rfl
theorem t60_k : knd Try.prog 60 = some true := by kernel_rfl
theorem t60_s : siz Try.prog 60 = some 64 := by kernel_rfl
theorem t60_b : byt Try.prog 60 = some 512 := by kernel_rfl
theorem t60_g : tag Try.prog 60 = 0 := by kernel_rfl
theorem t60_z : zer Try.prog 60 = some (.agg (List.replicate 64 (.int .i64 0 : Value)).toArray) := by kernel_rfl
theorem t60_e : elt Try.prog 60 = none := by kernel_rfl
theorem t60_a : arrOf Try.prog 60 = some (64, 3) := by kernel_rfl
theorem t61_k : knd Try.prog 61 = some false := by kernel_rfl
theorem t61_s : siz Try.prog 61 = some 1 := by kernel_rfl
theorem t61_b : byt Try.prog 61 = some 8 := by kernel_rfl
theorem t61_g : tag Try.prog 61 = 7 := by kernel_rfl
theorem t61_z : zer Try.prog 61 = some .nilFunc := by kernel_rfl
theorem t61_e : elt Try.prog 61 = none := by kernel_rfl
theorem t62_k : knd Try.prog 62 = some false := by kernel_rfl
theorem t62_s : siz Try.prog 62 = some 1 := by kernel_rfl
theorem t62_b : byt Try.prog 62 = some 8 := by kernel_rfl
theorem t62_g : tag Try.prog 62 = 7 := by kernel_rfl
theorem t62_z : zer Try.prog 62 = some .nilFunc := by kernel_rfl
theorem t62_e : elt Try.prog 62 = none := by kernel_rfl
theorem t63_k : knd Try.prog 63 = some false := by kernel_rfl
theorem t63_s : siz Try.prog 63 = some 1 := by kernel_rfl
theorem t63_b : byt Try.prog 63 = some 8 := by kernel_rfl
theorem t63_g : tag Try.prog 63 = 7 := by kernel_rfl
theorem t63_z : zer Try.prog 63 = some .nilFunc := by kernel_rfl
theorem t63_e : elt Try.prog 63 = none := by kernel_rfl
theorem t65_k : knd Try.prog 65 = some false := by kernel_rfl
theorem t65_s : siz Try.prog 65 = some 1 := by kernel_rfl
theorem t65_b : byt Try.prog 65 = some 8 := by kernel_rfl
theorem t65_g : tag Try.prog 65 = 7 := by kernel_rfl
theorem t65_z : zer Try.prog 65 = some .nilFunc := by kernel_rfl
theorem t65_e : elt Try.prog 65 = none := by kernel_rfl
theorem t66_k : knd Try.prog 66 = some false := by kernel_rfl
theorem t66_s : siz Try.prog 66 = some 1 := by kernel_rfl
theorem t66_b : byt Try.prog 66 = some 8 := by kernel_rfl
theorem t66_g : tag Try.prog 66 = 7 := by kernel_rfl
theorem t66_z : zer Try.prog 66 = some .nilFunc := by kernel_rfl
theorem t66_e : elt Try.prog 66 = none := by kernel_rfl
theorem t67_k : knd Try.prog 67 = some false := by kernel_rfl
theorem t67_s : siz Try.prog 67 = some 1 := by kernel_rfl
theorem t67_b : byt Try.prog 67 = some 8 := by kernel_rfl
theorem t67_g : tag Try.prog 67 = 7 := by kernel_rfl
theorem t67_z : zer Try.prog 67 = some .nilFunc := by kernel_rfl
theorem t67_e : elt Try.prog 67 = none := by kernel_rfl
theorem t68_k : knd Try.prog 68 = some false := by kernel_rfl
theorem t68_s : siz Try.prog 68 = some 1 := by kernel_rfl
theorem t68_b : byt Try.prog 68 = some 8 := by kernel_rfl
theorem t68_g : tag Try.prog 68 = 7 := by kernel_rfl
theorem t68_z : zer Try.prog 68 = some .nilFunc := by kernel_rfl
theorem t68_e : elt Try.prog 68 = none := by kernel_rfl
theorem t69_k : knd Try.prog 69 = some false := by kernel_rfl
theorem t69_s : siz Try.prog 69 = some 1 := by kernel_rfl
theorem t69_b : byt Try.prog 69 = some 8 := by kernel_rfl
theorem t69_g : tag Try.prog 69 = 7 := by kernel_rfl
theorem t69_z : zer Try.prog 69 = some .nilFunc := by kernel_rfl
theorem t69_e : elt Try.prog 69 = none := by kernel_rfl
theorem t70_k : knd Try.prog 70 = some false := by kernel_rfl
theorem t70_s : siz Try.prog 70 = some 1 := by kernel_rfl
theorem t70_b : byt Try.prog 70 = some 8 := by kernel_rfl
theorem t70_g : tag Try.prog 70 = 7 := by kernel_rfl
theorem t70_z : zer Try.prog 70 = some .nilFunc := by kernel_rfl
theorem t70_e : elt Try.prog 70 = none := by kernel_rfl
theorem t71_k : knd Try.prog 71 = some false := by kernel_rfl
theorem t71_s : siz Try.prog 71 = some 1 := by kernel_rfl
theorem t71_b : byt Try.prog 71 = some 8 := by kernel_rfl
theorem t71_g : tag Try.prog 71 = 7 := by kernel_rfl
theorem t71_z : zer Try.prog 71 = some .nilFunc := by kernel_rfl
theorem t71_e : elt Try.prog 71 = none := by kernel_rfl
theorem t72_k : knd Try.prog 72 = some false := by kernel_rfl
theorem t72_s : siz Try.prog 72 = some 1 := by kernel_rfl
theorem t72_b : byt Try.prog 72 = some 8 := by kernel_rfl
theorem t72_g : tag Try.prog 72 = 7 := by kernel_rfl
theorem t72_z : zer Try.prog 72 = some .nilFunc := by kernel_rfl
theorem t72_e : elt Try.prog 72 = none := by kernel_rfl
theorem t73_k : knd Try.prog 73 = some false := by kernel_rfl
theorem t73_s : siz Try.prog 73 = some 1 := by kernel_rfl
theorem t73_b : byt Try.prog 73 = some 8 := by kernel_rfl
theorem t73_g : tag Try.prog 73 = 2 := by kernel_rfl
theorem t73_z : zer Try.prog 73 = some (.pointer none) := by kernel_rfl
theorem t73_e : elt Try.prog 73 = none := by kernel_rfl
theorem t74_k : knd Try.prog 74 = some false := by kernel_rfl
theorem t74_s : siz Try.prog 74 = some 1 := by kernel_rfl
theorem t74_b : byt Try.prog 74 = some 8 := by kernel_rfl
theorem t74_g : tag Try.prog 74 = 7 := by kernel_rfl
theorem t74_z : zer Try.prog 74 = some .nilFunc := by kernel_rfl
theorem t74_e : elt Try.prog 74 = none := by kernel_rfl
theorem t75_k : knd Try.prog 75 = some false := by kernel_rfl
theorem t75_s : siz Try.prog 75 = some 1 := by kernel_rfl
theorem t75_b : byt Try.prog 75 = some 8 := by kernel_rfl
theorem t75_g : tag Try.prog 75 = 7 := by kernel_rfl
theorem t75_z : zer Try.prog 75 = some .nilFunc := by kernel_rfl
theorem t75_e : elt Try.prog 75 = none := by kernel_rfl
theorem t76_k : knd Try.prog 76 = some false := by kernel_rfl
theorem t76_s : siz Try.prog 76 = some 1 := by kernel_rfl
theorem t76_b : byt Try.prog 76 = some 8 := by kernel_rfl
theorem t76_g : tag Try.prog 76 = 7 := by kernel_rfl
theorem t76_z : zer Try.prog 76 = some .nilFunc := by kernel_rfl
theorem t76_e : elt Try.prog 76 = none := by kernel_rfl
theorem t77_k : knd Try.prog 77 = some false := by kernel_rfl
theorem t77_s : siz Try.prog 77 = some 1 := by kernel_rfl
theorem t77_b : byt Try.prog 77 = some 8 := by kernel_rfl
theorem t77_g : tag Try.prog 77 = 6 := by kernel_rfl
theorem t77_z : zer Try.prog 77 = some (.int .u64 0) := by kernel_rfl
theorem t77_e : elt Try.prog 77 = none := by kernel_rfl
theorem t78_k : knd Try.prog 78 = some false := by kernel_rfl
theorem t78_s : siz Try.prog 78 = some 1 := by kernel_rfl
theorem t78_b : byt Try.prog 78 = some 8 := by kernel_rfl
theorem t78_g : tag Try.prog 78 = 7 := by kernel_rfl
theorem t78_z : zer Try.prog 78 = some .nilFunc := by kernel_rfl
theorem t78_e : elt Try.prog 78 = none := by kernel_rfl
theorem t79_k : knd Try.prog 79 = some false := by kernel_rfl
theorem t79_s : siz Try.prog 79 = some 1 := by kernel_rfl
theorem t79_b : byt Try.prog 79 = some 8 := by kernel_rfl
theorem t79_g : tag Try.prog 79 = 7 := by kernel_rfl
theorem t79_z : zer Try.prog 79 = some .nilFunc := by kernel_rfl
theorem t79_e : elt Try.prog 79 = none := by kernel_rfl
theorem t80_k : knd Try.prog 80 = some false := by kernel_rfl
theorem t80_s : siz Try.prog 80 = some 1 := by kernel_rfl
theorem t80_b : byt Try.prog 80 = some 8 := by kernel_rfl
theorem t80_g : tag Try.prog 80 = 6 := by kernel_rfl
theorem t80_z : zer Try.prog 80 = some (.int .i64 0) := by kernel_rfl
theorem t80_e : elt Try.prog 80 = none := by kernel_rfl
theorem t82_k : knd Try.prog 82 = some false := by kernel_rfl
theorem t82_s : siz Try.prog 82 = some 1 := by kernel_rfl
theorem t82_b : byt Try.prog 82 = some 8 := by kernel_rfl
theorem t82_g : tag Try.prog 82 = 7 := by kernel_rfl
theorem t82_z : zer Try.prog 82 = some .nilFunc := by kernel_rfl
theorem t82_e : elt Try.prog 82 = none := by kernel_rfl
theorem t83_k : knd Try.prog 83 = some false := by kernel_rfl
theorem t83_s : siz Try.prog 83 = some 1 := by kernel_rfl
theorem t83_b : byt Try.prog 83 = some 8 := by kernel_rfl
theorem t83_g : tag Try.prog 83 = 7 := by kernel_rfl
theorem t83_z : zer Try.prog 83 = some .nilFunc := by kernel_rfl
theorem t83_e : elt Try.prog 83 = none := by kernel_rfl
theorem t84_k : knd Try.prog 84 = some false := by kernel_rfl
theorem t84_s : siz Try.prog 84 = some 1 := by kernel_rfl
theorem t84_b : byt Try.prog 84 = some 8 := by kernel_rfl
theorem t84_g : tag Try.prog 84 = 7 := by kernel_rfl
theorem t84_z : zer Try.prog 84 = some .nilFunc := by kernel_rfl
theorem t84_e : elt Try.prog 84 = none := by kernel_rfl
theorem t86_k : knd Try.prog 86 = some false := by kernel_rfl
theorem t86_s : siz Try.prog 86 = some 1 := by kernel_rfl
theorem t86_b : byt Try.prog 86 = some 8 := by kernel_rfl
theorem t86_g : tag Try.prog 86 = 7 := by kernel_rfl
theorem t86_z : zer Try.prog 86 = some .nilFunc := by kernel_rfl
theorem t86_e : elt Try.prog 86 = none := by kernel_rfl
theorem t87_k : knd Try.prog 87 = some false := by kernel_rfl
theorem t87_s : siz Try.prog 87 = some 1 := by kernel_rfl
theorem t87_b : byt Try.prog 87 = some 8 := by kernel_rfl
theorem t87_g : tag Try.prog 87 = 7 := by kernel_rfl
theorem t87_z : zer Try.prog 87 = some .nilFunc := by kernel_rfl
theorem t87_e : elt Try.prog 87 = none := by kernel_rfl
theorem t88_k : knd Try.prog 88 = some false := by kernel_rfl
theorem t88_s : siz Try.prog 88 = some 1 := by kernel_rfl
theorem t88_b : byt Try.prog 88 = some 4 := by kernel_rfl
theorem t88_g : tag Try.prog 88 = 6 := by kernel_rfl
theorem t88_z : zer Try.prog 88 = some (.int .u32 0) := by kernel_rfl
theorem t88_e : elt Try.prog 88 = none := by kernel_rfl
theorem t89_k : knd Try.prog 89 = some false := by kernel_rfl
theorem t89_s : siz Try.prog 89 = some 1 := by kernel_rfl
theorem t89_b : byt Try.prog 89 = some 8 := by kernel_rfl
theorem t89_g : tag Try.prog 89 = 6 := by kernel_rfl
theorem t89_z : zer Try.prog 89 = some (.int .u64 0) := by kernel_rfl
theorem t89_e : elt Try.prog 89 = none := by kernel_rfl
theorem t90_k : knd Try.prog 90 = some false := by kernel_rfl
theorem t90_s : siz Try.prog 90 = some 1 := by kernel_rfl
theorem t90_b : byt Try.prog 90 = some 8 := by kernel_rfl
theorem t90_g : tag Try.prog 90 = 7 := by kernel_rfl
theorem t90_z : zer Try.prog 90 = some .nilFunc := by kernel_rfl
theorem t90_e : elt Try.prog 90 = none := by kernel_rfl
theorem t91_k : knd Try.prog 91 = some false := by kernel_rfl
theorem t91_s : siz Try.prog 91 = some 1 := by kernel_rfl
theorem t91_b : byt Try.prog 91 = some 8 := by kernel_rfl
theorem t91_g : tag Try.prog 91 = 7 := by kernel_rfl
theorem t91_z : zer Try.prog 91 = some .nilFunc := by kernel_rfl
theorem t91_e : elt Try.prog 91 = none := by kernel_rfl
theorem t92_k : knd Try.prog 92 = some false := by kernel_rfl
theorem t92_s : siz Try.prog 92 = some 1 := by kernel_rfl
theorem t92_b : byt Try.prog 92 = some 8 := by kernel_rfl
theorem t92_g : tag Try.prog 92 = 7 := by kernel_rfl
theorem t92_z : zer Try.prog 92 = some .nilFunc := by kernel_rfl
theorem t92_e : elt Try.prog 92 = none := by kernel_rfl
theorem t93_k : knd Try.prog 93 = some false := by kernel_rfl
theorem t93_s : siz Try.prog 93 = some 1 := by kernel_rfl
theorem t93_b : byt Try.prog 93 = some 8 := by kernel_rfl
theorem t93_g : tag Try.prog 93 = 2 := by kernel_rfl
theorem t93_z : zer Try.prog 93 = some (.pointer none) := by kernel_rfl
theorem t93_e : elt Try.prog 93 = none := by kernel_rfl
theorem t94_k : knd Try.prog 94 = some false := by kernel_rfl
theorem t94_s : siz Try.prog 94 = some 1 := by kernel_rfl
theorem t94_b : byt Try.prog 94 = some 8 := by kernel_rfl
theorem t94_g : tag Try.prog 94 = 7 := by kernel_rfl
theorem t94_z : zer Try.prog 94 = some .nilFunc := by kernel_rfl
theorem t94_e : elt Try.prog 94 = none := by kernel_rfl
theorem t95_k : knd Try.prog 95 = some false := by kernel_rfl
theorem t95_s : siz Try.prog 95 = some 1 := by kernel_rfl
theorem t95_b : byt Try.prog 95 = some 8 := by kernel_rfl
theorem t95_g : tag Try.prog 95 = 2 := by kernel_rfl
theorem t95_z : zer Try.prog 95 = some (.pointer none) := by kernel_rfl
theorem t95_e : elt Try.prog 95 = none := by kernel_rfl
theorem t97_k : knd Try.prog 97 = some false := by kernel_rfl
theorem t97_s : siz Try.prog 97 = some 1 := by kernel_rfl
theorem t97_b : byt Try.prog 97 = some 8 := by kernel_rfl
theorem t97_g : tag Try.prog 97 = 7 := by kernel_rfl
theorem t97_z : zer Try.prog 97 = some .nilFunc := by kernel_rfl
theorem t97_e : elt Try.prog 97 = none := by kernel_rfl
theorem t98_k : knd Try.prog 98 = some false := by kernel_rfl
theorem t98_s : siz Try.prog 98 = some 1 := by kernel_rfl
theorem t98_b : byt Try.prog 98 = some 8 := by kernel_rfl
theorem t98_g : tag Try.prog 98 = 7 := by kernel_rfl
theorem t98_z : zer Try.prog 98 = some .nilFunc := by kernel_rfl
theorem t98_e : elt Try.prog 98 = none := by kernel_rfl
theorem t99_k : knd Try.prog 99 = some true := by kernel_rfl
theorem t99_s : siz Try.prog 99 = some 4 := by kernel_rfl
theorem t99_b : byt Try.prog 99 = some 40 := by kernel_rfl
theorem t99_g : tag Try.prog 99 = 0 := by kernel_rfl
theorem t99_z : zer Try.prog 99 = some (.agg #[(.pointer none), (.pointer none), (.pointer none), (.string ByteArray.empty)]) := by kernel_rfl
theorem t99_e : elt Try.prog 99 = none := by kernel_rfl
theorem t99_f0 : fofs Try.prog 99 0 = some 0 := by kernel_rfl
theorem t99_f1 : fofs Try.prog 99 1 = some 1 := by kernel_rfl
theorem t99_f2 : fofs Try.prog 99 2 = some 2 := by kernel_rfl
theorem t99_f3 : fofs Try.prog 99 3 = some 3 := by kernel_rfl
theorem t100_k : knd Try.prog 100 = some true := by kernel_rfl
theorem t100_s : siz Try.prog 100 = some 4 := by kernel_rfl
theorem t100_b : byt Try.prog 100 = some 40 := by kernel_rfl
theorem t100_g : tag Try.prog 100 = 0 := by kernel_rfl
theorem t100_z : zer Try.prog 100 = some (.agg #[(.pointer none), (.pointer none), (.pointer none), (.string ByteArray.empty)]) := by kernel_rfl
theorem t100_e : elt Try.prog 100 = none := by kernel_rfl
theorem t100_f0 : fofs Try.prog 100 0 = some 0 := by kernel_rfl
theorem t100_f1 : fofs Try.prog 100 1 = some 1 := by kernel_rfl
theorem t100_f2 : fofs Try.prog 100 2 = some 2 := by kernel_rfl
theorem t100_f3 : fofs Try.prog 100 3 = some 3 := by kernel_rfl
theorem t101_k : knd Try.prog 101 = some true := by kernel_rfl
theorem t101_s : siz Try.prog 101 = some 0 := by kernel_rfl
theorem t101_b : byt Try.prog 101 = some 0 := by kernel_rfl
theorem t101_g : tag Try.prog 101 = 0 := by kernel_rfl
theorem t101_z : zer Try.prog 101 = some (.agg #[]) := by kernel_rfl
theorem t101_e : elt Try.prog 101 = none := by kernel_rfl
theorem t101_a : arrOf Try.prog 101 = some (0, 16) := by kernel_rfl
theorem t102_k : knd Try.prog 102 = some true := by kernel_rfl
theorem t102_s : siz Try.prog 102 = some 0 := by kernel_rfl
theorem t102_b : byt Try.prog 102 = some 0 := by kernel_rfl
theorem t102_g : tag Try.prog 102 = 0 := by kernel_rfl
theorem t102_e : elt Try.prog 102 = none := by kernel_rfl
theorem t103_k : knd Try.prog 103 = some true := by kernel_rfl
theorem t103_s : siz Try.prog 103 = some 0 := by kernel_rfl
theorem t103_b : byt Try.prog 103 = some 0 := by kernel_rfl
theorem t103_g : tag Try.prog 103 = 0 := by kernel_rfl
theorem t103_e : elt Try.prog 103 = none := by kernel_rfl
theorem t104_k : knd Try.prog 104 = some false := by kernel_rfl
theorem t104_s : siz Try.prog 104 = some 1 := by kernel_rfl
theorem t104_b : byt Try.prog 104 = some 8 := by kernel_rfl
theorem t104_g : tag Try.prog 104 = 7 := by kernel_rfl
theorem t104_z : zer Try.prog 104 = some .nilFunc := by kernel_rfl
theorem t104_e : elt Try.prog 104 = none := by kernel_rfl
theorem t105_k : knd Try.prog 105 = some false := by kernel_rfl
theorem t105_s : siz Try.prog 105 = some 1 := by kernel_rfl
theorem t105_b : byt Try.prog 105 = some 1 := by kernel_rfl
theorem t105_g : tag Try.prog 105 = 6 := by kernel_rfl
theorem t105_z : zer Try.prog 105 = some (.int .u8 0) := by kernel_rfl
theorem t105_e : elt Try.prog 105 = none := by kernel_rfl
theorem t106_k : knd Try.prog 106 = some false := by kernel_rfl
theorem t106_s : siz Try.prog 106 = some 1 := by kernel_rfl
theorem t106_b : byt Try.prog 106 = some 1 := by kernel_rfl
theorem t106_g : tag Try.prog 106 = 6 := by kernel_rfl
theorem t106_z : zer Try.prog 106 = some (.int .u8 0) := by kernel_rfl
theorem t106_e : elt Try.prog 106 = none := by kernel_rfl
theorem t107_k : knd Try.prog 107 = some false := by kernel_rfl
theorem t107_s : siz Try.prog 107 = some 1 := by kernel_rfl
theorem t107_b : byt Try.prog 107 = some 8 := by kernel_rfl
theorem t107_g : tag Try.prog 107 = 7 := by kernel_rfl
theorem t107_z : zer Try.prog 107 = some .nilFunc := by kernel_rfl
theorem t107_e : elt Try.prog 107 = none := by kernel_rfl
theorem t108_k : knd Try.prog 108 = some false := by kernel_rfl
theorem t108_s : siz Try.prog 108 = some 1 := by kernel_rfl
theorem t108_b : byt Try.prog 108 = some 8 := by kernel_rfl
theorem t108_g : tag Try.prog 108 = 2 := by kernel_rfl
theorem t108_z : zer Try.prog 108 = some (.pointer none) := by kernel_rfl
theorem t108_e : elt Try.prog 108 = none := by kernel_rfl
theorem t109_k : knd Try.prog 109 = some false := by kernel_rfl
theorem t109_s : siz Try.prog 109 = some 1 := by kernel_rfl
theorem t109_b : byt Try.prog 109 = some 4 := by kernel_rfl
theorem t109_g : tag Try.prog 109 = 6 := by kernel_rfl
theorem t109_z : zer Try.prog 109 = some (.int .i32 0) := by kernel_rfl
theorem t109_e : elt Try.prog 109 = none := by kernel_rfl
theorem t110_k : knd Try.prog 110 = some false := by kernel_rfl
theorem t110_s : siz Try.prog 110 = some 1 := by kernel_rfl
theorem t110_b : byt Try.prog 110 = some 4 := by kernel_rfl
theorem t110_g : tag Try.prog 110 = 6 := by kernel_rfl
theorem t110_z : zer Try.prog 110 = some (.int .i32 0) := by kernel_rfl
theorem t110_e : elt Try.prog 110 = none := by kernel_rfl
theorem t111_k : knd Try.prog 111 = some true := by kernel_rfl
theorem t111_s : siz Try.prog 111 = some 11 := by kernel_rfl
theorem t111_b : byt Try.prog 111 = some 48 := by kernel_rfl
theorem t111_g : tag Try.prog 111 = 0 := by kernel_rfl
theorem t111_z : zer Try.prog 111 = some (.agg #[(.int .u64 0), (.int .u64 0), (.int .u32 0), (.int .u8 0), (.int .u8 0), (.int .u8 0), (.int .u8 0), .nilFunc, (.pointer none), (.int .i32 0), (.int .i32 0)]) := by kernel_rfl
theorem t111_e : elt Try.prog 111 = none := by kernel_rfl
theorem t111_f0 : fofs Try.prog 111 0 = some 0 := by kernel_rfl
theorem t111_f1 : fofs Try.prog 111 1 = some 1 := by kernel_rfl
theorem t111_f2 : fofs Try.prog 111 2 = some 2 := by kernel_rfl
theorem t111_f3 : fofs Try.prog 111 3 = some 3 := by kernel_rfl
theorem t111_f4 : fofs Try.prog 111 4 = some 4 := by kernel_rfl
theorem t111_f5 : fofs Try.prog 111 5 = some 5 := by kernel_rfl
theorem t111_f6 : fofs Try.prog 111 6 = some 6 := by kernel_rfl
theorem t111_f7 : fofs Try.prog 111 7 = some 7 := by kernel_rfl
theorem t111_f8 : fofs Try.prog 111 8 = some 8 := by kernel_rfl
theorem t111_f9 : fofs Try.prog 111 9 = some 9 := by kernel_rfl
theorem t111_f10 : fofs Try.prog 111 10 = some 10 := by kernel_rfl
theorem t112_k : knd Try.prog 112 = some true := by kernel_rfl
theorem t112_s : siz Try.prog 112 = some 11 := by kernel_rfl
theorem t112_b : byt Try.prog 112 = some 48 := by kernel_rfl
theorem t112_g : tag Try.prog 112 = 0 := by kernel_rfl
theorem t112_z : zer Try.prog 112 = some (.agg #[(.int .u64 0), (.int .u64 0), (.int .u32 0), (.int .u8 0), (.int .u8 0), (.int .u8 0), (.int .u8 0), .nilFunc, (.pointer none), (.int .i32 0), (.int .i32 0)]) := by kernel_rfl
theorem t112_e : elt Try.prog 112 = none := by kernel_rfl
theorem t112_f0 : fofs Try.prog 112 0 = some 0 := by kernel_rfl
theorem t112_f1 : fofs Try.prog 112 1 = some 1 := by kernel_rfl
theorem t112_f2 : fofs Try.prog 112 2 = some 2 := by kernel_rfl
theorem t112_f3 : fofs Try.prog 112 3 = some 3 := by kernel_rfl
theorem t112_f4 : fofs Try.prog 112 4 = some 4 := by kernel_rfl
theorem t112_f5 : fofs Try.prog 112 5 = some 5 := by kernel_rfl
theorem t112_f6 : fofs Try.prog 112 6 = some 6 := by kernel_rfl
theorem t112_f7 : fofs Try.prog 112 7 = some 7 := by kernel_rfl
theorem t112_f8 : fofs Try.prog 112 8 = some 8 := by kernel_rfl
theorem t112_f9 : fofs Try.prog 112 9 = some 9 := by kernel_rfl
theorem t112_f10 : fofs Try.prog 112 10 = some 10 := by kernel_rfl
theorem t113_k : knd Try.prog 113 = some false := by kernel_rfl
theorem t113_s : siz Try.prog 113 = some 1 := by kernel_rfl
theorem t113_b : byt Try.prog 113 = some 8 := by kernel_rfl
theorem t113_g : tag Try.prog 113 = 0 := by kernel_rfl
theorem t113_e : elt Try.prog 113 = none := by kernel_rfl
theorem hb3 : hasB Try.prog 3 = true := by kernel_rfl
theorem hb4 : hasB Try.prog 4 = true := by kernel_rfl
theorem hb5 : hasB Try.prog 5 = true := by kernel_rfl
theorem hb6 : hasB Try.prog 6 = true := by kernel_rfl
theorem hb7 : hasB Try.prog 7 = true := by kernel_rfl
theorem hb8 : hasB Try.prog 8 = true := by kernel_rfl
theorem hb9 : hasB Try.prog 9 = true := by kernel_rfl
theorem hb10 : hasB Try.prog 10 = true := by kernel_rfl
theorem hb11 : hasB Try.prog 11 = true := by kernel_rfl
theorem hb12 : hasB Try.prog 12 = true := by kernel_rfl
theorem hb13 : hasB Try.prog 13 = true := by kernel_rfl
theorem hb14 : hasB Try.prog 14 = true := by kernel_rfl
theorem hb15 : hasB Try.prog 15 = true := by kernel_rfl
theorem hb16 : hasB Try.prog 16 = true := by kernel_rfl
theorem hb17 : hasB Try.prog 17 = true := by kernel_rfl
theorem hb18 : hasB Try.prog 18 = true := by kernel_rfl
theorem hb19 : hasB Try.prog 19 = true := by kernel_rfl
theorem hb20 : hasB Try.prog 20 = true := by kernel_rfl
theorem hb21 : hasB Try.prog 21 = true := by kernel_rfl
theorem hb22 : hasB Try.prog 22 = true := by kernel_rfl
theorem hb23 : hasB Try.prog 23 = true := by kernel_rfl
theorem hb24 : hasB Try.prog 24 = true := by kernel_rfl
theorem hb25 : hasB Try.prog 25 = true := by kernel_rfl
theorem hb26 : hasB Try.prog 26 = true := by kernel_rfl
theorem hb27 : hasB Try.prog 27 = true := by kernel_rfl
theorem hb28 : hasB Try.prog 28 = true := by kernel_rfl
theorem hb29 : hasB Try.prog 29 = true := by kernel_rfl
theorem hb30 : hasB Try.prog 30 = true := by kernel_rfl
theorem hb31 : hasB Try.prog 31 = true := by kernel_rfl
theorem hb32 : hasB Try.prog 32 = true := by kernel_rfl
theorem hb33 : hasB Try.prog 33 = true := by kernel_rfl
theorem hb34 : hasB Try.prog 34 = true := by kernel_rfl
theorem hb36 : hasB Try.prog 36 = true := by kernel_rfl
theorem hb37 : hasB Try.prog 37 = true := by kernel_rfl
theorem hb38 : hasB Try.prog 38 = true := by kernel_rfl
theorem hb39 : hasB Try.prog 39 = true := by kernel_rfl
theorem hb40 : hasB Try.prog 40 = true := by kernel_rfl
theorem hb41 : hasB Try.prog 41 = true := by kernel_rfl
theorem hb42 : hasB Try.prog 42 = true := by kernel_rfl
theorem hb43 : hasB Try.prog 43 = true := by kernel_rfl
theorem hb44 : hasB Try.prog 44 = true := by kernel_rfl
theorem hb45 : hasB Try.prog 45 = true := by kernel_rfl
theorem hb46 : hasB Try.prog 46 = true := by kernel_rfl
theorem hb47 : hasB Try.prog 47 = true := by kernel_rfl
theorem hb48 : hasB Try.prog 48 = true := by kernel_rfl
theorem hb49 : hasB Try.prog 49 = true := by kernel_rfl
theorem hb50 : hasB Try.prog 50 = true := by kernel_rfl
theorem hb54 : hasB Try.prog 54 = true := by kernel_rfl
theorem hb55 : hasB Try.prog 55 = true := by kernel_rfl
theorem hb56 : hasB Try.prog 56 = true := by kernel_rfl
theorem hb57 : hasB Try.prog 57 = true := by kernel_rfl
attribute [push_cast] t1_k t1_s t1_b t1_g t1_z t1_e t2_k t2_s t2_b t2_g t2_z t2_e t3_k t3_s t3_b t3_g t3_z t3_e t4_k t4_s t4_b t4_g t4_z t4_e t5_k t5_s t5_b t5_g t5_z t5_e t6_k t6_s t6_b t6_g t6_z t6_e t7_k t7_s t7_b t7_g
attribute [push_cast] t7_z t7_e t7_f0 t7_f1 t7_f2 t7_f3 t8_k t8_s t8_b t8_g t8_z t8_e t8_f0 t8_f1 t8_f2 t8_f3 t9_k t9_s t9_b t9_g t9_z t9_e t10_k t10_s t10_b t10_g t10_z t10_e t11_k t11_s t11_b t11_g t11_z t11_e t12_k t12_s t12_b t12_g t12_z t12_e
attribute [push_cast] t13_k t13_s t13_b t13_g t13_z t13_e t13_f0 t13_f1 t14_k t14_s t14_b t14_g t14_z t14_e t14_f0 t14_f1 t15_k t15_s t15_b t15_g t15_z t15_e t16_k t16_s t16_b t16_g t16_z t16_e t17_k t17_s t17_b t17_g t17_z t17_e t18_k t18_s t18_b t18_g t18_z t18_e
attribute [push_cast] t18_f0 t19_k t19_s t19_b t19_g t19_z t19_e t19_f0 t20_k t20_s t20_b t20_g t20_z t20_e t21_k t21_s t21_b t21_g t21_z t21_e t22_k t22_s t22_b t22_g t22_z t22_e t23_k t23_s t23_b t23_g t23_z t23_e t24_k t24_s t24_b t24_g t24_z t24_e t25_k t25_s
attribute [push_cast] t25_b t25_g t25_z t25_e t26_k t26_s t26_b t26_g t26_z t26_e t28_k t28_s t28_b t28_g t28_z t28_e t29_k t29_s t29_b t29_g t29_z t29_e t29_a t30_k t30_s t30_b t30_g t30_z t30_e t32_k t32_s t32_b t32_g t32_z t32_e t34_k t34_s t34_b t34_g t34_z
attribute [push_cast] t34_e t35_k t35_s t35_b t35_g t35_z t35_e t36_k t36_s t36_b t36_g t36_z t36_e t37_k t37_s t37_b t37_g t37_z t37_e t38_k t38_s t38_b t38_g t38_z t38_e t39_k t39_s t39_b t39_g t39_z t39_e t40_k t40_s t40_b t40_g t40_z t40_e t41_k t41_s t41_b
attribute [push_cast] t41_g t41_z t41_e t42_k t42_s t42_b t42_g t42_z t42_e t43_k t43_s t43_b t43_g t43_z t43_e t45_k t45_s t45_b t45_g t45_z t45_e t46_k t46_s t46_b t46_g t46_z t46_e t47_k t47_s t47_b t47_g t47_z t47_e t48_k t48_s t48_b t48_g t48_z t48_e t49_k
attribute [push_cast] t49_s t49_b t49_g t49_z t49_e t50_k t50_s t50_b t50_g t50_z t50_e t51_k t51_s t51_b t51_g t51_z t51_e t52_k t52_s t52_b t52_g t52_z t52_e t52_a t53_k t53_s t53_b t53_g t53_z t53_e t53_a t55_k t55_s t55_b t55_g t55_z t55_e t56_k t56_s t56_b
attribute [push_cast] t56_g t56_z t56_e t57_k t57_s t57_b t57_g t57_z t57_e t58_k t58_s t58_b t58_g t58_z t58_e t59_k t59_s t59_b t59_g t59_z t59_e t60_k t60_s t60_b t60_g t60_z t60_e t60_a t61_k t61_s t61_b t61_g t61_z t61_e t62_k t62_s t62_b t62_g t62_z t62_e
attribute [push_cast] t63_k t63_s t63_b t63_g t63_z t63_e t65_k t65_s t65_b t65_g t65_z t65_e t66_k t66_s t66_b t66_g t66_z t66_e t67_k t67_s t67_b t67_g t67_z t67_e t68_k t68_s t68_b t68_g t68_z t68_e t69_k t69_s t69_b t69_g t69_z t69_e t70_k t70_s t70_b t70_g
attribute [push_cast] t70_z t70_e t71_k t71_s t71_b t71_g t71_z t71_e t72_k t72_s t72_b t72_g t72_z t72_e t73_k t73_s t73_b t73_g t73_z t73_e t74_k t74_s t74_b t74_g t74_z t74_e t75_k t75_s t75_b t75_g t75_z t75_e t76_k t76_s t76_b t76_g t76_z t76_e t77_k t77_s
attribute [push_cast] t77_b t77_g t77_z t77_e t78_k t78_s t78_b t78_g t78_z t78_e t79_k t79_s t79_b t79_g t79_z t79_e t80_k t80_s t80_b t80_g t80_z t80_e t82_k t82_s t82_b t82_g t82_z t82_e t83_k t83_s t83_b t83_g t83_z t83_e t84_k t84_s t84_b t84_g t84_z t84_e
attribute [push_cast] t86_k t86_s t86_b t86_g t86_z t86_e t87_k t87_s t87_b t87_g t87_z t87_e t88_k t88_s t88_b t88_g t88_z t88_e t89_k t89_s t89_b t89_g t89_z t89_e t90_k t90_s t90_b t90_g t90_z t90_e t91_k t91_s t91_b t91_g t91_z t91_e t92_k t92_s t92_b t92_g
attribute [push_cast] t92_z t92_e t93_k t93_s t93_b t93_g t93_z t93_e t94_k t94_s t94_b t94_g t94_z t94_e t95_k t95_s t95_b t95_g t95_z t95_e t97_k t97_s t97_b t97_g t97_z t97_e t98_k t98_s t98_b t98_g t98_z t98_e t99_k t99_s t99_b t99_g t99_z t99_e t99_f0 t99_f1
attribute [push_cast] t99_f2 t99_f3 t100_k t100_s t100_b t100_g t100_z t100_e t100_f0 t100_f1 t100_f2 t100_f3 t101_k t101_s t101_b t101_g t101_z t101_e t101_a t102_k t102_s t102_b t102_g t102_e t103_k t103_s t103_b t103_g t103_e t104_k t104_s t104_b t104_g t104_z t104_e t105_k t105_s t105_b t105_g t105_z
attribute [push_cast] t105_e t106_k t106_s t106_b t106_g t106_z t106_e t107_k t107_s t107_b t107_g t107_z t107_e t108_k t108_s t108_b t108_g t108_z t108_e t109_k t109_s t109_b t109_g t109_z t109_e t110_k t110_s t110_b t110_g t110_z t110_e t111_k t111_s t111_b t111_g t111_z t111_e t111_f0 t111_f1 t111_f2
attribute [push_cast] t111_f3 t111_f4 t111_f5 t111_f6 t111_f7 t111_f8 t111_f9 t111_f10 t112_k t112_s t112_b t112_g t112_z t112_e t112_f0 t112_f1 t112_f2 t112_f3 t112_f4 t112_f5 t112_f6 t112_f7 t112_f8 t112_f9 t112_f10 t113_k t113_s t113_b t113_g t113_e hb3 hb4 hb5 hb6 hb7 hb8 hb9 hb10 hb11 hb12
attribute [push_cast] hb13 hb14 hb15 hb16 hb17 hb18 hb19 hb20 hb21 hb22 hb23 hb24 hb25 hb26 hb27 hb28 hb29 hb30 hb31 hb32 hb33 hb34 hb36 hb37 hb38 hb39 hb40 hb41 hb42 hb43 hb44 hb45 hb46 hb47 hb48 hb49 hb50 hb54 hb55 hb56
attribute [push_cast] hb57
-- 3 plexus/plexuslaw04.OrderSorts
abbrev pl3 : Plan := (.two (.reg []) (.two (.two (.reg [16]) (.two (.two (.reg [4]) .lf) .lf)) (.two (.two (.reg [20]) (.two (.two (.reg [4]) .lf) .lf)) (.two (.reg [5, 6]) (.two (.two (.reg [34]) (.two (.two (.reg [4]) .lf) .lf)) (.two (.reg [7]) (.two (.two (.reg [8]) (.blk (.lop [8] (.two (.two (.reg [39]) (.two .lf .lf)) (.two (.blk (.reg [])) (.reg [8])))))) (.two (.two (.reg [9]) (.blk (.lop [9] (.two (.two (.reg [47]) (.two .lf .lf)) (.two (.blk (.two (.two (.reg [72]) (.two (.two (.reg [4]) .lf) .lf)) (.reg []))) (.reg [9])))))) (.two (.two (.reg [10]) (.blk (.lop [10] (.two (.two (.reg [83]) (.two .lf .lf)) (.two (.blk (.two (.drw [102] [] [] []) (.two (.two (.reg [4]) .lf) .lf))) (.reg [10])))))) (.two (.two (.reg [11]) (.blk (.lop [11] (.two (.two (.reg [105]) (.two .lf .lf)) (.two (.blk (.two (.reg [12]) (.blk (.lop [12] (.two (.two (.reg [113]) (.two .lf .lf)) (.two (.blk (.two (.reg [13]) (.two (.two (.reg [14]) (.blk (.lop [13, 14] (.two (.two (.reg [125]) (.two .lf .lf)) (.two (.blk (.two (.reg [146]) (.two (.reg [13]) .lf))) (.reg [14])))))) (.two (.reg [148]) (.two (.two (.reg [4]) .lf) .lf))))) (.reg [12]))))))) (.reg [11])))))) (.two (.reg [4]) .lf)))))))))))
theorem ok3 : okFn Try.f3 (Try.f3.body.getD .skip) pl3 2 = true := by kernel_rfl
abbrev rs3 : List Nat := [4]
theorem in3 : Try.prog.inits.idxOf? 3 = none := by kernel_rfl
-- 4 plexus/plexuslaw04.OrderChecks
abbrev pl4 : Plan := (.two (.reg []) (.two (.two (.reg [13]) (.two (.two (.reg [4]) .lf) .lf)) (.two (.reg [5]) (.two (.reg [6]) (.two (.reg [7, 8]) (.two (.reg [9, 10]) (.two (.two (.reg [44]) (.two (.two (.reg [4]) .lf) .lf)) (.two (.two (.reg [46]) (.two (.two (.reg [4]) .lf) .lf)) (.two (.reg [11]) (.two (.reg [4]) .lf))))))))))
theorem ok4 : okFn Try.f4 (Try.f4.body.getD .skip) pl4 2 = true := by kernel_rfl
abbrev rs4 : List Nat := [4]
theorem in4 : Try.prog.inits.idxOf? 4 = none := by kernel_rfl
-- 5 plexus/plexuslaw04.OrderReduces
abbrev pl5 : Plan := (.two (.reg []) (.two (.two (.reg [8]) (.two (.two (.reg [4]) .lf) .lf)) (.two (.two (.reg [12]) (.two (.two (.reg [4]) .lf) .lf)) (.two (.reg [5, 6]) (.two (.reg [4]) .lf)))))
theorem ok5 : okFn Try.f5 (Try.f5.body.getD .skip) pl5 2 = true := by kernel_rfl
abbrev rs5 : List Nat := [4]
theorem in5 : Try.prog.inits.idxOf? 5 = none := by kernel_rfl
-- 6 plexus/plexuslaw04.OrderMinimal
abbrev pl6 : Plan := (.two (.reg []) (.two (.two (.reg [16]) (.two (.two (.reg [4]) .lf) .lf)) (.two (.two (.reg [20]) (.two (.two (.reg [4]) .lf) .lf)) (.two (.reg [5, 6]) (.two (.reg [7, 8]) (.two (.reg [9, 10]) (.two (.two (.reg [54]) (.two (.two (.reg [4]) .lf) .lf)) (.two (.two (.reg [11]) (.blk (.lop [11] (.two (.two (.reg [58]) (.two .lf .lf)) (.two (.blk (.two (.drw [12] [0, 4, 9] [] [(3, [0]), (7, [0, 4]), (8, [0, 4])]) (.two (.reg [13, 14]) (.two (.reg [83]) (.two (.two (.reg [4]) .lf) .lf))))) (.reg [11])))))) (.two (.reg [4]) .lf)))))))))
theorem ok6 : okFn Try.f6 (Try.f6.body.getD .skip) pl6 2 = true := by kernel_rfl
abbrev rs6 : List Nat := [4]
theorem in6 : Try.prog.inits.idxOf? 6 = none := by kernel_rfl
-- 7 plexus/plexuslaw04.OrderLevels
abbrev pl7 : Plan := (.two (.reg []) (.two (.two (.reg [8]) (.two (.two (.reg [4]) .lf) .lf)) (.two (.two (.reg [12]) (.two (.two (.reg [4]) .lf) .lf)) (.two (.reg [5, 6]) (.two (.reg [4]) .lf)))))
theorem ok7 : okFn Try.f7 (Try.f7.body.getD .skip) pl7 2 = true := by kernel_rfl
abbrev rs7 : List Nat := [4]
theorem in7 : Try.prog.inits.idxOf? 7 = none := by kernel_rfl
-- 8 plexus/plexuslaw04.OrderMirsky
abbrev pl8 : Plan := (.two (.reg []) (.two (.two (.reg [15]) (.two (.two (.reg [4]) .lf) .lf)) (.two (.two (.reg [19]) (.two (.two (.reg [4]) .lf) .lf)) (.two (.reg [5, 6]) (.two (.reg [7, 8]) (.two (.reg [9, 10]) (.two (.two (.reg [59]) (.two (.two (.reg [4]) .lf) .lf)) (.two (.two (.reg [11]) (.blk (.lop [11] (.two (.two (.reg [62]) (.two .lf .lf)) (.two (.blk (.two (.reg [78]) (.two (.two (.reg [4]) .lf) .lf))) (.reg [11])))))) (.two (.two (.reg [12]) (.blk (.lop [12] (.two (.two (.reg [82]) (.two .lf .lf)) (.two (.blk (.two (.two (.reg [108]) (.two (.two (.reg [4]) .lf) .lf)) (.two (.drw [124] [13] [] []) (.two (.two (.reg [4]) .lf) .lf)))) (.reg [12])))))) (.two (.two (.reg [13]) (.blk (.lop [13] (.two (.two (.reg [128]) (.two .lf .lf)) (.two (.blk (.two (.drw [181] [] [] []) (.two (.two (.reg [4]) .lf) .lf))) (.reg [13])))))) (.two (.reg [4]) .lf)))))))))))
theorem ok8 : okFn Try.f8 (Try.f8.body.getD .skip) pl8 2 = true := by kernel_rfl
abbrev rs8 : List Nat := [4]
theorem in8 : Try.prog.inits.idxOf? 8 = none := by kernel_rfl
-- 9 plexus/plexuslaw04.OrderDilworth
abbrev pl9 : Plan := (.two (.reg []) (.two (.two (.reg [19]) (.two (.two (.reg [4]) .lf) .lf)) (.two (.two (.reg [23]) (.two (.two (.reg [4]) .lf) .lf)) (.two (.reg [5, 6]) (.two (.reg [7, 8]) (.two (.reg [9, 10]) (.two (.two (.reg [64]) (.two (.two (.reg [4]) .lf) .lf)) (.two (.two (.reg [11]) (.blk (.lop [11] (.two (.two (.reg [68]) (.two .lf .lf)) (.two (.blk (.two (.two (.drw [99] [] [] []) (.two (.two (.reg [4]) .lf) .lf)) (.two (.reg [12]) (.blk (.lop [12] (.two (.two (.reg [103]) (.two .lf .lf)) (.two (.blk (.two (.drw [115] [9] [] []) (.two (.two (.reg [4]) .lf) .lf))) (.reg [12])))))))) (.reg [11])))))) (.two (.reg [13]) (.two (.reg [14]) (.two (.two (.reg [15]) (.blk (.lop [14, 15] (.two (.two (.reg [121]) (.two .lf .lf)) (.two (.blk (.two (.two (.drw [149] [] [] []) (.two (.two (.reg [4]) .lf) .lf)) (.two (.reg [16]) (.blk (.lop [14, 16] (.two (.two (.reg [156]) (.two .lf .lf)) (.two (.blk (.two (.reg [17]) (.two (.two (.reg [196]) (.two (.two (.reg [4]) .lf) .lf)) (.two (.reg []) (.reg [14]))))) (.reg [16])))))))) (.reg [15])))))) (.two (.reg [4]) .lf))))))))))))
theorem ok9 : okFn Try.f9 (Try.f9.body.getD .skip) pl9 2 = true := by kernel_rfl
abbrev rs9 : List Nat := [4]
theorem in9 : Try.prog.inits.idxOf? 9 = none := by kernel_rfl
-- 10 plexus/plexuslaw04.OrderExtremes
abbrev pl10 : Plan := (.two (.reg []) (.two (.two (.reg [11]) (.two (.two (.reg [4]) .lf) .lf)) (.two (.two (.reg [19]) (.two (.two (.reg [4]) .lf) .lf)) (.two (.reg [5]) (.two (.reg [6, 7]) (.two (.reg [8, 9]) (.two (.reg [4]) .lf)))))))
theorem ok10 : okFn Try.f10 (Try.f10.body.getD .skip) pl10 2 = true := by kernel_rfl
abbrev rs10 : List Nat := [4]
theorem in10 : Try.prog.inits.idxOf? 10 = none := by kernel_rfl
-- 11 plexus/plexuslaw04.OrderDownsets
abbrev pl11 : Plan := (.two (.reg []) (.two (.two (.reg [12]) (.two (.two (.reg [6]) .lf) .lf)) (.two (.two (.reg [24]) (.two (.two (.reg [6]) .lf) .lf)) (.two (.reg [7]) (.two (.reg [8, 9]) (.two (.two (.reg [39]) (.two (.two (.reg [6]) .lf) .lf)) (.two (.two (.reg [55]) (.two (.two (.reg [6]) .lf) .lf)) (.two (.two (.reg [10]) (.blk (.lop [10] (.two (.two (.reg [59]) (.two .lf .lf)) (.two (.blk (.two (.drw [71] [8] [] []) (.two (.two (.reg [6]) .lf) .lf))) (.reg [10])))))) (.two (.reg [6]) .lf)))))))))
theorem ok11 : okFn Try.f11 (Try.f11.body.getD .skip) pl11 3 = true := by kernel_rfl
abbrev rs11 : List Nat := [6]
theorem in11 : Try.prog.inits.idxOf? 11 = none := by kernel_rfl
-- 12 plexus/plexuslaw04.OrderFaults
abbrev pl12 : Plan := (.two (.reg []) (.two (.two (.reg [23]) (.two (.two (.reg [6]) .lf) .lf)) (.two (.reg [7]) (.two (.two (.reg [28]) (.two (.two (.reg [6]) .lf) .lf)) (.two (.reg [8, 9]) (.two (.reg [10, 11]) (.two (.reg [12, 13]) (.two (.reg [14, 15]) (.two (.reg [16, 17]) (.two (.reg [18, 19]) (.two (.two (.reg [112]) (.two (.two (.reg [6]) .lf) .lf)) (.two (.two (.reg [118]) (.two (.reg [7]) .lf)) (.two (.reg [20, 21]) (.two (.reg [6]) .lf))))))))))))))
theorem ok12 : okFn Try.f12 (Try.f12.body.getD .skip) pl12 3 = true := by kernel_rfl
abbrev rs12 : List Nat := [6]
theorem in12 : Try.prog.inits.idxOf? 12 = none := by kernel_rfl
-- 13 plexus/plexuslaw04.awake
abbrev pl13 : Plan := (.two (.reg []) (.two (.reg [1, 2]) (.two (.reg [3, 4]) (.two (.reg [0]) .lf))))
theorem ok13 : okFn Try.f13 (Try.f13.body.getD .skip) pl13 0 = true := by kernel_rfl
abbrev rs13 : List Nat := [0]
theorem in13 : Try.prog.inits.idxOf? 13 = none := by kernel_rfl
-- 14 plexus/plexuslaw04.fault
abbrev pl14 : Plan := (.two (.reg []) (.two (.reg [5]) (.two (.two (.reg [17]) (.two (.reg [5]) .lf)) (.two (.reg [4]) .lf))))
theorem ok14 : okFn Try.f14 (Try.f14.body.getD .skip) pl14 2 = true := by kernel_rfl
abbrev rs14 : List Nat := [4]
theorem in14 : Try.prog.inits.idxOf? 14 = none := by kernel_rfl
-- 15 plexus/order.Sort
abbrev pl15 : Plan := (.two (.reg []) (.two (.reg [6, 7]) (.two (.two (.reg [15]) (.two (.two (.reg [4, 5]) .lf) .lf)) (.two (.reg [4, 5]) .lf))))
theorem ok15 : okFn Try.f15 (Try.f15.body.getD .skip) pl15 2 = true := by kernel_rfl
abbrev rs15 : List Nat := [4, 5]
theorem in15 : Try.prog.inits.idxOf? 15 = none := by kernel_rfl
-- 16 plexus/plexusref04.Check
abbrev pl16 : Plan := (.two (.reg []) (.two (.two (.reg [12]) (.two (.two (.reg [4]) .lf) .lf)) (.two (.two (.reg [15]) (.two (.two (.reg [4]) .lf) .lf)) (.two (.two (.reg [5]) (.blk (.lop [5] (.two (.two (.reg [19]) (.two .lf .lf)) (.two (.blk (.two (.reg [6]) (.blk (.lop [6] (.two (.two (.reg [23]) (.two .lf .lf)) (.two (.blk (.two (.reg [42]) (.two (.two (.reg [4]) .lf) .lf))) (.reg [6]))))))) (.reg [5])))))) (.two (.reg [4]) .lf)))))
theorem ok16 : okFn Try.f16 (Try.f16.body.getD .skip) pl16 2 = true := by kernel_rfl
abbrev rs16 : List Nat := [4]
theorem in16 : Try.prog.inits.idxOf? 16 = none := by kernel_rfl
-- 17 plexus/order.Check
abbrev pl17 : Plan := (.two (.reg []) (.two (.two (.reg [12]) (.two (.two (.reg [4]) .lf) .lf)) (.two (.two (.reg [15]) (.two (.two (.reg [4]) .lf) .lf)) (.two (.two (.reg [16, 17, 18]) (.blk (.lop [18] (.two (.reg [19]) (.two (.two .lf .lf) (.two (.blk (.two (.reg [6]) (.two (.reg [41]) (.two (.two (.reg [4]) .lf) .lf)))) (.reg [18]))))))) (.two (.reg [4]) .lf)))))
theorem ok17 : okFn Try.f17 (Try.f17.body.getD .skip) pl17 2 = true := by kernel_rfl
abbrev rs17 : List Nat := [4]
theorem in17 : Try.prog.inits.idxOf? 17 = none := by kernel_rfl
-- 18 plexus/order.Closure
abbrev pl18 : Plan := (.two (.reg []) (.two (.two (.reg [6]) (.two (.reg [12]) (.two (.two (.reg [4, 5]) .lf) .lf))) (.two (.reg [7]) (.two (.reg [4, 5]) .lf))))
theorem ok18 : okFn Try.f18 (Try.f18.body.getD .skip) pl18 2 = true := by kernel_rfl
abbrev rs18 : List Nat := [4, 5]
theorem in18 : Try.prog.inits.idxOf? 18 = none := by kernel_rfl
-- 19 plexus/order.Acyclic
abbrev pl19 : Plan := (.two (.reg []) (.two (.two (.reg [6]) (.two (.reg [12]) (.two (.two (.reg [4, 5]) .lf) .lf))) (.two (.reg [7]) (.two (.reg [4, 5]) .lf))))
theorem ok19 : okFn Try.f19 (Try.f19.body.getD .skip) pl19 2 = true := by kernel_rfl
abbrev rs19 : List Nat := [4, 5]
theorem in19 : Try.prog.inits.idxOf? 19 = none := by kernel_rfl
-- 20 plexus/plexusref04.Less
abbrev pl20 : Plan := (.two (.reg []) (.two (.reg [5]) (.two (.two (.reg [6]) (.blk (.lop [5, 6] (.two (.two (.reg [14]) (.two .lf .lf)) (.two (.blk (.reg [5])) (.reg [6])))))) (.two (.two (.reg [7]) (.blk (.lop [7] (.two (.two (.reg [25]) (.two .lf .lf)) (.two (.blk (.drw [] [14] [] [])) (.reg [7])))))) (.two (.two (.reg [8]) (.blk (.lop [8] (.two (.two (.reg [44]) (.two .lf .lf)) (.two (.blk (.two (.reg [9]) (.blk (.lop [9] (.two (.two (.reg [49]) (.two .lf .lf)) (.two (.blk (.two (.reg [10]) (.blk (.lop [10] (.two (.two (.reg [54]) (.two .lf .lf)) (.two (.blk (.two (.reg [72]) (.two (.reg []) .lf))) (.reg [10]))))))) (.reg [9]))))))) (.reg [8])))))) (.two (.reg [4]) .lf))))))
theorem ok20 : okFn Try.f20 (Try.f20.body.getD .skip) pl20 2 = true := by kernel_rfl
abbrev rs20 : List Nat := [4]
theorem in20 : Try.prog.inits.idxOf? 20 = none := by kernel_rfl
-- 21 plexus/plexuslaw04.samePairs
abbrev pl21 : Plan := (.two (.reg []) (.two (.two (.reg [10]) (.two (.two (.reg [4]) .lf) .lf)) (.two (.two (.reg [5]) (.blk (.lop [5] (.two (.two (.reg [14]) (.two .lf .lf)) (.two (.blk (.two (.drw [25] [] [] []) (.two (.two (.reg [4]) .lf) .lf))) (.reg [5])))))) (.two (.reg [4]) .lf))))
theorem ok21 : okFn Try.f21 (Try.f21.body.getD .skip) pl21 2 = true := by kernel_rfl
abbrev rs21 : List Nat := [4]
theorem in21 : Try.prog.inits.idxOf? 21 = none := by kernel_rfl
-- 22 plexus/plexusref04.Pairs
abbrev pl22 : Plan := (.two (.reg []) (.two (.reg [3]) (.two (.two (.reg [4]) (.blk (.lop [3, 4] (.two (.two (.reg [10]) (.two .lf .lf)) (.two (.blk (.two (.reg [5]) (.blk (.lop [3, 5] (.two (.two (.reg [16]) (.two .lf .lf)) (.two (.blk (.two (.reg [25]) (.two (.reg [3]) .lf))) (.reg [5]))))))) (.reg [4])))))) (.two (.reg [2]) .lf))))
theorem ok22 : okFn Try.f22 (Try.f22.body.getD .skip) pl22 1 = true := by kernel_rfl
abbrev rs22 : List Nat := [2]
theorem in22 : Try.prog.inits.idxOf? 22 = none := by kernel_rfl
-- 23 plexus/plexusref04.Acyclic
abbrev pl23 : Plan := (.two (.reg []) (.two (.two (.reg [3]) (.blk (.lop [3] (.two (.two (.reg [7]) (.two .lf .lf)) (.two (.blk (.two (.reg [16]) (.two (.two (.reg [2]) .lf) .lf))) (.reg [3])))))) (.two (.reg [2]) .lf)))
theorem ok23 : okFn Try.f23 (Try.f23.body.getD .skip) pl23 1 = true := by kernel_rfl
abbrev rs23 : List Nat := [2]
theorem in23 : Try.prog.inits.idxOf? 23 = none := by kernel_rfl
-- 24 plexus/order.Reduction
abbrev pl24 : Plan := (.two (.reg []) (.two (.reg [6, 7]) (.two (.two (.reg [18]) (.two (.two (.reg [4, 5]) .lf) .lf)) (.two (.reg [8]) (.two (.two (.reg [21, 22]) (.blk (.lop [22] (.two (.reg [23]) (.two (.two .lf .lf) (.two (.blk (.two (.reg [9]) (.two (.reg [25, 26]) (.blk (.lop [26] (.two (.reg [27]) (.two (.two .lf .lf) (.two (.blk (.two (.reg [10]) (.two (.reg [35]) (.two (.drw [] [8] [] []) .lf)))) (.reg [26]))))))))) (.reg [22]))))))) (.two (.reg [4, 5]) .lf))))))
theorem ok24 : okFn Try.f24 (Try.f24.body.getD .skip) pl24 2 = true := by kernel_rfl
abbrev rs24 : List Nat := [4, 5]
theorem in24 : Try.prog.inits.idxOf? 24 = none := by kernel_rfl
-- 25 plexus/plexusref04.Reduction
abbrev pl25 : Plan := (.two (.reg []) (.two (.reg [3]) (.two (.two (.reg [4]) (.blk (.lop [3, 4] (.two (.two (.reg [12]) (.two .lf .lf)) (.two (.blk (.two (.reg [5]) (.blk (.lop [3, 5] (.two (.two (.reg [18]) (.two .lf .lf)) (.two (.blk (.two (.reg [6]) (.two (.two (.reg [7]) (.blk (.lop [6, 7] (.two (.two (.reg [24]) (.two .lf .lf)) (.two (.blk (.two (.reg [42]) (.two (.reg [6]) .lf))) (.reg [7])))))) (.two (.reg [53]) (.two (.reg [3]) .lf))))) (.reg [5]))))))) (.reg [4])))))) (.two (.reg [2]) .lf))))
theorem ok25 : okFn Try.f25 (Try.f25.body.getD .skip) pl25 1 = true := by kernel_rfl
abbrev rs25 : List Nat := [2]
theorem in25 : Try.prog.inits.idxOf? 25 = none := by kernel_rfl
-- 26 plexus/order.Levels
abbrev pl26 : Plan := (.two (.reg []) (.two (.reg [6, 7]) (.two (.two (.reg [19]) (.two (.two (.reg [4, 5]) .lf) .lf)) (.two (.reg [8]) (.two (.two (.reg [24, 25, 26]) (.blk (.lop [26] (.two (.reg [27]) (.two (.two .lf .lf) (.two (.blk (.two (.reg [10]) (.two (.reg [30, 31]) (.blk (.lop [31] (.two (.reg [32]) (.two (.two .lf .lf) (.two (.blk (.two (.reg [11]) (.two (.reg [40]) (.two (.drw [] [13] [] []) .lf)))) (.reg [31]))))))))) (.reg [26]))))))) (.two (.reg [4, 5]) .lf))))))
theorem ok26 : okFn Try.f26 (Try.f26.body.getD .skip) pl26 2 = true := by kernel_rfl
abbrev rs26 : List Nat := [4, 5]
theorem in26 : Try.prog.inits.idxOf? 26 = none := by kernel_rfl
-- 27 plexus/plexuslaw04.same
abbrev pl27 : Plan := (.two (.reg []) (.two (.two (.reg [10]) (.two (.two (.reg [4]) .lf) .lf)) (.two (.two (.reg [5]) (.blk (.lop [5] (.two (.two (.reg [14]) (.two .lf .lf)) (.two (.blk (.two (.drw [25] [] [] []) (.two (.two (.reg [4]) .lf) .lf))) (.reg [5])))))) (.two (.reg [4]) .lf))))
theorem ok27 : okFn Try.f27 (Try.f27.body.getD .skip) pl27 2 = true := by kernel_rfl
abbrev rs27 : List Nat := [4]
theorem in27 : Try.prog.inits.idxOf? 27 = none := by kernel_rfl
-- 28 plexus/plexusref04.Levels
abbrev pl28 : Plan := (.two (.reg []) (.two (.reg [3]) (.two (.reg [4]) (.two (.two (.reg [5]) (.blk (.lop [5] (.two (.two (.reg [16]) (.two .lf .lf)) (.two (.blk (.two (.reg [6]) (.two (.reg [7]) (.blk (.lop [7] (.two (.two (.reg [26]) (.two .lf .lf)) (.two (.blk (.two (.drw [47] [] [] []) (.two (.reg []) .lf))) (.reg [7])))))))) (.reg [5])))))) (.two (.reg [2]) .lf)))))
theorem ok28 : okFn Try.f28 (Try.f28.body.getD .skip) pl28 1 = true := by kernel_rfl
abbrev rs28 : List Nat := [2]
theorem in28 : Try.prog.inits.idxOf? 28 = none := by kernel_rfl
-- 29 plexus/order.LongestChain
abbrev pl29 : Plan := (.two (.reg []) (.two (.reg [6, 7]) (.two (.two (.reg [23]) (.two (.two (.reg [4, 5]) .lf) .lf)) (.two (.reg [8]) (.two (.reg [9]) (.two (.two (.reg [10]) (.blk (.lop [10] (.two (.two (.reg [30]) (.two .lf .lf)) (.two (.blk (.two (.reg [11]) (.two (.reg []) (.two (.reg [39, 40]) (.blk (.lop [40] (.two (.reg [41]) (.two (.two .lf .lf) (.two (.blk (.two (.reg [12]) (.two (.reg [49]) (.two (.drw [] [10] [] []) .lf)))) (.reg [40])))))))))) (.reg [10])))))) (.two (.reg [13]) (.two (.two (.reg [14]) (.blk (.lop [13, 14] (.two (.two (.reg [64]) (.two .lf .lf)) (.two (.blk (.two (.reg [67, 68]) (.blk (.lop [13, 68] (.two (.reg [69]) (.two (.two .lf .lf) (.two (.blk (.two (.reg [15]) (.two (.reg [94]) (.two (.two (.reg [13]) .lf) .lf)))) (.reg [68])))))))) (.reg [14])))))) (.two (.reg [4, 5]) .lf)))))))))
theorem ok29 : okFn Try.f29 (Try.f29.body.getD .skip) pl29 2 = true := by kernel_rfl
abbrev rs29 : List Nat := [4, 5]
theorem in29 : Try.prog.inits.idxOf? 29 = none := by kernel_rfl
-- 30 plexus/plexuslaw04.has
abbrev pl30 : Plan := (.two (.reg []) (.two (.two (.reg [7]) (.blk (.lop [7] (.two (.two (.reg [11]) (.two .lf .lf)) (.two (.blk (.two (.reg [21]) (.two (.two (.reg [6]) .lf) .lf))) (.reg [7])))))) (.two (.reg [6]) .lf)))
theorem ok30 : okFn Try.f30 (Try.f30.body.getD .skip) pl30 3 = true := by kernel_rfl
abbrev rs30 : List Nat := [6]
theorem in30 : Try.prog.inits.idxOf? 30 = none := by kernel_rfl
-- 31 plexus/order.MaxAntichain
abbrev pl31 : Plan := (.two (.reg []) (.two (.reg [6, 7]) (.two (.two (.reg [21]) (.two (.two (.reg [4, 5]) .lf) .lf)) (.two (.reg [8]) (.two (.reg [9]) (.two (.reg [10]) (.two (.two (.reg [27, 28]) (.blk (.lop [8, 9, 10, 28] (.two (.reg [29]) (.two (.two .lf .lf) (.two (.blk (.two (.reg [11]) (.two (.two (.reg [35]) (.two .lf .lf)) (.two (.reg [9]) (.two (.reg [12]) (.two (.two (.reg [45, 46]) (.blk (.lop [12, 46] (.two (.reg [47]) (.two (.two .lf .lf) (.two (.blk (.two (.reg [13]) (.two (.reg [55]) (.two (.reg [12]) .lf)))) (.reg [46]))))))) (.two (.reg [65]) (.two (.two (.reg [8]) (.two (.reg [9]) (.reg [10]))) .lf)))))))) (.reg [28]))))))) (.two (.reg [4, 5]) .lf))))))))
theorem ok31 : okFn Try.f31 (Try.f31.body.getD .skip) pl31 2 = true := by kernel_rfl
abbrev rs31 : List Nat := [4, 5]
theorem in31 : Try.prog.inits.idxOf? 31 = none := by kernel_rfl
-- 32 plexus/order.ChainCover
abbrev pl32 : Plan := (.two (.reg []) (.two (.reg [6, 7]) (.two (.two (.reg [23]) (.two (.two (.reg [4, 5]) .lf) .lf)) (.two (.reg [8]) (.two (.reg [10]) (.two (.two (.reg [33, 34]) (.blk (.lop [10, 34] (.two (.reg [35]) (.two (.two .lf .lf) (.two (.blk (.two (.reg [11]) (.two (.reg [40]) (.two (.reg [10]) .lf)))) (.reg [34]))))))) (.two (.reg [12]) (.two (.two (.reg [48, 49]) (.blk (.lop [12, 49] (.two (.reg [50]) (.two (.two .lf .lf) (.two (.blk (.two (.reg [13]) (.two (.two (.reg [56]) (.two .lf .lf)) (.two (.reg [14]) (.two (.two (.reg [15]) (.blk (.lop [14, 15] (.two (.two (.reg [59]) (.two .lf .lf)) (.two (.blk (.reg [14])) (.reg [15])))))) (.reg [12])))))) (.reg [49]))))))) (.two (.reg [4, 5]) .lf)))))))))
theorem ok32 : okFn Try.f32 (Try.f32.body.getD .skip) pl32 2 = true := by kernel_rfl
abbrev rs32 : List Nat := [4, 5]
theorem in32 : Try.prog.inits.idxOf? 32 = none := by kernel_rfl
-- 33 plexus/plexusref04.Best
abbrev pl33 : Plan := (.two (.reg []) (.two (.reg [5]) (.two (.reg [6]) (.two (.two (.reg [7]) (.blk (.lop [6, 7] (.two (.two (.reg [14]) (.two .lf .lf)) (.two (.blk (.reg [6])) (.reg [7])))))) (.two (.two (.reg [8]) (.blk (.lop [5, 8] (.two (.two (.reg [21]) (.two .lf .lf)) (.two (.blk (.two (.reg [9]) (.two (.two (.reg [39]) (.two .lf .lf)) (.two (.two (.reg [40]) (.two (.reg [9]) .lf)) (.two (.reg [53]) (.two (.reg [5]) .lf)))))) (.reg [8])))))) (.two (.reg [4]) .lf))))))
theorem ok33 : okFn Try.f33 (Try.f33.body.getD .skip) pl33 2 = true := by kernel_rfl
abbrev rs33 : List Nat := [4]
theorem in33 : Try.prog.inits.idxOf? 33 = none := by kernel_rfl
-- 34 plexus/plexusref04.Downsets
abbrev pl34 : Plan := (.two (.reg []) (.two (.reg [2]) .lf))
theorem ok34 : okFn Try.f34 (Try.f34.body.getD .skip) pl34 1 = true := by kernel_rfl
abbrev rs34 : List Nat := [2]
theorem in34 : Try.prog.inits.idxOf? 34 = none := by kernel_rfl
-- 36 plexus/order.acyclic
abbrev pl36 : Plan := (.two (.reg [4]) (.two (.two (.reg [6]) (.two (.reg [12]) (.two (.two (.reg [5]) .lf) .lf))) (.two (.reg [7]) (.two (.two (.reg [19]) (.two (.two (.reg [5]) .lf) .lf)) (.two (.reg [5]) .lf)))))
theorem ok36 : okFn Try.f36 (Try.f36.body.getD .skip) pl36 2 = true := by kernel_rfl
abbrev rs36 : List Nat := [4, 5]
theorem in36 : Try.prog.inits.idxOf? 36 = none := by kernel_rfl
-- 37 (*plexus/order.table).sorted
abbrev pl37 : Plan := (.two (.reg [2, 3]) (.two (.reg [5]) (.two (.reg [6]) (.two (.reg [7]) (.two (.blk (.lop [5] (.two (.two (.reg [13]) (.two .lf .lf)) (.blk (.two (.reg [14, 15]) (.blk (.lop [5, 15] (.two (.reg [16]) (.two (.two .lf .lf) (.two (.blk (.two (.reg [8]) (.two (.reg [27]) (.two (.two (.reg [5]) (.two (.drw [] [4] [] []) .lf)) .lf)))) (.reg [15]))))))))))) (.two (.reg [4]) .lf))))))
theorem ok37 : okFn Try.f37 (Try.f37.body.getD .skip) pl37 2 = true := by kernel_rfl
abbrev rs37 : List Nat := [4]
theorem in37 : Try.prog.inits.idxOf? 37 = none := by kernel_rfl
-- 38 plexus/order.closed
abbrev pl38 : Plan := (.two (.reg [4]) (.two (.reg [5]) (.two (.two (.reg [10, 11, 12]) (.blk (.lop [12] (.two (.reg [13]) (.two (.two .lf .lf) (.two (.blk (.two (.reg [7]) (.drw [] [9] [] []))) (.reg [12]))))))) (.two (.two (.reg [26, 27]) (.blk (.lop [27] (.two (.reg [28]) (.two (.two .lf .lf) (.two (.blk (.two (.reg [8]) (.two (.reg [30, 31]) (.blk (.lop [31] (.two (.reg [32]) (.two (.two .lf .lf) (.two (.blk (.two (.reg [9]) (.two (.reg [40]) (.two (.drw [] [8] [] []) .lf)))) (.reg [31]))))))))) (.reg [27]))))))) (.two (.reg []) .lf)))))
theorem ok38 : okFn Try.f38 (Try.f38.body.getD .skip) pl38 2 = true := by kernel_rfl
abbrev rs38 : List Nat := [4]
theorem in38 : Try.prog.inits.idxOf? 38 = none := by kernel_rfl
-- 39 (*plexus/order.table).list
abbrev pl39 : Plan := (.two (.reg []) (.two (.reg [5]) (.two (.two (.reg [8, 9]) (.blk (.lop [5, 9] (.two (.reg [10]) (.two (.two .lf .lf) (.two (.blk (.two (.reg [6]) (.two (.reg [12, 13]) (.blk (.lop [5, 13] (.two (.reg [14]) (.two (.two .lf .lf) (.two (.blk (.two (.reg [7]) (.two (.reg [24]) (.two (.reg [5]) .lf)))) (.reg [13]))))))))) (.reg [9]))))))) (.two (.reg [4]) .lf))))
theorem ok39 : okFn Try.f39 (Try.f39.body.getD .skip) pl39 2 = true := by kernel_rfl
abbrev rs39 : List Nat := [4]
theorem in39 : Try.prog.inits.idxOf? 39 = none := by kernel_rfl
-- 40 (*plexus/order.table).cyclic
abbrev pl40 : Plan := (.two (.reg []) (.two (.two (.reg [6, 7]) (.blk (.lop [7] (.two (.reg [8]) (.two (.two .lf .lf) (.two (.blk (.two (.reg [5]) (.two (.reg [18]) (.two (.two (.reg [4]) .lf) .lf)))) (.reg [7]))))))) (.two (.reg [4]) .lf)))
theorem ok40 : okFn Try.f40 (Try.f40.body.getD .skip) pl40 2 = true := by kernel_rfl
abbrev rs40 : List Nat := [4]
theorem in40 : Try.prog.inits.idxOf? 40 = none := by kernel_rfl
-- 41 plexus/plexusref04.Sort
abbrev pl41 : Plan := (.two (.reg []) (.two (.reg [3]) (.two (.reg [4]) (.two (.blk (.lop [3] (.two (.two (.reg [17]) (.two .lf .lf)) (.blk (.two (.reg [5]) (.two (.two (.reg [6]) (.blk (.lop [5, 6] (.two (.two (.reg [22]) (.two .lf .lf)) (.two (.blk (.two (.reg [7]) (.two (.two (.reg [8]) (.blk (.lop [7, 8] (.two (.two (.reg [33]) (.two .lf .lf)) (.two (.blk (.two (.reg [49]) (.two (.reg [7]) .lf))) (.reg [8])))))) (.two (.reg [50]) (.two (.reg [5]) .lf))))) (.reg [6])))))) (.two (.reg []) (.reg [3])))))))) (.two (.reg [2]) .lf)))))
theorem ok41 : okFn Try.f41 (Try.f41.body.getD .skip) pl41 1 = true := by kernel_rfl
abbrev rs41 : List Nat := [2]
theorem in41 : Try.prog.inits.idxOf? 41 = none := by kernel_rfl
-- 42 slices.Max[[]int,int]
abbrev pl42 : Plan := (.two (.reg []) (.two (.two (.reg [7]) (.two (.reg []) .lf)) (.two (.reg [3]) (.two (.two (.reg [4]) (.blk (.lop [3, 4] (.two (.two (.reg [15]) (.two .lf .lf)) (.two (.blk (.reg [3])) (.reg [4])))))) (.two (.reg [2]) .lf)))))
theorem ok42 : okFn Try.f42 (Try.f42.body.getD .skip) pl42 1 = true := by kernel_rfl
abbrev rs42 : List Nat := [2]
theorem in42 : Try.prog.inits.idxOf? 42 = none := by kernel_rfl
-- 43 plexus/order.whole
abbrev pl43 : Plan := (.two (.reg []) (.two (.two (.reg [4]) (.two (.two (.reg [2]) .lf) .lf)) (.two (.reg [2]) .lf)))
theorem ok43 : okFn Try.f43 (Try.f43.body.getD .skip) pl43 1 = true := by kernel_rfl
abbrev rs43 : List Nat := [2]
theorem in43 : Try.prog.inits.idxOf? 43 = none := by kernel_rfl
-- 44 (*plexus/order.table).width
abbrev pl44 : Plan := (.two (.reg []) (.two (.reg [6]) (.two (.reg [4]) .lf)))
theorem ok44 : okFn Try.f44 (Try.f44.body.getD .skip) pl44 2 = true := by kernel_rfl
abbrev rs44 : List Nat := [4]
theorem in44 : Try.prog.inits.idxOf? 44 = none := by kernel_rfl
-- 45 (*plexus/order.table).match
abbrev pl45 : Plan := (.two (.reg [2, 3, 4]) (.two (.reg [6, 7]) (.two (.two (.reg [13]) (.blk (.lop [13] (.two (.reg [14]) (.two (.two .lf .lf) (.two (.blk (.two (.reg [8]) (.reg []))) (.reg [13]))))))) (.two (.reg [9]) (.two (.reg [10]) (.two (.reg []) (.two (.reg [11]) (.two (.two (.reg [22]) (.blk (.lop [11, 22] (.two (.reg [23]) (.two (.two .lf .lf) (.two (.blk (.two (.reg [12]) (.two (.reg []) (.two (.reg [34]) (.two (.reg [11]) .lf))))) (.reg [22]))))))) (.two (.reg [5]) .lf)))))))))
theorem ok45 : okFn Try.f45 (Try.f45.body.getD .skip) pl45 2 = true := by kernel_rfl
abbrev rs45 : List Nat := [4, 5]
theorem in45 : Try.prog.inits.idxOf? 45 = none := by kernel_rfl
-- 46 plexus/plexusref04.set
abbrev pl46 : Plan := (.two (.reg []) (.two (.reg [5]) (.two (.two (.reg [6]) (.blk (.lop [1, 5, 6] (.two (.two (.reg [10]) (.two .lf .lf)) (.two (.blk (.two (.two (.reg [15]) (.two (.reg [5]) .lf)) (.reg [1]))) (.reg [6])))))) (.two (.reg [4]) .lf))))
theorem ok46 : okFn Try.f46 (Try.f46.body.getD .skip) pl46 2 = true := by kernel_rfl
abbrev rs46 : List Nat := [4]
theorem in46 : Try.prog.inits.idxOf? 46 = none := by kernel_rfl
-- 47 plexus/plexusref04.pairwise
abbrev pl47 : Plan := (.two (.reg []) (.two (.two (.reg [7]) (.blk (.lop [7] (.two (.two (.reg [12]) (.two .lf .lf)) (.two (.blk (.two (.reg [8]) (.blk (.lop [8] (.two (.two (.reg [20]) (.two .lf .lf)) (.two (.blk (.two (.drw [52] [] [] []) (.two (.two (.reg [6]) .lf) .lf))) (.reg [8]))))))) (.reg [7])))))) (.two (.reg [6]) .lf)))
theorem ok47 : okFn Try.f47 (Try.f47.body.getD .skip) pl47 3 = true := by kernel_rfl
abbrev rs47 : List Nat := [6]
theorem in47 : Try.prog.inits.idxOf? 47 = none := by kernel_rfl
-- 48 plexus/plexusref04.ascending
abbrev pl48 : Plan := (.two (.reg []) (.two (.reg [5]) (.two (.two (.reg [6]) (.blk (.lop [6] (.two (.two (.reg [15]) (.two .lf .lf)) (.two (.blk (.two (.reg [7]) (.two (.two (.reg [8]) (.blk (.lop [7, 8] (.two (.two (.reg [21]) (.two .lf .lf)) (.two (.blk (.two (.drw [36] [] [] []) (.two (.reg [7]) .lf))) (.reg [8])))))) (.reg [])))) (.reg [6])))))) (.two (.reg [4]) .lf))))
theorem ok48 : okFn Try.f48 (Try.f48.body.getD .skip) pl48 2 = true := by kernel_rfl
abbrev rs48 : List Nat := [4]
theorem in48 : Try.prog.inits.idxOf? 48 = none := by kernel_rfl
-- 49 plexus/plexusref04.Before
abbrev pl49 : Plan := (.two (.reg []) (.two (.two (.reg [5]) (.blk (.lop [5] (.two (.two (.reg [15]) (.two .lf .lf)) (.two (.blk (.two (.drw [26] [] [] []) (.two (.two (.drw [4] [] [] []) .lf) .lf))) (.reg [5])))))) (.two (.reg [4]) .lf)))
theorem ok49 : okFn Try.f49 (Try.f49.body.getD .skip) pl49 2 = true := by kernel_rfl
abbrev rs49 : List Nat := [4]
theorem in49 : Try.prog.inits.idxOf? 49 = none := by kernel_rfl
-- 50 plexus/plexusref04.from
abbrev pl50 : Plan := (.two (.reg []) (.two (.two (.reg [11]) (.two (.reg [2]) .lf)) (.two (.reg [7]) (.two (.two (.reg [20]) (.two (.reg [7]) .lf)) (.two (.two (.reg [8]) (.blk (.lop [2, 8] (.two (.two (.reg [32]) (.two .lf .lf)) (.two (.blk (.reg [2])) (.reg [8])))))) (.two (.reg [6]) .lf))))))
theorem ok50 : okFn Try.f50 (Try.f50.body.getD .skip) pl50 3 = true := by kernel_rfl
abbrev rs50 : List Nat := [6]
theorem in50 : Try.prog.inits.idxOf? 50 = none := by kernel_rfl
-- 54 (*plexus/order.table).sorted$1
abbrev pl54 : Plan := (.two (.reg []) (.two (.two (.reg [7, 8]) (.blk (.lop [8] (.two (.reg [9]) (.two (.two .lf .lf) (.two (.blk (.two (.reg [6]) (.two (.reg [26]) (.two (.two (.reg [5]) .lf) .lf)))) (.reg [8]))))))) (.two (.reg [5]) .lf)))
theorem ok54 : okFn Try.f54 (Try.f54.body.getD .skip) pl54 4 = true := by kernel_rfl
abbrev rs54 : List Nat := [5]
theorem in54 : Try.prog.inits.idxOf? 54 = none := by kernel_rfl
-- 55 math/bits.OnesCount64
abbrev pl55 : Plan := (.two (.reg []) (.two (.reg [0]) (.two (.reg [0]) (.two (.reg [0]) (.two (.reg [0]) (.two (.reg [0]) (.two (.reg [0]) (.two (.reg [2]) .lf))))))))
theorem ok55 : okFn Try.f55 (Try.f55.body.getD .skip) pl55 1 = true := by kernel_rfl
abbrev rs55 : List Nat := [2]
theorem in55 : Try.prog.inits.idxOf? 55 = none := by kernel_rfl
-- 56 (*plexus/order.table).match$1
abbrev pl56 : Plan := (.two (.reg []) (.two (.two (.reg [10]) (.blk (.lop [10] (.two (.reg [11]) (.two (.two .lf .lf) (.two (.blk (.two (.reg [9]) (.two (.two (.drw [30] [] [] []) (.two .lf .lf)) (.two (.drw [] [4] [] []) (.two (.drw [45] [9] [] []) (.two (.two (.reg []) (.two (.reg [8]) .lf)) .lf)))))) (.reg [10]))))))) (.two (.reg [8]) .lf)))
theorem ok56 : okFn Try.f56 (Try.f56.body.getD .skip) pl56 7 = true := by kernel_rfl
abbrev rs56 : List Nat := [8]
theorem in56 : Try.prog.inits.idxOf? 56 = none := by kernel_rfl
-- 57 plexus/plexusref04.Down
abbrev pl57 : Plan := (.two (.reg []) (.two (.reg [5]) (.two (.two (.reg [6]) (.blk (.lop [6] (.two (.two (.reg [15]) (.two .lf .lf)) (.two (.blk (.reg [])) (.reg [6])))))) (.two (.two (.reg [7]) (.blk (.lop [7] (.two (.two (.reg [27]) (.two .lf .lf)) (.two (.blk (.two (.reg [8]) (.blk (.lop [8] (.two (.two (.reg [33]) (.two .lf .lf)) (.two (.blk (.two (.drw [52] [] [] []) (.two (.two (.reg [4]) .lf) .lf))) (.reg [8]))))))) (.reg [7])))))) (.two (.reg [4]) .lf)))))
theorem ok57 : okFn Try.f57 (Try.f57.body.getD .skip) pl57 2 = true := by kernel_rfl
abbrev rs57 : List Nat := [4]
theorem in57 : Try.prog.inits.idxOf? 57 = none := by kernel_rfl
end Go.Proofs.Ytfjccccfkpgmgaa.Fd
