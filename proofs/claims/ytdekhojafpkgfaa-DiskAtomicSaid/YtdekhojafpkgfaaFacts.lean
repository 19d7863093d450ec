/-
  Closed facts of this seat's program, printed by program (gen.py): the types' shapes; for each function the plan of its functional reading, its check, and the step from the body to the call.
-/
import Derived.Test.YtdekhojafpkgfaaFd8
import Derived.KernelRfl
namespace Go.Proofs.Ytdekhojafpkgfaa.Fd
open Go
set_option maxRecDepth 100000
theorem mixed : Try.prog.follows .mixedOrders = true := by kernel_rfl
theorem t1_k : knd Try.prog 1 = some false := by kernel_rfl
theorem t1_s : siz Try.prog 1 = some 1 := by kernel_rfl
theorem t1_b : byt Try.prog 1 = some 8 := by kernel_rfl
theorem t1_g : tag Try.prog 1 = 7 := by kernel_rfl
theorem t1_z : zer Try.prog 1 = some .nilFunc := by kernel_rfl
theorem t1_e : elt Try.prog 1 = none := by kernel_rfl
theorem t2_k : knd Try.prog 2 = some false := by kernel_rfl
theorem t2_s : siz Try.prog 2 = some 1 := by kernel_rfl
theorem t2_b : byt Try.prog 2 = some 8 := by kernel_rfl
theorem t2_g : tag Try.prog 2 = 6 := by kernel_rfl
theorem t2_z : zer Try.prog 2 = some (.int .i64 0) := by kernel_rfl
theorem t2_e : elt Try.prog 2 = none := by kernel_rfl
theorem t3_k : knd Try.prog 3 = some false := by kernel_rfl
theorem t3_s : siz Try.prog 3 = some 1 := by kernel_rfl
theorem t3_b : byt Try.prog 3 = some 8 := by kernel_rfl
theorem t3_g : tag Try.prog 3 = 6 := by kernel_rfl
theorem t3_z : zer Try.prog 3 = some (.int .i64 0) := by kernel_rfl
theorem t3_e : elt Try.prog 3 = none := by kernel_rfl
theorem t4_k : knd Try.prog 4 = some false := by kernel_rfl
theorem t4_s : siz Try.prog 4 = some 1 := by kernel_rfl
theorem t4_b : byt Try.prog 4 = some 1 := by kernel_rfl
theorem t4_g : tag Try.prog 4 = 1 := by kernel_rfl
theorem t4_z : zer Try.prog 4 = some (.bool false) := by kernel_rfl
theorem t4_e : elt Try.prog 4 = none := by kernel_rfl
theorem t5_k : knd Try.prog 5 = some false := by kernel_rfl
theorem t5_s : siz Try.prog 5 = some 1 := by kernel_rfl
theorem t5_b : byt Try.prog 5 = some 1 := by kernel_rfl
theorem t5_g : tag Try.prog 5 = 6 := by kernel_rfl
theorem t5_z : zer Try.prog 5 = some (.int .u8 0) := by kernel_rfl
theorem t5_e : elt Try.prog 5 = none := by kernel_rfl
theorem t6_k : knd Try.prog 6 = some false := by kernel_rfl
theorem t6_s : siz Try.prog 6 = some 1 := by kernel_rfl
theorem t6_b : byt Try.prog 6 = some 1 := by kernel_rfl
theorem t6_g : tag Try.prog 6 = 6 := by kernel_rfl
theorem t6_z : zer Try.prog 6 = some (.int .u8 0) := by kernel_rfl
theorem t6_e : elt Try.prog 6 = none := by kernel_rfl
theorem t7_k : knd Try.prog 7 = some true := by kernel_rfl
theorem t7_s : siz Try.prog 7 = some 4 := by kernel_rfl
theorem t7_b : byt Try.prog 7 = some 24 := by kernel_rfl
theorem t7_g : tag Try.prog 7 = 0 := by kernel_rfl
theorem t7_z : zer Try.prog 7 = some (.agg #[(.int .i64 0), (.int .i64 0), (.bool false), (.int .u8 0)]) := by kernel_rfl
theorem t7_e : elt Try.prog 7 = none := by kernel_rfl
theorem t7_f0 : fofs Try.prog 7 0 = some 0 := by kernel_rfl
theorem t7_f1 : fofs Try.prog 7 1 = some 1 := by kernel_rfl
theorem t7_f2 : fofs Try.prog 7 2 = some 2 := by kernel_rfl
theorem t7_f3 : fofs Try.prog 7 3 = some 3 := by kernel_rfl
theorem t8_k : knd Try.prog 8 = some true := by kernel_rfl
theorem t8_s : siz Try.prog 8 = some 4 := by kernel_rfl
theorem t8_b : byt Try.prog 8 = some 24 := by kernel_rfl
theorem t8_g : tag Try.prog 8 = 0 := by kernel_rfl
theorem t8_z : zer Try.prog 8 = some (.agg #[(.int .i64 0), (.int .i64 0), (.bool false), (.int .u8 0)]) := by kernel_rfl
theorem t8_e : elt Try.prog 8 = none := by kernel_rfl
theorem t8_f0 : fofs Try.prog 8 0 = some 0 := by kernel_rfl
theorem t8_f1 : fofs Try.prog 8 1 = some 1 := by kernel_rfl
theorem t8_f2 : fofs Try.prog 8 2 = some 2 := by kernel_rfl
theorem t8_f3 : fofs Try.prog 8 3 = some 3 := by kernel_rfl
theorem t9_k : knd Try.prog 9 = some false := by kernel_rfl
theorem t9_s : siz Try.prog 9 = some 1 := by kernel_rfl
theorem t9_b : byt Try.prog 9 = some 16 := by kernel_rfl
theorem t9_g : tag Try.prog 9 = 4 := by kernel_rfl
theorem t9_z : zer Try.prog 9 = some (.string ByteArray.empty) := by kernel_rfl
theorem t9_e : elt Try.prog 9 = none := by kernel_rfl
theorem t10_k : knd Try.prog 10 = some false := by kernel_rfl
theorem t10_s : siz Try.prog 10 = some 1 := by kernel_rfl
theorem t10_b : byt Try.prog 10 = some 16 := by kernel_rfl
theorem t10_g : tag Try.prog 10 = 4 := by kernel_rfl
theorem t10_z : zer Try.prog 10 = some (.string ByteArray.empty) := by kernel_rfl
theorem t10_e : elt Try.prog 10 = none := by kernel_rfl
theorem t11_k : knd Try.prog 11 = some false := by kernel_rfl
theorem t11_s : siz Try.prog 11 = some 1 := by kernel_rfl
theorem t11_b : byt Try.prog 11 = some 16 := by kernel_rfl
theorem t11_g : tag Try.prog 11 = 4 := by kernel_rfl
theorem t11_z : zer Try.prog 11 = some (.string ByteArray.empty) := by kernel_rfl
theorem t11_e : elt Try.prog 11 = none := by kernel_rfl
theorem t12_k : knd Try.prog 12 = some false := by kernel_rfl
theorem t12_s : siz Try.prog 12 = some 1 := by kernel_rfl
theorem t12_b : byt Try.prog 12 = some 8 := by kernel_rfl
theorem t12_g : tag Try.prog 12 = 6 := by kernel_rfl
theorem t12_z : zer Try.prog 12 = some (.int .u64 0) := by kernel_rfl
theorem t12_e : elt Try.prog 12 = none := by kernel_rfl
theorem t13_k : knd Try.prog 13 = some true := by kernel_rfl
theorem t13_s : siz Try.prog 13 = some 2 := by kernel_rfl
theorem t13_b : byt Try.prog 13 = some 24 := by kernel_rfl
theorem t13_g : tag Try.prog 13 = 0 := by kernel_rfl
theorem t13_z : zer Try.prog 13 = some (.agg #[(.string ByteArray.empty), (.int .u64 0)]) := by kernel_rfl
theorem t13_e : elt Try.prog 13 = none := by kernel_rfl
theorem t13_f0 : fofs Try.prog 13 0 = some 0 := by kernel_rfl
theorem t13_f1 : fofs Try.prog 13 1 = some 1 := by kernel_rfl
theorem t14_k : knd Try.prog 14 = some true := by kernel_rfl
theorem t14_s : siz Try.prog 14 = some 2 := by kernel_rfl
theorem t14_b : byt Try.prog 14 = some 24 := by kernel_rfl
theorem t14_g : tag Try.prog 14 = 0 := by kernel_rfl
theorem t14_z : zer Try.prog 14 = some (.agg #[(.string ByteArray.empty), (.int .u64 0)]) := by kernel_rfl
theorem t14_e : elt Try.prog 14 = none := by kernel_rfl
theorem t14_f0 : fofs Try.prog 14 0 = some 0 := by kernel_rfl
theorem t14_f1 : fofs Try.prog 14 1 = some 1 := by kernel_rfl
theorem t15_k : knd Try.prog 15 = some false := by kernel_rfl
theorem t15_s : siz Try.prog 15 = some 1 := by kernel_rfl
theorem t15_b : byt Try.prog 15 = some 8 := by kernel_rfl
theorem t15_g : tag Try.prog 15 = 2 := by kernel_rfl
theorem t15_z : zer Try.prog 15 = some (.pointer none) := by kernel_rfl
theorem t15_e : elt Try.prog 15 = none := by kernel_rfl
theorem t16_k : knd Try.prog 16 = some false := by kernel_rfl
theorem t16_s : siz Try.prog 16 = some 1 := by kernel_rfl
theorem t16_b : byt Try.prog 16 = some 8 := by kernel_rfl
theorem t16_g : tag Try.prog 16 = 2 := by kernel_rfl
theorem t16_z : zer Try.prog 16 = some (.pointer none) := by kernel_rfl
theorem t16_e : elt Try.prog 16 = none := by kernel_rfl
theorem t17_k : knd Try.prog 17 = some false := by kernel_rfl
theorem t17_s : siz Try.prog 17 = some 1 := by kernel_rfl
theorem t17_b : byt Try.prog 17 = some 8 := by kernel_rfl
theorem t17_g : tag Try.prog 17 = 2 := by kernel_rfl
theorem t17_z : zer Try.prog 17 = some (.pointer none) := by kernel_rfl
theorem t17_e : elt Try.prog 17 = none := by kernel_rfl
theorem t18_k : knd Try.prog 18 = some true := by kernel_rfl
theorem t18_s : siz Try.prog 18 = some 1 := by kernel_rfl
theorem t18_b : byt Try.prog 18 = some 8 := by kernel_rfl
theorem t18_g : tag Try.prog 18 = 0 := by kernel_rfl
theorem t18_z : zer Try.prog 18 = some (.agg #[(.pointer none)]) := by kernel_rfl
theorem t18_e : elt Try.prog 18 = none := by kernel_rfl
theorem t18_f0 : fofs Try.prog 18 0 = some 0 := by kernel_rfl
theorem t19_k : knd Try.prog 19 = some true := by kernel_rfl
theorem t19_s : siz Try.prog 19 = some 1 := by kernel_rfl
theorem t19_b : byt Try.prog 19 = some 8 := by kernel_rfl
theorem t19_g : tag Try.prog 19 = 0 := by kernel_rfl
theorem t19_z : zer Try.prog 19 = some (.agg #[(.pointer none)]) := by kernel_rfl
theorem t19_e : elt Try.prog 19 = none := by kernel_rfl
theorem t19_f0 : fofs Try.prog 19 0 = some 0 := by kernel_rfl
theorem t20_k : knd Try.prog 20 = some false := by kernel_rfl
theorem t20_s : siz Try.prog 20 = some 1 := by kernel_rfl
theorem t20_b : byt Try.prog 20 = some 16 := by kernel_rfl
theorem t20_g : tag Try.prog 20 = 0 := by kernel_rfl
theorem t20_z : zer Try.prog 20 = some .nilIface := by kernel_rfl
theorem t20_e : elt Try.prog 20 = none := by kernel_rfl
theorem t21_k : knd Try.prog 21 = some false := by kernel_rfl
theorem t21_s : siz Try.prog 21 = some 1 := by kernel_rfl
theorem t21_b : byt Try.prog 21 = some 4 := by kernel_rfl
theorem t21_g : tag Try.prog 21 = 6 := by kernel_rfl
theorem t21_z : zer Try.prog 21 = some (.int .i32 0) := by kernel_rfl
theorem t21_e : elt Try.prog 21 = none := by kernel_rfl
theorem t22_k : knd Try.prog 22 = some false := by kernel_rfl
theorem t22_s : siz Try.prog 22 = some 1 := by kernel_rfl
theorem t22_b : byt Try.prog 22 = some 24 := by kernel_rfl
theorem t22_g : tag Try.prog 22 = 3 := by kernel_rfl
theorem t22_z : zer Try.prog 22 = some (.slice none 0 0) := by kernel_rfl
theorem t22_e : elt Try.prog 22 = some 37 := by kernel_rfl
theorem t23_k : knd Try.prog 23 = some false := by kernel_rfl
theorem t23_s : siz Try.prog 23 = some 1 := by kernel_rfl
theorem t23_b : byt Try.prog 23 = some 8 := by kernel_rfl
theorem t23_g : tag Try.prog 23 = 7 := by kernel_rfl
theorem t23_z : zer Try.prog 23 = some .nilFunc := by kernel_rfl
theorem t23_e : elt Try.prog 23 = none := by kernel_rfl
theorem t24_k : knd Try.prog 24 = some false := by kernel_rfl
theorem t24_s : siz Try.prog 24 = some 1 := by kernel_rfl
theorem t24_b : byt Try.prog 24 = some 8 := by kernel_rfl
theorem t24_g : tag Try.prog 24 = 7 := by kernel_rfl
theorem t24_z : zer Try.prog 24 = some .nilFunc := by kernel_rfl
theorem t24_e : elt Try.prog 24 = none := by kernel_rfl
theorem t25_k : knd Try.prog 25 = some false := by kernel_rfl
theorem t25_s : siz Try.prog 25 = some 1 := by kernel_rfl
theorem t25_b : byt Try.prog 25 = some 8 := by kernel_rfl
theorem t25_g : tag Try.prog 25 = 2 := by kernel_rfl
theorem t25_z : zer Try.prog 25 = some (.pointer none) := by kernel_rfl
theorem t25_e : elt Try.prog 25 = none := by kernel_rfl
theorem t26_k : knd Try.prog 26 = some false := by kernel_rfl
theorem t26_s : siz Try.prog 26 = some 1 := by kernel_rfl
theorem t26_b : byt Try.prog 26 = some 8 := by kernel_rfl
theorem t26_g : tag Try.prog 26 = 6 := by kernel_rfl
theorem t26_z : zer Try.prog 26 = some (.int .i64 0) := by kernel_rfl
theorem t26_e : elt Try.prog 26 = none := by kernel_rfl
theorem t28_k : knd Try.prog 28 = some false := by kernel_rfl
theorem t28_s : siz Try.prog 28 = some 1 := by kernel_rfl
theorem t28_b : byt Try.prog 28 = some 8 := by kernel_rfl
theorem t28_g : tag Try.prog 28 = 7 := by kernel_rfl
theorem t28_z : zer Try.prog 28 = some .nilFunc := by kernel_rfl
theorem t28_e : elt Try.prog 28 = none := by kernel_rfl
theorem t29_k : knd Try.prog 29 = some false := by kernel_rfl
theorem t29_s : siz Try.prog 29 = some 1 := by kernel_rfl
theorem t29_b : byt Try.prog 29 = some 8 := by kernel_rfl
theorem t29_g : tag Try.prog 29 = 7 := by kernel_rfl
theorem t29_z : zer Try.prog 29 = some .nilFunc := by kernel_rfl
theorem t29_e : elt Try.prog 29 = none := by kernel_rfl
theorem t30_k : knd Try.prog 30 = some false := by kernel_rfl
theorem t30_s : siz Try.prog 30 = some 1 := by kernel_rfl
theorem t30_b : byt Try.prog 30 = some 8 := by kernel_rfl
theorem t30_g : tag Try.prog 30 = 2 := by kernel_rfl
theorem t30_z : zer Try.prog 30 = some (.pointer none) := by kernel_rfl
theorem t30_e : elt Try.prog 30 = none := by kernel_rfl
theorem t31_k : knd Try.prog 31 = some false := by kernel_rfl
theorem t31_s : siz Try.prog 31 = some 1 := by kernel_rfl
theorem t31_b : byt Try.prog 31 = some 8 := by kernel_rfl
theorem t31_g : tag Try.prog 31 = 7 := by kernel_rfl
theorem t31_z : zer Try.prog 31 = some .nilFunc := by kernel_rfl
theorem t31_e : elt Try.prog 31 = none := by kernel_rfl
theorem t32_k : knd Try.prog 32 = some false := by kernel_rfl
theorem t32_s : siz Try.prog 32 = some 1 := by kernel_rfl
theorem t32_b : byt Try.prog 32 = some 24 := by kernel_rfl
theorem t32_g : tag Try.prog 32 = 3 := by kernel_rfl
theorem t32_z : zer Try.prog 32 = some (.slice none 0 0) := by kernel_rfl
theorem t32_e : elt Try.prog 32 = some 5 := by kernel_rfl
theorem t34_k : knd Try.prog 34 = some false := by kernel_rfl
theorem t34_s : siz Try.prog 34 = some 1 := by kernel_rfl
theorem t34_b : byt Try.prog 34 = some 8 := by kernel_rfl
theorem t34_g : tag Try.prog 34 = 7 := by kernel_rfl
theorem t34_z : zer Try.prog 34 = some .nilFunc := by kernel_rfl
theorem t34_e : elt Try.prog 34 = none := by kernel_rfl
theorem t35_k : knd Try.prog 35 = some false := by kernel_rfl
theorem t35_s : siz Try.prog 35 = some 1 := by kernel_rfl
theorem t35_b : byt Try.prog 35 = some 24 := by kernel_rfl
theorem t35_g : tag Try.prog 35 = 3 := by kernel_rfl
theorem t35_z : zer Try.prog 35 = some (.slice none 0 0) := by kernel_rfl
theorem t35_e : elt Try.prog 35 = some 4 := by kernel_rfl
theorem t36_k : knd Try.prog 36 = some true := by kernel_rfl
theorem t36_s : siz Try.prog 36 = some 4 := by kernel_rfl
theorem t36_b : byt Try.prog 36 = some 64 := by kernel_rfl
theorem t36_g : tag Try.prog 36 = 0 := by kernel_rfl
theorem t36_z : zer Try.prog 36 = some (.agg #[(.int .i64 0), (.int .i64 0), (.slice none 0 0), (.slice none 0 0)]) := by kernel_rfl
theorem t36_e : elt Try.prog 36 = none := by kernel_rfl
theorem t36_f0 : fofs Try.prog 36 0 = some 0 := by kernel_rfl
theorem t36_f1 : fofs Try.prog 36 1 = some 1 := by kernel_rfl
theorem t36_f2 : fofs Try.prog 36 2 = some 2 := by kernel_rfl
theorem t36_f3 : fofs Try.prog 36 3 = some 3 := by kernel_rfl
theorem t37_k : knd Try.prog 37 = some true := by kernel_rfl
theorem t37_s : siz Try.prog 37 = some 4 := by kernel_rfl
theorem t37_b : byt Try.prog 37 = some 64 := by kernel_rfl
theorem t37_g : tag Try.prog 37 = 0 := by kernel_rfl
theorem t37_z : zer Try.prog 37 = some (.agg #[(.int .i64 0), (.int .i64 0), (.slice none 0 0), (.slice none 0 0)]) := by kernel_rfl
theorem t37_e : elt Try.prog 37 = none := by kernel_rfl
theorem t37_f0 : fofs Try.prog 37 0 = some 0 := by kernel_rfl
theorem t37_f1 : fofs Try.prog 37 1 = some 1 := by kernel_rfl
theorem t37_f2 : fofs Try.prog 37 2 = some 2 := by kernel_rfl
theorem t37_f3 : fofs Try.prog 37 3 = some 3 := by kernel_rfl
theorem t38_k : knd Try.prog 38 = some false := by kernel_rfl
theorem t38_s : siz Try.prog 38 = some 1 := by kernel_rfl
theorem t38_b : byt Try.prog 38 = some 8 := by kernel_rfl
theorem t38_g : tag Try.prog 38 = 7 := by kernel_rfl
theorem t38_z : zer Try.prog 38 = some .nilFunc := by kernel_rfl
theorem t38_e : elt Try.prog 38 = none := by kernel_rfl
theorem t39_k : knd Try.prog 39 = some false := by kernel_rfl
theorem t39_s : siz Try.prog 39 = some 1 := by kernel_rfl
theorem t39_b : byt Try.prog 39 = some 24 := by kernel_rfl
theorem t39_g : tag Try.prog 39 = 3 := by kernel_rfl
theorem t39_z : zer Try.prog 39 = some (.slice none 0 0) := by kernel_rfl
theorem t39_e : elt Try.prog 39 = some 32 := by kernel_rfl
theorem t40_k : knd Try.prog 40 = some false := by kernel_rfl
theorem t40_s : siz Try.prog 40 = some 1 := by kernel_rfl
theorem t40_b : byt Try.prog 40 = some 24 := by kernel_rfl
theorem t40_g : tag Try.prog 40 = 3 := by kernel_rfl
theorem t40_z : zer Try.prog 40 = some (.slice none 0 0) := by kernel_rfl
theorem t40_e : elt Try.prog 40 = some 66 := by kernel_rfl
theorem t41_k : knd Try.prog 41 = some true := by kernel_rfl
theorem t41_s : siz Try.prog 41 = some 5 := by kernel_rfl
theorem t41_b : byt Try.prog 41 = some 72 := by kernel_rfl
theorem t41_g : tag Try.prog 41 = 0 := by kernel_rfl
theorem t41_z : zer Try.prog 41 = some (.agg #[(.int .i64 0), (.slice none 0 0), (.slice none 0 0), (.bool false), (.int .i64 0)]) := by kernel_rfl
theorem t41_e : elt Try.prog 41 = none := by kernel_rfl
theorem t41_f0 : fofs Try.prog 41 0 = some 0 := by kernel_rfl
theorem t41_f1 : fofs Try.prog 41 1 = some 1 := by kernel_rfl
theorem t41_f2 : fofs Try.prog 41 2 = some 2 := by kernel_rfl
theorem t41_f3 : fofs Try.prog 41 3 = some 3 := by kernel_rfl
theorem t41_f4 : fofs Try.prog 41 4 = some 4 := by kernel_rfl
theorem t42_k : knd Try.prog 42 = some true := by kernel_rfl
theorem t42_s : siz Try.prog 42 = some 5 := by kernel_rfl
theorem t42_b : byt Try.prog 42 = some 72 := by kernel_rfl
theorem t42_g : tag Try.prog 42 = 0 := by kernel_rfl
theorem t42_z : zer Try.prog 42 = some (.agg #[(.int .i64 0), (.slice none 0 0), (.slice none 0 0), (.bool false), (.int .i64 0)]) := by kernel_rfl
theorem t42_e : elt Try.prog 42 = none := by kernel_rfl
theorem t42_f0 : fofs Try.prog 42 0 = some 0 := by kernel_rfl
theorem t42_f1 : fofs Try.prog 42 1 = some 1 := by kernel_rfl
theorem t42_f2 : fofs Try.prog 42 2 = some 2 := by kernel_rfl
theorem t42_f3 : fofs Try.prog 42 3 = some 3 := by kernel_rfl
theorem t42_f4 : fofs Try.prog 42 4 = some 4 := by kernel_rfl
theorem t43_k : knd Try.prog 43 = some false := by kernel_rfl
theorem t43_s : siz Try.prog 43 = some 1 := by kernel_rfl
theorem t43_b : byt Try.prog 43 = some 8 := by kernel_rfl
theorem t43_g : tag Try.prog 43 = 7 := by kernel_rfl
theorem t43_z : zer Try.prog 43 = some .nilFunc := by kernel_rfl
theorem t43_e : elt Try.prog 43 = none := by kernel_rfl
theorem t44_k : knd Try.prog 44 = some false := by kernel_rfl
theorem t44_s : siz Try.prog 44 = some 1 := by kernel_rfl
theorem t44_b : byt Try.prog 44 = some 8 := by kernel_rfl
theorem t44_g : tag Try.prog 44 = 7 := by kernel_rfl
theorem t44_z : zer Try.prog 44 = some .nilFunc := by kernel_rfl
theorem t44_e : elt Try.prog 44 = none := by kernel_rfl
theorem t45_k : knd Try.prog 45 = some false := by kernel_rfl
theorem t45_s : siz Try.prog 45 = some 1 := by kernel_rfl
theorem t45_b : byt Try.prog 45 = some 24 := by kernel_rfl
theorem t45_g : tag Try.prog 45 = 3 := by kernel_rfl
theorem t45_z : zer Try.prog 45 = some (.slice none 0 0) := by kernel_rfl
theorem t45_e : elt Try.prog 45 = some 39 := by kernel_rfl
theorem t46_k : knd Try.prog 46 = some false := by kernel_rfl
theorem t46_s : siz Try.prog 46 = some 1 := by kernel_rfl
theorem t46_b : byt Try.prog 46 = some 8 := by kernel_rfl
theorem t46_g : tag Try.prog 46 = 7 := by kernel_rfl
theorem t46_z : zer Try.prog 46 = some .nilFunc := by kernel_rfl
theorem t46_e : elt Try.prog 46 = none := by kernel_rfl
theorem t47_k : knd Try.prog 47 = some false := by kernel_rfl
theorem t47_s : siz Try.prog 47 = some 1 := by kernel_rfl
theorem t47_b : byt Try.prog 47 = some 8 := by kernel_rfl
theorem t47_g : tag Try.prog 47 = 7 := by kernel_rfl
theorem t47_z : zer Try.prog 47 = some .nilFunc := by kernel_rfl
theorem t47_e : elt Try.prog 47 = none := by kernel_rfl
theorem t48_k : knd Try.prog 48 = some false := by kernel_rfl
theorem t48_s : siz Try.prog 48 = some 1 := by kernel_rfl
theorem t48_b : byt Try.prog 48 = some 8 := by kernel_rfl
theorem t48_g : tag Try.prog 48 = 7 := by kernel_rfl
theorem t48_z : zer Try.prog 48 = some .nilFunc := by kernel_rfl
theorem t48_e : elt Try.prog 48 = none := by kernel_rfl
theorem t49_k : knd Try.prog 49 = some false := by kernel_rfl
theorem t49_s : siz Try.prog 49 = some 1 := by kernel_rfl
theorem t49_b : byt Try.prog 49 = some 8 := by kernel_rfl
theorem t49_g : tag Try.prog 49 = 7 := by kernel_rfl
theorem t49_z : zer Try.prog 49 = some .nilFunc := by kernel_rfl
theorem t49_e : elt Try.prog 49 = none := by kernel_rfl
theorem t50_k : knd Try.prog 50 = some false := by kernel_rfl
theorem t50_s : siz Try.prog 50 = some 1 := by kernel_rfl
theorem t50_b : byt Try.prog 50 = some 8 := by kernel_rfl
theorem t50_g : tag Try.prog 50 = 7 := by kernel_rfl
theorem t50_z : zer Try.prog 50 = some .nilFunc := by kernel_rfl
theorem t50_e : elt Try.prog 50 = none := by kernel_rfl
theorem t51_k : knd Try.prog 51 = some false := by kernel_rfl
theorem t51_s : siz Try.prog 51 = some 1 := by kernel_rfl
theorem t51_b : byt Try.prog 51 = some 8 := by kernel_rfl
theorem t51_g : tag Try.prog 51 = 7 := by kernel_rfl
theorem t51_z : zer Try.prog 51 = some .nilFunc := by kernel_rfl
theorem t51_e : elt Try.prog 51 = none := by kernel_rfl
theorem t52_k : knd Try.prog 52 = some false := by kernel_rfl
theorem t52_s : siz Try.prog 52 = some 1 := by kernel_rfl
theorem t52_b : byt Try.prog 52 = some 8 := by kernel_rfl
theorem t52_g : tag Try.prog 52 = 7 := by kernel_rfl
theorem t52_z : zer Try.prog 52 = some .nilFunc := by kernel_rfl
theorem t52_e : elt Try.prog 52 = none := by kernel_rfl
theorem t53_k : knd Try.prog 53 = some false := by kernel_rfl
theorem t53_s : siz Try.prog 53 = some 1 := by kernel_rfl
theorem t53_b : byt Try.prog 53 = some 8 := by kernel_rfl
theorem t53_g : tag Try.prog 53 = 7 := by kernel_rfl
theorem t53_z : zer Try.prog 53 = some .nilFunc := by kernel_rfl
theorem t53_e : elt Try.prog 53 = none := by kernel_rfl
theorem t54_k : knd Try.prog 54 = some false := by kernel_rfl
theorem t54_s : siz Try.prog 54 = some 1 := by kernel_rfl
theorem t54_b : byt Try.prog 54 = some 8 := by kernel_rfl
theorem t54_g : tag Try.prog 54 = 7 := by kernel_rfl
theorem t54_z : zer Try.prog 54 = some .nilFunc := by kernel_rfl
theorem t54_e : elt Try.prog 54 = none := by kernel_rfl
theorem t55_k : knd Try.prog 55 = some false := by kernel_rfl
theorem t55_s : siz Try.prog 55 = some 1 := by kernel_rfl
theorem t55_b : byt Try.prog 55 = some 8 := by kernel_rfl
theorem t55_g : tag Try.prog 55 = 7 := by kernel_rfl
theorem t55_z : zer Try.prog 55 = some .nilFunc := by kernel_rfl
theorem t55_e : elt Try.prog 55 = none := by kernel_rfl
theorem t56_k : knd Try.prog 56 = some false := by kernel_rfl
theorem t56_s : siz Try.prog 56 = some 1 := by kernel_rfl
theorem t56_b : byt Try.prog 56 = some 24 := by kernel_rfl
theorem t56_g : tag Try.prog 56 = 3 := by kernel_rfl
theorem t56_z : zer Try.prog 56 = some (.slice none 0 0) := by kernel_rfl
theorem t56_e : elt Try.prog 56 = some 61 := by kernel_rfl
theorem t57_k : knd Try.prog 57 = some true := by kernel_rfl
theorem t57_s : siz Try.prog 57 = some 6 := by kernel_rfl
theorem t57_b : byt Try.prog 57 = some 72 := by kernel_rfl
theorem t57_g : tag Try.prog 57 = 0 := by kernel_rfl
theorem t57_z : zer Try.prog 57 = some (.agg #[(.int .i64 0), (.slice none 0 0), (.slice none 0 0), (.bool false), (.bool false), (.int .i64 0)]) := by kernel_rfl
theorem t57_e : elt Try.prog 57 = none := by kernel_rfl
theorem t57_f0 : fofs Try.prog 57 0 = some 0 := by kernel_rfl
theorem t57_f1 : fofs Try.prog 57 1 = some 1 := by kernel_rfl
theorem t57_f2 : fofs Try.prog 57 2 = some 2 := by kernel_rfl
theorem t57_f3 : fofs Try.prog 57 3 = some 3 := by kernel_rfl
theorem t57_f4 : fofs Try.prog 57 4 = some 4 := by kernel_rfl
theorem t57_f5 : fofs Try.prog 57 5 = some 5 := by kernel_rfl
theorem t58_k : knd Try.prog 58 = some true := by kernel_rfl
theorem t58_s : siz Try.prog 58 = some 6 := by kernel_rfl
theorem t58_b : byt Try.prog 58 = some 72 := by kernel_rfl
theorem t58_g : tag Try.prog 58 = 0 := by kernel_rfl
theorem t58_z : zer Try.prog 58 = some (.agg #[(.int .i64 0), (.slice none 0 0), (.slice none 0 0), (.bool false), (.bool false), (.int .i64 0)]) := by kernel_rfl
theorem t58_e : elt Try.prog 58 = none := by kernel_rfl
theorem t58_f0 : fofs Try.prog 58 0 = some 0 := by kernel_rfl
theorem t58_f1 : fofs Try.prog 58 1 = some 1 := by kernel_rfl
theorem t58_f2 : fofs Try.prog 58 2 = some 2 := by kernel_rfl
theorem t58_f3 : fofs Try.prog 58 3 = some 3 := by kernel_rfl
theorem t58_f4 : fofs Try.prog 58 4 = some 4 := by kernel_rfl
theorem t58_f5 : fofs Try.prog 58 5 = some 5 := by kernel_rfl
theorem t59_k : knd Try.prog 59 = some false := by kernel_rfl
theorem t59_s : siz Try.prog 59 = some 1 := by kernel_rfl
theorem t59_b : byt Try.prog 59 = some 8 := by kernel_rfl
theorem t59_g : tag Try.prog 59 = 7 := by kernel_rfl
theorem t59_z : zer Try.prog 59 = some .nilFunc := by kernel_rfl
theorem t59_e : elt Try.prog 59 = none := by kernel_rfl
theorem t60_k : knd Try.prog 60 = some true := by kernel_rfl
theorem t60_s : siz Try.prog 60 = some 2 := by kernel_rfl
theorem t60_b : byt Try.prog 60 = some 32 := by kernel_rfl
theorem t60_g : tag Try.prog 60 = 0 := by kernel_rfl
theorem t60_z : zer Try.prog 60 = some (.agg #[(.int .i64 0), (.slice none 0 0)]) := by kernel_rfl
theorem t60_e : elt Try.prog 60 = none := by kernel_rfl
theorem t60_f0 : fofs Try.prog 60 0 = some 0 := by kernel_rfl
theorem t60_f1 : fofs Try.prog 60 1 = some 1 := by kernel_rfl
theorem t61_k : knd Try.prog 61 = some true := by kernel_rfl
theorem t61_s : siz Try.prog 61 = some 2 := by kernel_rfl
theorem t61_b : byt Try.prog 61 = some 32 := by kernel_rfl
theorem t61_g : tag Try.prog 61 = 0 := by kernel_rfl
theorem t61_z : zer Try.prog 61 = some (.agg #[(.int .i64 0), (.slice none 0 0)]) := by kernel_rfl
theorem t61_e : elt Try.prog 61 = none := by kernel_rfl
theorem t61_f0 : fofs Try.prog 61 0 = some 0 := by kernel_rfl
theorem t61_f1 : fofs Try.prog 61 1 = some 1 := by kernel_rfl
theorem t62_k : knd Try.prog 62 = some false := by kernel_rfl
theorem t62_s : siz Try.prog 62 = some 1 := by kernel_rfl
theorem t62_b : byt Try.prog 62 = some 8 := by kernel_rfl
theorem t62_g : tag Try.prog 62 = 7 := by kernel_rfl
theorem t62_z : zer Try.prog 62 = some .nilFunc := by kernel_rfl
theorem t62_e : elt Try.prog 62 = none := by kernel_rfl
theorem t63_k : knd Try.prog 63 = some false := by kernel_rfl
theorem t63_s : siz Try.prog 63 = some 1 := by kernel_rfl
theorem t63_b : byt Try.prog 63 = some 8 := by kernel_rfl
theorem t63_g : tag Try.prog 63 = 7 := by kernel_rfl
theorem t63_z : zer Try.prog 63 = some .nilFunc := by kernel_rfl
theorem t63_e : elt Try.prog 63 = none := by kernel_rfl
theorem t64_k : knd Try.prog 64 = some false := by kernel_rfl
theorem t64_s : siz Try.prog 64 = some 1 := by kernel_rfl
theorem t64_b : byt Try.prog 64 = some 8 := by kernel_rfl
theorem t64_g : tag Try.prog 64 = 7 := by kernel_rfl
theorem t64_z : zer Try.prog 64 = some .nilFunc := by kernel_rfl
theorem t64_e : elt Try.prog 64 = none := by kernel_rfl
theorem t65_k : knd Try.prog 65 = some true := by kernel_rfl
theorem t65_s : siz Try.prog 65 = some 2 := by kernel_rfl
theorem t65_b : byt Try.prog 65 = some 32 := by kernel_rfl
theorem t65_g : tag Try.prog 65 = 0 := by kernel_rfl
theorem t65_z : zer Try.prog 65 = some (.agg #[(.int .i64 0), (.slice none 0 0)]) := by kernel_rfl
theorem t65_e : elt Try.prog 65 = none := by kernel_rfl
theorem t65_f0 : fofs Try.prog 65 0 = some 0 := by kernel_rfl
theorem t65_f1 : fofs Try.prog 65 1 = some 1 := by kernel_rfl
theorem t66_k : knd Try.prog 66 = some true := by kernel_rfl
theorem t66_s : siz Try.prog 66 = some 2 := by kernel_rfl
theorem t66_b : byt Try.prog 66 = some 32 := by kernel_rfl
theorem t66_g : tag Try.prog 66 = 0 := by kernel_rfl
theorem t66_z : zer Try.prog 66 = some (.agg #[(.int .i64 0), (.slice none 0 0)]) := by kernel_rfl
theorem t66_e : elt Try.prog 66 = none := by kernel_rfl
theorem t66_f0 : fofs Try.prog 66 0 = some 0 := by kernel_rfl
theorem t66_f1 : fofs Try.prog 66 1 = some 1 := by kernel_rfl
theorem t67_k : knd Try.prog 67 = some false := by kernel_rfl
theorem t67_s : siz Try.prog 67 = some 1 := by kernel_rfl
theorem t67_b : byt Try.prog 67 = some 8 := by kernel_rfl
theorem t67_g : tag Try.prog 67 = 5 := by kernel_rfl
theorem t67_z : zer Try.prog 67 = some (.map none) := by kernel_rfl
theorem t67_e : elt Try.prog 67 = none := by kernel_rfl
theorem t68_k : knd Try.prog 68 = some false := by kernel_rfl
theorem t68_s : siz Try.prog 68 = some 1 := by kernel_rfl
theorem t68_b : byt Try.prog 68 = some 8 := by kernel_rfl
theorem t68_g : tag Try.prog 68 = 7 := by kernel_rfl
theorem t68_z : zer Try.prog 68 = some .nilFunc := by kernel_rfl
theorem t68_e : elt Try.prog 68 = none := by kernel_rfl
theorem t69_k : knd Try.prog 69 = some true := by kernel_rfl
theorem t69_s : siz Try.prog 69 = some 4 := by kernel_rfl
theorem t69_b : byt Try.prog 69 = some 40 := by kernel_rfl
theorem t69_g : tag Try.prog 69 = 0 := by kernel_rfl
theorem t69_z : zer Try.prog 69 = some (.agg #[(.pointer none), (.pointer none), (.pointer none), (.string ByteArray.empty)]) := by kernel_rfl
theorem t69_e : elt Try.prog 69 = none := by kernel_rfl
theorem t69_f0 : fofs Try.prog 69 0 = some 0 := by kernel_rfl
theorem t69_f1 : fofs Try.prog 69 1 = some 1 := by kernel_rfl
theorem t69_f2 : fofs Try.prog 69 2 = some 2 := by kernel_rfl
theorem t69_f3 : fofs Try.prog 69 3 = some 3 := by kernel_rfl
theorem t70_k : knd Try.prog 70 = some true := by kernel_rfl
theorem t70_s : siz Try.prog 70 = some 4 := by kernel_rfl
theorem t70_b : byt Try.prog 70 = some 40 := by kernel_rfl
theorem t70_g : tag Try.prog 70 = 0 := by kernel_rfl
theorem t70_z : zer Try.prog 70 = some (.agg #[(.pointer none), (.pointer none), (.pointer none), (.string ByteArray.empty)]) := by kernel_rfl
theorem t70_e : elt Try.prog 70 = none := by kernel_rfl
theorem t70_f0 : fofs Try.prog 70 0 = some 0 := by kernel_rfl
theorem t70_f1 : fofs Try.prog 70 1 = some 1 := by kernel_rfl
theorem t70_f2 : fofs Try.prog 70 2 = some 2 := by kernel_rfl
theorem t70_f3 : fofs Try.prog 70 3 = some 3 := by kernel_rfl
theorem t71_k : knd Try.prog 71 = some true := by kernel_rfl
theorem t71_s : siz Try.prog 71 = some 0 := by kernel_rfl
theorem t71_b : byt Try.prog 71 = some 0 := by kernel_rfl
theorem t71_g : tag Try.prog 71 = 0 := by kernel_rfl
theorem t71_e : elt Try.prog 71 = none := by kernel_rfl
theorem t71_a : arrOf Try.prog 71 = some (0, 16) := by kernel_rfl
theorem t72_k : knd Try.prog 72 = some true := by kernel_rfl
theorem t72_s : siz Try.prog 72 = some 0 := by kernel_rfl
theorem t72_b : byt Try.prog 72 = some 0 := by kernel_rfl
theorem t72_g : tag Try.prog 72 = 0 := by kernel_rfl
theorem t72_e : elt Try.prog 72 = none := by kernel_rfl
theorem t73_k : knd Try.prog 73 = some true := by kernel_rfl
theorem t73_s : siz Try.prog 73 = some 0 := by kernel_rfl
theorem t73_b : byt Try.prog 73 = some 0 := by kernel_rfl
theorem t73_g : tag Try.prog 73 = 0 := by kernel_rfl
theorem t73_e : elt Try.prog 73 = none := by kernel_rfl
theorem t74_k : knd Try.prog 74 = some false := by kernel_rfl
theorem t74_s : siz Try.prog 74 = some 1 := by kernel_rfl
theorem t74_b : byt Try.prog 74 = some 4 := by kernel_rfl
theorem t74_g : tag Try.prog 74 = 6 := by kernel_rfl
theorem t74_z : zer Try.prog 74 = some (.int .u32 0) := by kernel_rfl
theorem t74_e : elt Try.prog 74 = none := by kernel_rfl
theorem t75_k : knd Try.prog 75 = some false := by kernel_rfl
theorem t75_s : siz Try.prog 75 = some 1 := by kernel_rfl
theorem t75_b : byt Try.prog 75 = some 1 := by kernel_rfl
theorem t75_g : tag Try.prog 75 = 6 := by kernel_rfl
theorem t75_z : zer Try.prog 75 = some (.int .u8 0) := by kernel_rfl
theorem t75_e : elt Try.prog 75 = none := by kernel_rfl
theorem t76_k : knd Try.prog 76 = some false := by kernel_rfl
theorem t76_s : siz Try.prog 76 = some 1 := by kernel_rfl
theorem t76_b : byt Try.prog 76 = some 1 := by kernel_rfl
theorem t76_g : tag Try.prog 76 = 6 := by kernel_rfl
theorem t76_z : zer Try.prog 76 = some (.int .u8 0) := by kernel_rfl
theorem t76_e : elt Try.prog 76 = none := by kernel_rfl
theorem t77_k : knd Try.prog 77 = some false := by kernel_rfl
theorem t77_s : siz Try.prog 77 = some 1 := by kernel_rfl
theorem t77_b : byt Try.prog 77 = some 8 := by kernel_rfl
theorem t77_g : tag Try.prog 77 = 7 := by kernel_rfl
theorem t77_z : zer Try.prog 77 = some .nilFunc := by kernel_rfl
theorem t77_e : elt Try.prog 77 = none := by kernel_rfl
theorem t78_k : knd Try.prog 78 = some false := by kernel_rfl
theorem t78_s : siz Try.prog 78 = some 1 := by kernel_rfl
theorem t78_b : byt Try.prog 78 = some 8 := by kernel_rfl
theorem t78_g : tag Try.prog 78 = 2 := by kernel_rfl
theorem t78_z : zer Try.prog 78 = some (.pointer none) := by kernel_rfl
theorem t78_e : elt Try.prog 78 = none := by kernel_rfl
theorem t79_k : knd Try.prog 79 = some false := by kernel_rfl
theorem t79_s : siz Try.prog 79 = some 1 := by kernel_rfl
theorem t79_b : byt Try.prog 79 = some 4 := by kernel_rfl
theorem t79_g : tag Try.prog 79 = 6 := by kernel_rfl
theorem t79_z : zer Try.prog 79 = some (.int .i32 0) := by kernel_rfl
theorem t79_e : elt Try.prog 79 = none := by kernel_rfl
theorem t80_k : knd Try.prog 80 = some false := by kernel_rfl
theorem t80_s : siz Try.prog 80 = some 1 := by kernel_rfl
theorem t80_b : byt Try.prog 80 = some 4 := by kernel_rfl
theorem t80_g : tag Try.prog 80 = 6 := by kernel_rfl
theorem t80_z : zer Try.prog 80 = some (.int .i32 0) := by kernel_rfl
theorem t80_e : elt Try.prog 80 = none := by kernel_rfl
theorem t81_k : knd Try.prog 81 = some true := by kernel_rfl
theorem t81_s : siz Try.prog 81 = some 11 := by kernel_rfl
theorem t81_b : byt Try.prog 81 = some 48 := by kernel_rfl
theorem t81_g : tag Try.prog 81 = 0 := by kernel_rfl
theorem t81_z : zer Try.prog 81 = some (.agg #[(.int .u64 0), (.int .u64 0), (.int .u32 0), (.int .u8 0), (.int .u8 0), (.int .u8 0), (.int .u8 0), .nilFunc, (.pointer none), (.int .i32 0), (.int .i32 0)]) := by kernel_rfl
theorem t81_e : elt Try.prog 81 = none := by kernel_rfl
theorem t81_f0 : fofs Try.prog 81 0 = some 0 := by kernel_rfl
theorem t81_f1 : fofs Try.prog 81 1 = some 1 := by kernel_rfl
theorem t81_f2 : fofs Try.prog 81 2 = some 2 := by kernel_rfl
theorem t81_f3 : fofs Try.prog 81 3 = some 3 := by kernel_rfl
theorem t81_f4 : fofs Try.prog 81 4 = some 4 := by kernel_rfl
theorem t81_f5 : fofs Try.prog 81 5 = some 5 := by kernel_rfl
theorem t81_f6 : fofs Try.prog 81 6 = some 6 := by kernel_rfl
theorem t81_f7 : fofs Try.prog 81 7 = some 7 := by kernel_rfl
theorem t81_f8 : fofs Try.prog 81 8 = some 8 := by kernel_rfl
theorem t81_f9 : fofs Try.prog 81 9 = some 9 := by kernel_rfl
theorem t81_f10 : fofs Try.prog 81 10 = some 10 := by kernel_rfl
theorem t82_k : knd Try.prog 82 = some true := by kernel_rfl
theorem t82_s : siz Try.prog 82 = some 11 := by kernel_rfl
theorem t82_b : byt Try.prog 82 = some 48 := by kernel_rfl
theorem t82_g : tag Try.prog 82 = 0 := by kernel_rfl
theorem t82_z : zer Try.prog 82 = some (.agg #[(.int .u64 0), (.int .u64 0), (.int .u32 0), (.int .u8 0), (.int .u8 0), (.int .u8 0), (.int .u8 0), .nilFunc, (.pointer none), (.int .i32 0), (.int .i32 0)]) := by kernel_rfl
theorem t82_e : elt Try.prog 82 = none := by kernel_rfl
theorem t82_f0 : fofs Try.prog 82 0 = some 0 := by kernel_rfl
theorem t82_f1 : fofs Try.prog 82 1 = some 1 := by kernel_rfl
theorem t82_f2 : fofs Try.prog 82 2 = some 2 := by kernel_rfl
theorem t82_f3 : fofs Try.prog 82 3 = some 3 := by kernel_rfl
theorem t82_f4 : fofs Try.prog 82 4 = some 4 := by kernel_rfl
theorem t82_f5 : fofs Try.prog 82 5 = some 5 := by kernel_rfl
theorem t82_f6 : fofs Try.prog 82 6 = some 6 := by kernel_rfl
theorem t82_f7 : fofs Try.prog 82 7 = some 7 := by kernel_rfl
theorem t82_f8 : fofs Try.prog 82 8 = some 8 := by kernel_rfl
theorem t82_f9 : fofs Try.prog 82 9 = some 9 := by kernel_rfl
theorem t82_f10 : fofs Try.prog 82 10 = some 10 := by kernel_rfl
theorem t83_k : knd Try.prog 83 = some false := by kernel_rfl
theorem t83_s : siz Try.prog 83 = some 1 := by kernel_rfl
theorem t83_b : byt Try.prog 83 = some 8 := by kernel_rfl
theorem t83_g : tag Try.prog 83 = 0 := by kernel_rfl
theorem t83_e : elt Try.prog 83 = none := by kernel_rfl
theorem hb3 : hasB Try.prog 3 = true := by kernel_rfl
theorem hb4 : hasB Try.prog 4 = true := by kernel_rfl
theorem hb5 : hasB Try.prog 5 = true := by kernel_rfl
theorem hb6 : hasB Try.prog 6 = true := by kernel_rfl
theorem hb7 : hasB Try.prog 7 = true := by kernel_rfl
theorem hb8 : hasB Try.prog 8 = true := by kernel_rfl
theorem hb9 : hasB Try.prog 9 = true := by kernel_rfl
theorem hb10 : hasB Try.prog 10 = true := by kernel_rfl
theorem hb11 : hasB Try.prog 11 = true := by kernel_rfl
theorem hb12 : hasB Try.prog 12 = true := by kernel_rfl
theorem hb13 : hasB Try.prog 13 = true := by kernel_rfl
theorem hb14 : hasB Try.prog 14 = true := by kernel_rfl
theorem hb15 : hasB Try.prog 15 = true := by kernel_rfl
theorem hb16 : hasB Try.prog 16 = true := by kernel_rfl
theorem hb17 : hasB Try.prog 17 = true := by kernel_rfl
theorem hb18 : hasB Try.prog 18 = true := by kernel_rfl
theorem hb19 : hasB Try.prog 19 = true := by kernel_rfl
theorem hb20 : hasB Try.prog 20 = true := by kernel_rfl
theorem hb21 : hasB Try.prog 21 = true := by kernel_rfl
theorem hb22 : hasB Try.prog 22 = true := by kernel_rfl
theorem hb23 : hasB Try.prog 23 = true := by kernel_rfl
theorem hb24 : hasB Try.prog 24 = true := by kernel_rfl
theorem hb25 : hasB Try.prog 25 = true := by kernel_rfl
theorem hb26 : hasB Try.prog 26 = true := by kernel_rfl
theorem hb27 : hasB Try.prog 27 = true := by kernel_rfl
theorem hb28 : hasB Try.prog 28 = true := by kernel_rfl
theorem hb29 : hasB Try.prog 29 = true := by kernel_rfl
theorem hb30 : hasB Try.prog 30 = true := by kernel_rfl
theorem hb31 : hasB Try.prog 31 = true := by kernel_rfl
theorem hb32 : hasB Try.prog 32 = true := by kernel_rfl
theorem hb33 : hasB Try.prog 33 = true := by kernel_rfl
theorem hb34 : hasB Try.prog 34 = true := by kernel_rfl
theorem hb35 : hasB Try.prog 35 = true := by kernel_rfl
theorem hb36 : hasB Try.prog 36 = true := by kernel_rfl
theorem hb37 : hasB Try.prog 37 = true := by kernel_rfl
theorem hb38 : hasB Try.prog 38 = true := by kernel_rfl
theorem hb39 : hasB Try.prog 39 = true := by kernel_rfl
attribute [push_cast] t1_k t1_s t1_b t1_g t1_z t1_e t2_k t2_s t2_b t2_g t2_z t2_e t3_k t3_s t3_b t3_g t3_z t3_e t4_k t4_s t4_b t4_g t4_z t4_e t5_k t5_s t5_b t5_g t5_z t5_e t6_k t6_s t6_b t6_g t6_z t6_e t7_k t7_s t7_b t7_g
attribute [push_cast] t7_z t7_e t7_f0 t7_f1 t7_f2 t7_f3 t8_k t8_s t8_b t8_g t8_z t8_e t8_f0 t8_f1 t8_f2 t8_f3 t9_k t9_s t9_b t9_g t9_z t9_e t10_k t10_s t10_b t10_g t10_z t10_e t11_k t11_s t11_b t11_g t11_z t11_e t12_k t12_s t12_b t12_g t12_z t12_e
attribute [push_cast] t13_k t13_s t13_b t13_g t13_z t13_e t13_f0 t13_f1 t14_k t14_s t14_b t14_g t14_z t14_e t14_f0 t14_f1 t15_k t15_s t15_b t15_g t15_z t15_e t16_k t16_s t16_b t16_g t16_z t16_e t17_k t17_s t17_b t17_g t17_z t17_e t18_k t18_s t18_b t18_g t18_z t18_e
attribute [push_cast] t18_f0 t19_k t19_s t19_b t19_g t19_z t19_e t19_f0 t20_k t20_s t20_b t20_g t20_z t20_e t21_k t21_s t21_b t21_g t21_z t21_e t22_k t22_s t22_b t22_g t22_z t22_e t23_k t23_s t23_b t23_g t23_z t23_e t24_k t24_s t24_b t24_g t24_z t24_e t25_k t25_s
attribute [push_cast] t25_b t25_g t25_z t25_e t26_k t26_s t26_b t26_g t26_z t26_e t28_k t28_s t28_b t28_g t28_z t28_e t29_k t29_s t29_b t29_g t29_z t29_e t30_k t30_s t30_b t30_g t30_z t30_e t31_k t31_s t31_b t31_g t31_z t31_e t32_k t32_s t32_b t32_g t32_z t32_e
attribute [push_cast] t34_k t34_s t34_b t34_g t34_z t34_e t35_k t35_s t35_b t35_g t35_z t35_e t36_k t36_s t36_b t36_g t36_z t36_e t36_f0 t36_f1 t36_f2 t36_f3 t37_k t37_s t37_b t37_g t37_z t37_e t37_f0 t37_f1 t37_f2 t37_f3 t38_k t38_s t38_b t38_g t38_z t38_e t39_k t39_s
attribute [push_cast] t39_b t39_g t39_z t39_e t40_k t40_s t40_b t40_g t40_z t40_e t41_k t41_s t41_b t41_g t41_z t41_e t41_f0 t41_f1 t41_f2 t41_f3 t41_f4 t42_k t42_s t42_b t42_g t42_z t42_e t42_f0 t42_f1 t42_f2 t42_f3 t42_f4 t43_k t43_s t43_b t43_g t43_z t43_e t44_k t44_s
attribute [push_cast] t44_b t44_g t44_z t44_e t45_k t45_s t45_b t45_g t45_z t45_e t46_k t46_s t46_b t46_g t46_z t46_e t47_k t47_s t47_b t47_g t47_z t47_e t48_k t48_s t48_b t48_g t48_z t48_e t49_k t49_s t49_b t49_g t49_z t49_e t50_k t50_s t50_b t50_g t50_z t50_e
attribute [push_cast] t51_k t51_s t51_b t51_g t51_z t51_e t52_k t52_s t52_b t52_g t52_z t52_e t53_k t53_s t53_b t53_g t53_z t53_e t54_k t54_s t54_b t54_g t54_z t54_e t55_k t55_s t55_b t55_g t55_z t55_e t56_k t56_s t56_b t56_g t56_z t56_e t57_k t57_s t57_b t57_g
attribute [push_cast] t57_z t57_e t57_f0 t57_f1 t57_f2 t57_f3 t57_f4 t57_f5 t58_k t58_s t58_b t58_g t58_z t58_e t58_f0 t58_f1 t58_f2 t58_f3 t58_f4 t58_f5 t59_k t59_s t59_b t59_g t59_z t59_e t60_k t60_s t60_b t60_g t60_z t60_e t60_f0 t60_f1 t61_k t61_s t61_b t61_g t61_z t61_e
attribute [push_cast] t61_f0 t61_f1 t62_k t62_s t62_b t62_g t62_z t62_e t63_k t63_s t63_b t63_g t63_z t63_e t64_k t64_s t64_b t64_g t64_z t64_e t65_k t65_s t65_b t65_g t65_z t65_e t65_f0 t65_f1 t66_k t66_s t66_b t66_g t66_z t66_e t66_f0 t66_f1 t67_k t67_s t67_b t67_g
attribute [push_cast] t67_z t67_e t68_k t68_s t68_b t68_g t68_z t68_e t69_k t69_s t69_b t69_g t69_z t69_e t69_f0 t69_f1 t69_f2 t69_f3 t70_k t70_s t70_b t70_g t70_z t70_e t70_f0 t70_f1 t70_f2 t70_f3 t71_k t71_s t71_b t71_g t71_e t71_a t72_k t72_s t72_b t72_g t72_e t73_k
attribute [push_cast] t73_s t73_b t73_g t73_e t74_k t74_s t74_b t74_g t74_z t74_e t75_k t75_s t75_b t75_g t75_z t75_e t76_k t76_s t76_b t76_g t76_z t76_e t77_k t77_s t77_b t77_g t77_z t77_e t78_k t78_s t78_b t78_g t78_z t78_e t79_k t79_s t79_b t79_g t79_z t79_e
attribute [push_cast] t80_k t80_s t80_b t80_g t80_z t80_e t81_k t81_s t81_b t81_g t81_z t81_e t81_f0 t81_f1 t81_f2 t81_f3 t81_f4 t81_f5 t81_f6 t81_f7 t81_f8 t81_f9 t81_f10 t82_k t82_s t82_b t82_g t82_z t82_e t82_f0 t82_f1 t82_f2 t82_f3 t82_f4 t82_f5 t82_f6 t82_f7 t82_f8 t82_f9 t82_f10
attribute [push_cast] t83_k t83_s t83_b t83_g t83_e hb3 hb4 hb5 hb6 hb7 hb8 hb9 hb10 hb11 hb12 hb13 hb14 hb15 hb16 hb17 hb18 hb19 hb20 hb21 hb22 hb23 hb24 hb25 hb26 hb27 hb28 hb29 hb30 hb31 hb32 hb33 hb34 hb35 hb36 hb37
attribute [push_cast] hb38 hb39
-- 3 plexus/plexuslaw25.DiskPlays
abbrev pl3 : Plan := (.two (.reg []) (.two (.two (.reg [21]) (.two (.two (.reg [6]) .lf) .lf)) (.two (.two (.reg [26]) (.two (.two (.reg [6]) .lf) .lf)) (.two (.reg [7, 8]) (.two (.two (.reg [46]) (.two (.two (.reg [6]) .lf) .lf)) (.two (.reg [9]) (.two (.two (.reg [10]) (.blk (.lop [10] (.two (.two (.reg [53]) (.two .lf .lf)) (.two (.blk (.two (.reg [11, 12]) (.two (.reg [13, 14]) (.two (.drw [102] [12, 21] [] [(14, [12]), (15, [12]), (16, [12]), (23, [21]), (24, [21]), (25, [21]), (26, [21])]) (.two (.two (.reg [6]) .lf) .lf))))) (.reg [10])))))) (.two (.two (.reg [15]) (.blk (.lop [15] (.two (.two (.reg [105]) (.two .lf .lf)) (.two (.blk (.two (.reg [16, 17]) (.two (.reg [18, 19]) (.two (.reg [129]) (.two (.two (.reg [6]) .lf) .lf))))) (.reg [15])))))) (.two (.reg [6]) .lf)))))))))
theorem ok3 : okFn Try.f3 (Try.f3.body.getD .skip) pl3 3 = true := by kernel_rfl
abbrev rs3 : List Nat := [6]
theorem in3 : Try.prog.inits.idxOf? 3 = none := by kernel_rfl
-- 4 plexus/plexuslaw25.DiskNew
abbrev pl4 : Plan := (.two (.reg []) (.two (.two (.reg [8]) (.two (.two (.reg [4]) .lf) .lf)) (.two (.two (.reg [15]) (.two (.two (.reg [4]) .lf) .lf)) (.two (.reg [5, 6]) (.two (.two (.reg [25]) (.two (.two (.reg [4]) .lf) .lf)) (.two (.reg [4]) .lf))))))
theorem ok4 : okFn Try.f4 (Try.f4.body.getD .skip) pl4 2 = true := by kernel_rfl
abbrev rs4 : List Nat := [4]
theorem in4 : Try.prog.inits.idxOf? 4 = none := by kernel_rfl
-- 5 plexus/plexuslaw25.DiskAtomic
abbrev pl5 : Plan := (.two (.reg []) (.two (.two (.reg [22]) (.two (.two (.reg [8]) .lf) .lf)) (.two (.two (.reg [27]) (.two (.two (.reg [8]) .lf) .lf)) (.two (.reg [9, 10]) (.two (.two (.reg [35]) (.two (.two (.reg [8]) .lf) .lf)) (.two (.reg [11]) (.two (.two (.reg [12]) (.blk (.lop [12] (.two (.two (.reg [40]) (.two .lf .lf)) (.two (.blk (.reg [])) (.reg [12])))))) (.two (.two (.reg [13]) (.blk (.lop [13] (.two (.two (.reg [52]) (.two .lf .lf)) (.two (.blk (.two (.reg [14]) (.two (.two (.reg [70]) (.two (.two (.two (.reg [79]) (.two (.two (.reg [8]) .lf) .lf)) (.drw [] [10, 11, 13] [(10, [1, 2, 4, 5, 6, 7]), (11, [1, 2])] [])) .lf)) (.two (.two (.reg [100]) (.two (.two (.reg [15]) (.blk (.lop [15] (.two (.two (.reg [103]) (.two .lf .lf)) (.two (.blk (.drw [] [14] [] [])) (.reg [15])))))) .lf)) (.two (.reg [122]) (.two (.reg []) .lf)))))) (.reg [13])))))) (.two (.reg []) (.two (.two (.reg [16]) (.blk (.lop [16] (.two (.two (.reg [132]) (.two .lf .lf)) (.two (.blk (.two (.reg [17, 18]) (.two (.reg [19]) (.two (.two (.reg [20]) (.blk (.lop [19, 20] (.two (.two (.reg [147]) (.two .lf .lf)) (.two (.blk (.drw [19] [] [] [])) (.reg [20])))))) (.two (.reg [169]) (.two (.two (.reg [8]) .lf) .lf)))))) (.reg [16])))))) (.two (.reg [8]) .lf)))))))))))
theorem ok5 : okFn Try.f5 (Try.f5.body.getD .skip) pl5 4 = true := by kernel_rfl
abbrev rs5 : List Nat := [8]
theorem in5 : Try.prog.inits.idxOf? 5 = none := by kernel_rfl
-- 6 plexus/plexuslaw25.DiskSynced
abbrev pl6 : Plan := (.two (.reg []) (.two (.two (.reg [20]) (.two (.two (.reg [12]) .lf) .lf)) (.two (.two (.reg [40]) (.two (.two (.reg [12]) .lf) .lf)) (.two (.reg [13, 14]) (.two (.two (.reg [48]) (.two (.two (.reg [12]) .lf) .lf)) (.two (.two (.reg [15]) (.blk (.lop [15] (.two (.two (.reg [52]) (.two .lf .lf)) (.two (.blk (.reg [])) (.reg [15])))))) (.two (.reg []) (.two (.two (.reg [73]) (.two (.two (.reg [12]) .lf) .lf)) (.two (.two (.reg [16]) (.blk (.lop [16] (.two (.two (.reg [77]) (.two .lf .lf)) (.two (.blk (.two (.reg [94]) (.two (.reg []) .lf))) (.reg [16])))))) (.two (.reg []) (.two (.reg [17, 18]) (.two (.reg [12]) .lf))))))))))))
theorem ok6 : okFn Try.f6 (Try.f6.body.getD .skip) pl6 6 = true := by kernel_rfl
abbrev rs6 : List Nat := [12]
theorem in6 : Try.prog.inits.idxOf? 6 = none := by kernel_rfl
-- 7 plexus/plexuslaw25.DiskFails
abbrev pl7 : Plan := (.two (.reg []) (.two (.two (.reg [13]) (.two (.two (.reg [4]) .lf) .lf)) (.two (.two (.reg [15]) (.two (.two (.reg [4]) .lf) .lf)) (.two (.reg [5, 6]) (.two (.two (.reg [21]) (.two (.two (.reg [4]) .lf) .lf)) (.two (.reg []) (.two (.two (.reg [7]) (.blk (.lop [7] (.two (.two (.reg [26]) (.two .lf .lf)) (.two (.blk (.two (.reg []) (.two (.two (.reg [38]) (.two (.reg [8]) (.reg [8]))) (.two (.reg [10]) (.two (.reg [82]) (.two (.two (.reg [4]) .lf) .lf)))))) (.reg [7])))))) (.two (.reg []) (.two (.two (.reg [11]) (.blk (.lop [11] (.two (.two (.reg [86]) (.two .lf .lf)) (.two (.blk (.two (.reg [92]) (.two (.two (.reg [4]) .lf) .lf))) (.reg [11])))))) (.two (.reg [4]) .lf))))))))))
theorem ok7 : okFn Try.f7 (Try.f7.body.getD .skip) pl7 2 = true := by kernel_rfl
abbrev rs7 : List Nat := [4]
theorem in7 : Try.prog.inits.idxOf? 7 = none := by kernel_rfl
-- 8 plexus/plexuslaw25.DiskMemory
abbrev pl8 : Plan := (.two (.reg []) (.two (.two (.reg [13]) (.two (.two (.reg [2]) .lf) .lf)) (.two (.two (.reg [21]) (.two (.two (.reg [2]) .lf) .lf)) (.two (.reg [3, 4]) (.two (.reg [5]) (.two (.two (.reg [38]) (.two (.two (.reg [2]) .lf) .lf)) (.two (.two (.reg [6]) (.blk (.lop [6] (.two (.two (.reg [42]) (.two .lf .lf)) (.two (.blk (.reg [])) (.reg [6])))))) (.two (.reg [7, 8]) (.two (.two (.reg [64]) (.two (.two (.reg [2]) .lf) .lf)) (.two (.two (.reg [9]) (.blk (.lop [9] (.two (.two (.reg [68]) (.two .lf .lf)) (.two (.blk (.reg [])) (.reg [9])))))) (.two (.two (.reg [79]) (.two (.two (.reg [2]) .lf) .lf)) (.two (.reg [10, 11]) (.two (.reg [2]) .lf)))))))))))))
theorem ok8 : okFn Try.f8 (Try.f8.body.getD .skip) pl8 1 = true := by kernel_rfl
abbrev rs8 : List Nat := [2]
theorem in8 : Try.prog.inits.idxOf? 8 = none := by kernel_rfl
-- 9 plexus/plexuslaw25.awake
abbrev pl9 : Plan := (.two (.reg []) (.two (.reg [1, 2]) (.two (.two (.reg [22]) (.two (.two (.reg [0]) .lf) .lf)) (.two (.two (.reg [42]) (.two (.two (.reg [0]) .lf) .lf)) (.two (.reg []) (.two (.two (.reg [53]) (.two (.two (.reg [0]) .lf) .lf)) (.two (.reg []) (.two (.two (.reg [69]) (.two (.two (.reg [0]) .lf) .lf)) (.two (.reg []) (.two (.reg [0]) .lf))))))))))
theorem ok9 : okFn Try.f9 (Try.f9.body.getD .skip) pl9 0 = true := by kernel_rfl
abbrev rs9 : List Nat := [0]
theorem in9 : Try.prog.inits.idxOf? 9 = none := by kernel_rfl
-- 10 plexus/plexuslaw25.small
abbrev pl10 : Plan := (.two (.reg []) (.two (.reg [6]) .lf))
theorem ok10 : okFn Try.f10 (Try.f10.body.getD .skip) pl10 3 = true := by kernel_rfl
abbrev rs10 : List Nat := [6]
theorem in10 : Try.prog.inits.idxOf? 10 = none := by kernel_rfl
-- 11 plexus/disk.New
abbrev pl11 : Plan := (.two (.reg []) (.two (.two (.reg [21]) (.two (.two (.reg [4, 5]) .lf) .lf)) (.two (.reg [6]) (.two (.two (.reg [31, 32]) (.blk (.lop [32] (.two (.reg [33]) (.two (.two .lf .lf) (.two (.blk (.two (.reg [7]) (.drw [] [6, 8] [(6, [1, 2, 3])] []))) (.reg [32]))))))) (.two (.reg [4, 5]) .lf)))))
theorem ok11 : okFn Try.f11 (Try.f11.body.getD .skip) pl11 2 = true := by kernel_rfl
abbrev rs11 : List Nat := [4, 5]
theorem in11 : Try.prog.inits.idxOf? 11 = none := by kernel_rfl
-- 12 (*plexus/disk.Disk).Sectors
abbrev pl12 : Plan := (.two (.reg []) (.two (.reg [2]) .lf))
theorem ok12 : okFn Try.f12 (Try.f12.body.getD .skip) pl12 1 = true := by kernel_rfl
abbrev rs12 : List Nat := [2]
theorem in12 : Try.prog.inits.idxOf? 12 = none := by kernel_rfl
-- 13 (*plexus/disk.Disk).Size
abbrev pl13 : Plan := (.two (.reg []) (.two (.reg [2]) .lf))
theorem ok13 : okFn Try.f13 (Try.f13.body.getD .skip) pl13 1 = true := by kernel_rfl
abbrev rs13 : List Nat := [2]
theorem in13 : Try.prog.inits.idxOf? 13 = none := by kernel_rfl
-- 14 plexus/plexusref25.New
abbrev pl14 : Plan := (.two (.reg []) (.two (.reg [5]) (.two (.two (.reg [6]) (.blk (.lop [6] (.two (.two (.reg [12]) (.two .lf .lf)) (.two (.blk (.drw [] [6, 7, 8, 11] [(6, [2, 3, 4]), (7, [2, 3, 4])] [])) (.reg [6])))))) (.two (.reg [4]) .lf))))
theorem ok14 : okFn Try.f14 (Try.f14.body.getD .skip) pl14 2 = true := by kernel_rfl
abbrev rs14 : List Nat := [4]
theorem in14 : Try.prog.inits.idxOf? 14 = none := by kernel_rfl
-- 15 plexus/plexuslaw25.play
abbrev pl15 : Plan := (.two (.reg [3]) (.two (.two (.reg [7]) (.blk (.two (.reg [14]) (.two (.two (.reg [4, 5]) .lf) (.two (.reg [22]) (.two (.two (.reg [4, 5]) .lf) (.two (.reg [26]) (.two (.reg []) (.two (.reg [32]) (.two (.reg []) (.two (.reg [4, 5]) .lf))))))))))) (.two (.reg [4, 5]) .lf)))
theorem ok15 : okFn Try.f15 (Try.f15.body.getD .skip) pl15 2 = true := by kernel_rfl
abbrev rs15 : List Nat := [4, 5]
theorem in15 : Try.prog.inits.idxOf? 15 = none := by kernel_rfl
-- 16 plexus/plexuslaw25.model
abbrev pl16 : Plan := (.two (.reg [3]) (.two (.two (.reg [7]) (.blk (.two (.reg [14]) (.two (.two (.reg [4, 5]) .lf) (.two (.reg [22]) (.two (.two (.reg [4, 5]) .lf) (.two (.reg [26]) (.two (.reg []) (.two (.reg [32]) (.two (.reg []) (.two (.reg [4, 5]) .lf))))))))))) (.two (.reg [4, 5]) .lf)))
theorem ok16 : okFn Try.f16 (Try.f16.body.getD .skip) pl16 2 = true := by kernel_rfl
abbrev rs16 : List Nat := [4, 5]
theorem in16 : Try.prog.inits.idxOf? 16 = none := by kernel_rfl
-- 17 (*plexus/disk.Disk).Down
abbrev pl17 : Plan := (.two (.reg []) (.two (.reg [2]) .lf))
theorem ok17 : okFn Try.f17 (Try.f17.body.getD .skip) pl17 1 = true := by kernel_rfl
abbrev rs17 : List Nat := [2]
theorem in17 : Try.prog.inits.idxOf? 17 = none := by kernel_rfl
-- 18 (*plexus/disk.Disk).Cached
abbrev pl18 : Plan := (.two (.reg []) (.two (.reg [2]) .lf))
theorem ok18 : okFn Try.f18 (Try.f18.body.getD .skip) pl18 1 = true := by kernel_rfl
abbrev rs18 : List Nat := [2]
theorem in18 : Try.prog.inits.idxOf? 18 = none := by kernel_rfl
-- 19 (*plexus/disk.Disk).Read
abbrev pl19 : Plan := (.two (.reg []) (.two (.two (.reg [10]) (.two (.two (.reg [4, 5]) .lf) .lf)) (.two (.two (.reg [14]) (.two (.two (.reg [4, 5]) .lf) .lf)) (.two (.two (.reg [6]) (.blk (.lop [6] (.two (.two (.reg [22]) (.two .lf .lf)) (.two (.blk (.two (.reg [34]) (.two (.two (.reg [4, 5]) .lf) .lf))) (.reg [6])))))) (.two (.reg [4, 5]) .lf)))))
theorem ok19 : okFn Try.f19 (Try.f19.body.getD .skip) pl19 2 = true := by kernel_rfl
abbrev rs19 : List Nat := [4, 5]
theorem in19 : Try.prog.inits.idxOf? 19 = none := by kernel_rfl
-- 20 (*plexus/plexusref25.Disk).Read
abbrev pl20 : Plan := (.two (.reg []) (.two (.two (.reg [16]) (.two (.two (.reg [4, 5]) .lf) .lf)) (.two (.two (.reg [20]) (.two (.two (.reg [4, 5]) .lf) .lf)) (.two (.reg [4, 5]) .lf))))
theorem ok20 : okFn Try.f20 (Try.f20.body.getD .skip) pl20 2 = true := by kernel_rfl
abbrev rs20 : List Nat := [4, 5]
theorem in20 : Try.prog.inits.idxOf? 20 = none := by kernel_rfl
-- 21 plexus/plexusref25.Fits
abbrev pl21 : Plan := (.two (.reg []) (.two (.reg [4]) .lf))
theorem ok21 : okFn Try.f21 (Try.f21.body.getD .skip) pl21 2 = true := by kernel_rfl
abbrev rs21 : List Nat := [4]
theorem in21 : Try.prog.inits.idxOf? 21 = none := by kernel_rfl
-- 22 (*plexus/disk.Disk).Write
abbrev pl22 : Plan := (.two (.reg []) (.two (.two (.reg [19]) (.two (.two (.reg [6]) .lf) .lf)) (.two (.two (.reg [22]) (.two (.two (.reg [6]) .lf) .lf)) (.two (.drw [] [8, 10, 11, 14] [(8, [2, 3, 4]), (10, [2, 3, 4])] []) (.two (.reg [6]) .lf)))))
theorem ok22 : okFn Try.f22 (Try.f22.body.getD .skip) pl22 3 = true := by kernel_rfl
abbrev rs22 : List Nat := [6]
theorem in22 : Try.prog.inits.idxOf? 22 = none := by kernel_rfl
-- 23 (*plexus/disk.Disk).Sync
abbrev pl23 : Plan := (.two (.reg []) (.two (.two (.reg [5]) (.two (.two (.reg [2]) .lf) .lf)) (.two (.reg []) (.two (.reg [2]) .lf))))
theorem ok23 : okFn Try.f23 (Try.f23.body.getD .skip) pl23 1 = true := by kernel_rfl
abbrev rs23 : List Nat := [2]
theorem in23 : Try.prog.inits.idxOf? 23 = none := by kernel_rfl
-- 24 (*plexus/disk.Disk).Fail
abbrev pl24 : Plan := (.two (.reg [8]) (.two (.reg []) .lf))
theorem ok24 : okFn Try.f24 (Try.f24.body.getD .skip) pl24 2 = true := by kernel_rfl
abbrev rs24 : List Nat := []
theorem in24 : Try.prog.inits.idxOf? 24 = none := by kernel_rfl
-- 25 (*plexus/disk.Disk).Crash
abbrev pl25 : Plan := (.two (.reg [3]) (.two (.reg []) (.reg [])))
theorem ok25 : okFn Try.f25 (Try.f25.body.getD .skip) pl25 2 = true := by kernel_rfl
abbrev rs25 : List Nat := []
theorem in25 : Try.prog.inits.idxOf? 25 = none := by kernel_rfl
-- 26 plexus/plexuslaw25.block
abbrev pl26 : Plan := (.two (.reg []) (.two (.reg [3]) (.two (.reg []) (.two (.reg [2]) .lf))))
theorem ok26 : okFn Try.f26 (Try.f26.body.getD .skip) pl26 1 = true := by kernel_rfl
abbrev rs26 : List Nat := [2]
theorem in26 : Try.prog.inits.idxOf? 26 = none := by kernel_rfl
-- 27 plexus/plexuslaw25.first
abbrev pl27 : Plan := (.two (.reg []) (.two (.reg [5, 6]) (.two (.two (.reg [19]) (.two (.two (.reg [4]) .lf) .lf)) (.two (.reg [4]) .lf))))
theorem ok27 : okFn Try.f27 (Try.f27.body.getD .skip) pl27 2 = true := by kernel_rfl
abbrev rs27 : List Nat := [4]
theorem in27 : Try.prog.inits.idxOf? 27 = none := by kernel_rfl
-- 28 (*plexus/plexusref25.Disk).Write
abbrev pl28 : Plan := (.two (.reg []) (.two (.two (.reg [26]) (.two (.two (.reg [6]) .lf) .lf)) (.two (.two (.reg [29]) (.two (.two (.reg [6]) .lf) .lf)) (.two (.drw [] [6, 8, 10, 11, 14] [(6, [2, 3, 4]), (8, [2, 3, 4]), (10, [2, 3, 4])] []) (.two (.reg [6]) .lf)))))
theorem ok28 : okFn Try.f28 (Try.f28.body.getD .skip) pl28 3 = true := by kernel_rfl
abbrev rs28 : List Nat := [6]
theorem in28 : Try.prog.inits.idxOf? 28 = none := by kernel_rfl
-- 29 (*plexus/plexusref25.Disk).Sync
abbrev pl29 : Plan := (.two (.reg []) (.two (.two (.reg [6]) (.two (.two (.reg [2]) .lf) .lf)) (.two (.two (.reg [3]) (.blk (.lop [3] (.two (.two (.reg [13]) (.two .lf .lf)) (.two (.blk (.drw [] [21] [] [])) (.reg [3])))))) (.two (.reg []) (.two (.reg [2]) .lf)))))
theorem ok29 : okFn Try.f29 (Try.f29.body.getD .skip) pl29 1 = true := by kernel_rfl
abbrev rs29 : List Nat := [2]
theorem in29 : Try.prog.inits.idxOf? 29 = none := by kernel_rfl
-- 30 (*plexus/plexusref25.Disk).Fail
abbrev pl30 : Plan := (.two (.reg [8]) (.two (.reg []) .lf))
theorem ok30 : okFn Try.f30 (Try.f30.body.getD .skip) pl30 2 = true := by kernel_rfl
abbrev rs30 : List Nat := []
theorem in30 : Try.prog.inits.idxOf? 30 = none := by kernel_rfl
-- 31 (*plexus/plexusref25.Disk).Crash
abbrev pl31 : Plan := (.two (.two (.reg [4]) (.blk (.lop [4] (.two (.two (.reg [17]) (.two .lf .lf)) (.two (.blk (.two (.reg [23]) (.two (.drw [] [21] [] []) .lf))) (.reg [4])))))) (.two (.reg []) (.two (.reg []) (.reg []))))
theorem ok31 : okFn Try.f31 (Try.f31.body.getD .skip) pl31 2 = true := by kernel_rfl
abbrev rs31 : List Nat := []
theorem in31 : Try.prog.inits.idxOf? 31 = none := by kernel_rfl
-- 32 (*plexus/disk.Disk).has
abbrev pl32 : Plan := (.two (.reg []) (.two (.reg [4]) .lf))
theorem ok32 : okFn Try.f32 (Try.f32.body.getD .skip) pl32 2 = true := by kernel_rfl
abbrev rs32 : List Nat := [4]
theorem in32 : Try.prog.inits.idxOf? 32 = none := by kernel_rfl
-- 33 (*plexus/disk.Disk).clone
abbrev pl33 : Plan := (.two (.reg []) (.two (.reg [5]) (.two (.reg []) (.two (.reg [4]) .lf))))
theorem ok33 : okFn Try.f33 (Try.f33.body.getD .skip) pl33 2 = true := by kernel_rfl
abbrev rs33 : List Nat := [4]
theorem in33 : Try.prog.inits.idxOf? 33 = none := by kernel_rfl
-- 34 (*plexus/plexusref25.Disk).Content
abbrev pl34 : Plan := (.two (.reg []) (.two (.two (.reg [5]) (.blk (.lop [5] (.two (.two (.reg [13]) (.two .lf .lf)) (.two (.blk (.two (.reg [25]) (.two (.two (.reg [4]) .lf) .lf))) (.reg [5])))))) (.two (.reg [4]) .lf)))
theorem ok34 : okFn Try.f34 (Try.f34.body.getD .skip) pl34 2 = true := by kernel_rfl
abbrev rs34 : List Nat := [4]
theorem in34 : Try.prog.inits.idxOf? 34 = none := by kernel_rfl
-- 35 (*plexus/disk.Disk).operate
abbrev pl35 : Plan := (.two (.reg []) (.two (.two (.reg [13]) (.two (.reg []) .lf)) (.two (.two (.reg [20]) (.two (.two (.reg [2]) .lf) .lf)) (.two (.two (.reg [24]) (.two (.reg []) .lf)) (.two (.reg [2]) .lf)))))
theorem ok35 : okFn Try.f35 (Try.f35.body.getD .skip) pl35 1 = true := by kernel_rfl
abbrev rs35 : List Nat := [2]
theorem in35 : Try.prog.inits.idxOf? 35 = none := by kernel_rfl
-- 36 (*plexus/disk.Disk).settle
abbrev pl36 : Plan := (.two (.reg [4]) (.two (.two (.reg [13, 14, 15]) (.blk (.lop [15] (.two (.reg [16]) (.two (.two .lf .lf) (.two (.blk (.two (.reg [5, 6]) (.two (.reg [22]) (.two (.reg []) .lf)))) (.reg [15]))))))) (.two (.two (.reg [30]) (.blk (.lop [] (.two (.reg [32]) (.two (.two .lf .lf) (.blk (.two (.reg [7, 8]) (.reg [])))))))) (.reg []))))
theorem ok36 : okFn Try.f36 (Try.f36.body.getD .skip) pl36 2 = true := by kernel_rfl
abbrev rs36 : List Nat := []
theorem in36 : Try.prog.inits.idxOf? 36 = none := by kernel_rfl
-- 37 (*plexus/disk.Disk).Sync$1
abbrev pl37 : Plan := (.two (.reg []) (.two (.reg [2]) .lf))
theorem ok37 : okFn Try.f37 (Try.f37.body.getD .skip) pl37 1 = true := by kernel_rfl
abbrev rs37 : List Nat := [2]
theorem in37 : Try.prog.inits.idxOf? 37 = none := by kernel_rfl
-- 38 (*plexus/disk.Disk).Crash$1
abbrev pl38 : Plan := (.two (.reg []) (.two (.reg [3]) .lf))
theorem ok38 : okFn Try.f38 (Try.f38.body.getD .skip) pl38 2 = true := by kernel_rfl
abbrev rs38 : List Nat := [3]
theorem in38 : Try.prog.inits.idxOf? 38 = none := by kernel_rfl
-- 39 (*plexus/plexusref25.Disk).step
abbrev pl39 : Plan := (.two (.reg []) (.two (.two (.reg [13]) (.two (.two (.reg []) (.two (.reg [2]) .lf)) .lf)) (.two (.two (.reg [21]) (.two (.reg []) .lf)) (.two (.reg [2]) .lf))))
theorem ok39 : okFn Try.f39 (Try.f39.body.getD .skip) pl39 1 = true := by kernel_rfl
abbrev rs39 : List Nat := [2]
theorem in39 : Try.prog.inits.idxOf? 39 = none := by kernel_rfl
end Go.Proofs.Ytdekhojafpkgfaa.Fd
