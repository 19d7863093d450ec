/-
  Closed facts of this seat's program, printed by program (gen.py): the types' shapes; for each function the plan of its functional reading, its check, and the step from the body to the call.
-/
import Derived.Test.YtlnladcfgieggaaFd8
import Derived.KernelRfl
namespace Go.Proofs.Ytlnladcfgieggaa.Fd
open Go
set_option maxRecDepth 100000
theorem mixed : Try.prog.follows .mixedOrders = true := by kernel_rfl
theorem t1_k : knd Try.prog 1 = some false := by kernel_rfl
theorem t1_s : siz Try.prog 1 = some 1 := by kernel_rfl
theorem t1_b : byt Try.prog 1 = some 8 := by kernel_rfl
theorem t1_g : tag Try.prog 1 = 7 := by kernel_rfl
theorem t1_z : zer Try.prog 1 = some .nilFunc := by kernel_rfl
theorem t1_e : elt Try.prog 1 = none := by kernel_rfl
theorem t2_k : knd Try.prog 2 = some false := by kernel_rfl
theorem t2_s : siz Try.prog 2 = some 1 := by kernel_rfl
theorem t2_b : byt Try.prog 2 = some 8 := by kernel_rfl
theorem t2_g : tag Try.prog 2 = 6 := by kernel_rfl
theorem t2_z : zer Try.prog 2 = some (.int .i64 0) := by kernel_rfl
theorem t2_e : elt Try.prog 2 = none := by kernel_rfl
theorem t3_k : knd Try.prog 3 = some false := by kernel_rfl
theorem t3_s : siz Try.prog 3 = some 1 := by kernel_rfl
theorem t3_b : byt Try.prog 3 = some 8 := by kernel_rfl
theorem t3_g : tag Try.prog 3 = 6 := by kernel_rfl
theorem t3_z : zer Try.prog 3 = some (.int .i64 0) := by kernel_rfl
theorem t3_e : elt Try.prog 3 = none := by kernel_rfl
theorem t4_k : knd Try.prog 4 = some false := by kernel_rfl
theorem t4_s : siz Try.prog 4 = some 1 := by kernel_rfl
theorem t4_b : byt Try.prog 4 = some 1 := by kernel_rfl
theorem t4_g : tag Try.prog 4 = 1 := by kernel_rfl
theorem t4_z : zer Try.prog 4 = some (.bool false) := by kernel_rfl
theorem t4_e : elt Try.prog 4 = none := by kernel_rfl
theorem t5_k : knd Try.prog 5 = some false := by kernel_rfl
theorem t5_s : siz Try.prog 5 = some 1 := by kernel_rfl
theorem t5_b : byt Try.prog 5 = some 1 := by kernel_rfl
theorem t5_g : tag Try.prog 5 = 6 := by kernel_rfl
theorem t5_z : zer Try.prog 5 = some (.int .u8 0) := by kernel_rfl
theorem t5_e : elt Try.prog 5 = none := by kernel_rfl
theorem t6_k : knd Try.prog 6 = some false := by kernel_rfl
theorem t6_s : siz Try.prog 6 = some 1 := by kernel_rfl
theorem t6_b : byt Try.prog 6 = some 1 := by kernel_rfl
theorem t6_g : tag Try.prog 6 = 6 := by kernel_rfl
theorem t6_z : zer Try.prog 6 = some (.int .u8 0) := by kernel_rfl
theorem t6_e : elt Try.prog 6 = none := by kernel_rfl
theorem t7_k : knd Try.prog 7 = some true := by kernel_rfl
theorem t7_s : siz Try.prog 7 = some 4 := by kernel_rfl
theorem t7_b : byt Try.prog 7 = some 24 := by kernel_rfl
theorem t7_g : tag Try.prog 7 = 0 := by kernel_rfl
theorem t7_z : zer Try.prog 7 = some (.agg #[(.int .i64 0), (.int .i64 0), (.bool false), (.int .u8 0)]) := by kernel_rfl
theorem t7_e : elt Try.prog 7 = none := by kernel_rfl
theorem t7_f0 : fofs Try.prog 7 0 = some 0 := by kernel_rfl
theorem t7_f1 : fofs Try.prog 7 1 = some 1 := by kernel_rfl
theorem t7_f2 : fofs Try.prog 7 2 = some 2 := by kernel_rfl
theorem t7_f3 : fofs Try.prog 7 3 = some 3 := by kernel_rfl
theorem t8_k : knd Try.prog 8 = some true := by kernel_rfl
theorem t8_s : siz Try.prog 8 = some 4 := by kernel_rfl
theorem t8_b : byt Try.prog 8 = some 24 := by kernel_rfl
theorem t8_g : tag Try.prog 8 = 0 := by kernel_rfl
theorem t8_z : zer Try.prog 8 = some (.agg #[(.int .i64 0), (.int .i64 0), (.bool false), (.int .u8 0)]) := by kernel_rfl
theorem t8_e : elt Try.prog 8 = none := by kernel_rfl
theorem t8_f0 : fofs Try.prog 8 0 = some 0 := by kernel_rfl
theorem t8_f1 : fofs Try.prog 8 1 = some 1 := by kernel_rfl
theorem t8_f2 : fofs Try.prog 8 2 = some 2 := by kernel_rfl
theorem t8_f3 : fofs Try.prog 8 3 = some 3 := by kernel_rfl
theorem t9_k : knd Try.prog 9 = some false := by kernel_rfl
theorem t9_s : siz Try.prog 9 = some 1 := by kernel_rfl
theorem t9_b : byt Try.prog 9 = some 16 := by kernel_rfl
theorem t9_g : tag Try.prog 9 = 4 := by kernel_rfl
theorem t9_z : zer Try.prog 9 = some (.string ByteArray.empty) := by kernel_rfl
theorem t9_e : elt Try.prog 9 = none := by kernel_rfl
theorem t10_k : knd Try.prog 10 = some false := by kernel_rfl
theorem t10_s : siz Try.prog 10 = some 1 := by kernel_rfl
theorem t10_b : byt Try.prog 10 = some 16 := by kernel_rfl
theorem t10_g : tag Try.prog 10 = 4 := by kernel_rfl
theorem t10_z : zer Try.prog 10 = some (.string ByteArray.empty) := by kernel_rfl
theorem t10_e : elt Try.prog 10 = none := by kernel_rfl
theorem t11_k : knd Try.prog 11 = some false := by kernel_rfl
theorem t11_s : siz Try.prog 11 = some 1 := by kernel_rfl
theorem t11_b : byt Try.prog 11 = some 16 := by kernel_rfl
theorem t11_g : tag Try.prog 11 = 4 := by kernel_rfl
theorem t11_z : zer Try.prog 11 = some (.string ByteArray.empty) := by kernel_rfl
theorem t11_e : elt Try.prog 11 = none := by kernel_rfl
theorem t12_k : knd Try.prog 12 = some false := by kernel_rfl
theorem t12_s : siz Try.prog 12 = some 1 := by kernel_rfl
theorem t12_b : byt Try.prog 12 = some 8 := by kernel_rfl
theorem t12_g : tag Try.prog 12 = 6 := by kernel_rfl
theorem t12_z : zer Try.prog 12 = some (.int .u64 0) := by kernel_rfl
theorem t12_e : elt Try.prog 12 = none := by kernel_rfl
theorem t13_k : knd Try.prog 13 = some true := by kernel_rfl
theorem t13_s : siz Try.prog 13 = some 2 := by kernel_rfl
theorem t13_b : byt Try.prog 13 = some 24 := by kernel_rfl
theorem t13_g : tag Try.prog 13 = 0 := by kernel_rfl
theorem t13_z : zer Try.prog 13 = some (.agg #[(.string ByteArray.empty), (.int .u64 0)]) := by kernel_rfl
theorem t13_e : elt Try.prog 13 = none := by kernel_rfl
theorem t13_f0 : fofs Try.prog 13 0 = some 0 := by kernel_rfl
theorem t13_f1 : fofs Try.prog 13 1 = some 1 := by kernel_rfl
theorem t14_k : knd Try.prog 14 = some true := by kernel_rfl
theorem t14_s : siz Try.prog 14 = some 2 := by kernel_rfl
theorem t14_b : byt Try.prog 14 = some 24 := by kernel_rfl
theorem t14_g : tag Try.prog 14 = 0 := by kernel_rfl
theorem t14_z : zer Try.prog 14 = some (.agg #[(.string ByteArray.empty), (.int .u64 0)]) := by kernel_rfl
theorem t14_e : elt Try.prog 14 = none := by kernel_rfl
theorem t14_f0 : fofs Try.prog 14 0 = some 0 := by kernel_rfl
theorem t14_f1 : fofs Try.prog 14 1 = some 1 := by kernel_rfl
theorem t15_k : knd Try.prog 15 = some false := by kernel_rfl
theorem t15_s : siz Try.prog 15 = some 1 := by kernel_rfl
theorem t15_b : byt Try.prog 15 = some 8 := by kernel_rfl
theorem t15_g : tag Try.prog 15 = 2 := by kernel_rfl
theorem t15_z : zer Try.prog 15 = some (.pointer none) := by kernel_rfl
theorem t15_e : elt Try.prog 15 = none := by kernel_rfl
theorem t16_k : knd Try.prog 16 = some false := by kernel_rfl
theorem t16_s : siz Try.prog 16 = some 1 := by kernel_rfl
theorem t16_b : byt Try.prog 16 = some 8 := by kernel_rfl
theorem t16_g : tag Try.prog 16 = 2 := by kernel_rfl
theorem t16_z : zer Try.prog 16 = some (.pointer none) := by kernel_rfl
theorem t16_e : elt Try.prog 16 = none := by kernel_rfl
theorem t17_k : knd Try.prog 17 = some false := by kernel_rfl
theorem t17_s : siz Try.prog 17 = some 1 := by kernel_rfl
theorem t17_b : byt Try.prog 17 = some 8 := by kernel_rfl
theorem t17_g : tag Try.prog 17 = 2 := by kernel_rfl
theorem t17_z : zer Try.prog 17 = some (.pointer none) := by kernel_rfl
theorem t17_e : elt Try.prog 17 = none := by kernel_rfl
theorem t18_k : knd Try.prog 18 = some true := by kernel_rfl
theorem t18_s : siz Try.prog 18 = some 1 := by kernel_rfl
theorem t18_b : byt Try.prog 18 = some 8 := by kernel_rfl
theorem t18_g : tag Try.prog 18 = 0 := by kernel_rfl
theorem t18_z : zer Try.prog 18 = some (.agg #[(.pointer none)]) := by kernel_rfl
theorem t18_e : elt Try.prog 18 = none := by kernel_rfl
theorem t18_f0 : fofs Try.prog 18 0 = some 0 := by kernel_rfl
theorem t19_k : knd Try.prog 19 = some true := by kernel_rfl
theorem t19_s : siz Try.prog 19 = some 1 := by kernel_rfl
theorem t19_b : byt Try.prog 19 = some 8 := by kernel_rfl
theorem t19_g : tag Try.prog 19 = 0 := by kernel_rfl
theorem t19_z : zer Try.prog 19 = some (.agg #[(.pointer none)]) := by kernel_rfl
theorem t19_e : elt Try.prog 19 = none := by kernel_rfl
theorem t19_f0 : fofs Try.prog 19 0 = some 0 := by kernel_rfl
theorem t20_k : knd Try.prog 20 = some false := by kernel_rfl
theorem t20_s : siz Try.prog 20 = some 1 := by kernel_rfl
theorem t20_b : byt Try.prog 20 = some 16 := by kernel_rfl
theorem t20_g : tag Try.prog 20 = 0 := by kernel_rfl
theorem t20_z : zer Try.prog 20 = some .nilIface := by kernel_rfl
theorem t20_e : elt Try.prog 20 = none := by kernel_rfl
theorem t21_k : knd Try.prog 21 = some false := by kernel_rfl
theorem t21_s : siz Try.prog 21 = some 1 := by kernel_rfl
theorem t21_b : byt Try.prog 21 = some 4 := by kernel_rfl
theorem t21_g : tag Try.prog 21 = 6 := by kernel_rfl
theorem t21_z : zer Try.prog 21 = some (.int .i32 0) := by kernel_rfl
theorem t21_e : elt Try.prog 21 = none := by kernel_rfl
theorem t22_k : knd Try.prog 22 = some false := by kernel_rfl
theorem t22_s : siz Try.prog 22 = some 1 := by kernel_rfl
theorem t22_b : byt Try.prog 22 = some 24 := by kernel_rfl
theorem t22_g : tag Try.prog 22 = 3 := by kernel_rfl
theorem t22_z : zer Try.prog 22 = some (.slice none 0 0) := by kernel_rfl
theorem t22_e : elt Try.prog 22 = some 38 := by kernel_rfl
theorem t23_k : knd Try.prog 23 = some false := by kernel_rfl
theorem t23_s : siz Try.prog 23 = some 1 := by kernel_rfl
theorem t23_b : byt Try.prog 23 = some 8 := by kernel_rfl
theorem t23_g : tag Try.prog 23 = 7 := by kernel_rfl
theorem t23_z : zer Try.prog 23 = some .nilFunc := by kernel_rfl
theorem t23_e : elt Try.prog 23 = none := by kernel_rfl
theorem t24_k : knd Try.prog 24 = some false := by kernel_rfl
theorem t24_s : siz Try.prog 24 = some 1 := by kernel_rfl
theorem t24_b : byt Try.prog 24 = some 8 := by kernel_rfl
theorem t24_g : tag Try.prog 24 = 7 := by kernel_rfl
theorem t24_z : zer Try.prog 24 = some .nilFunc := by kernel_rfl
theorem t24_e : elt Try.prog 24 = none := by kernel_rfl
theorem t26_k : knd Try.prog 26 = some false := by kernel_rfl
theorem t26_s : siz Try.prog 26 = some 1 := by kernel_rfl
theorem t26_b : byt Try.prog 26 = some 8 := by kernel_rfl
theorem t26_g : tag Try.prog 26 = 7 := by kernel_rfl
theorem t26_z : zer Try.prog 26 = some .nilFunc := by kernel_rfl
theorem t26_e : elt Try.prog 26 = none := by kernel_rfl
theorem t27_k : knd Try.prog 27 = some false := by kernel_rfl
theorem t27_s : siz Try.prog 27 = some 1 := by kernel_rfl
theorem t27_b : byt Try.prog 27 = some 8 := by kernel_rfl
theorem t27_g : tag Try.prog 27 = 2 := by kernel_rfl
theorem t27_z : zer Try.prog 27 = some (.pointer none) := by kernel_rfl
theorem t27_e : elt Try.prog 27 = none := by kernel_rfl
theorem t28_k : knd Try.prog 28 = some false := by kernel_rfl
theorem t28_s : siz Try.prog 28 = some 1 := by kernel_rfl
theorem t28_b : byt Try.prog 28 = some 8 := by kernel_rfl
theorem t28_g : tag Try.prog 28 = 6 := by kernel_rfl
theorem t28_z : zer Try.prog 28 = some (.int .i64 0) := by kernel_rfl
theorem t28_e : elt Try.prog 28 = none := by kernel_rfl
theorem t30_k : knd Try.prog 30 = some false := by kernel_rfl
theorem t30_s : siz Try.prog 30 = some 1 := by kernel_rfl
theorem t30_b : byt Try.prog 30 = some 8 := by kernel_rfl
theorem t30_g : tag Try.prog 30 = 7 := by kernel_rfl
theorem t30_z : zer Try.prog 30 = some .nilFunc := by kernel_rfl
theorem t30_e : elt Try.prog 30 = none := by kernel_rfl
theorem t31_k : knd Try.prog 31 = some false := by kernel_rfl
theorem t31_s : siz Try.prog 31 = some 1 := by kernel_rfl
theorem t31_b : byt Try.prog 31 = some 8 := by kernel_rfl
theorem t31_g : tag Try.prog 31 = 2 := by kernel_rfl
theorem t31_z : zer Try.prog 31 = some (.pointer none) := by kernel_rfl
theorem t31_e : elt Try.prog 31 = none := by kernel_rfl
theorem t33_k : knd Try.prog 33 = some false := by kernel_rfl
theorem t33_s : siz Try.prog 33 = some 1 := by kernel_rfl
theorem t33_b : byt Try.prog 33 = some 8 := by kernel_rfl
theorem t33_g : tag Try.prog 33 = 7 := by kernel_rfl
theorem t33_z : zer Try.prog 33 = some .nilFunc := by kernel_rfl
theorem t33_e : elt Try.prog 33 = none := by kernel_rfl
theorem t34_k : knd Try.prog 34 = some false := by kernel_rfl
theorem t34_s : siz Try.prog 34 = some 1 := by kernel_rfl
theorem t34_b : byt Try.prog 34 = some 24 := by kernel_rfl
theorem t34_g : tag Try.prog 34 = 3 := by kernel_rfl
theorem t34_z : zer Try.prog 34 = some (.slice none 0 0) := by kernel_rfl
theorem t34_e : elt Try.prog 34 = some 46 := by kernel_rfl
theorem t36_k : knd Try.prog 36 = some false := by kernel_rfl
theorem t36_s : siz Try.prog 36 = some 1 := by kernel_rfl
theorem t36_b : byt Try.prog 36 = some 8 := by kernel_rfl
theorem t36_g : tag Try.prog 36 = 7 := by kernel_rfl
theorem t36_z : zer Try.prog 36 = some .nilFunc := by kernel_rfl
theorem t36_e : elt Try.prog 36 = none := by kernel_rfl
theorem t37_k : knd Try.prog 37 = some true := by kernel_rfl
theorem t37_s : siz Try.prog 37 = some 2 := by kernel_rfl
theorem t37_b : byt Try.prog 37 = some 32 := by kernel_rfl
theorem t37_g : tag Try.prog 37 = 0 := by kernel_rfl
theorem t37_z : zer Try.prog 37 = some (.agg #[(.bool false), (.slice none 0 0)]) := by kernel_rfl
theorem t37_e : elt Try.prog 37 = none := by kernel_rfl
theorem t37_f0 : fofs Try.prog 37 0 = some 0 := by kernel_rfl
theorem t37_f1 : fofs Try.prog 37 1 = some 1 := by kernel_rfl
theorem t38_k : knd Try.prog 38 = some true := by kernel_rfl
theorem t38_s : siz Try.prog 38 = some 2 := by kernel_rfl
theorem t38_b : byt Try.prog 38 = some 32 := by kernel_rfl
theorem t38_g : tag Try.prog 38 = 0 := by kernel_rfl
theorem t38_z : zer Try.prog 38 = some (.agg #[(.bool false), (.slice none 0 0)]) := by kernel_rfl
theorem t38_e : elt Try.prog 38 = none := by kernel_rfl
theorem t38_f0 : fofs Try.prog 38 0 = some 0 := by kernel_rfl
theorem t38_f1 : fofs Try.prog 38 1 = some 1 := by kernel_rfl
theorem t39_k : knd Try.prog 39 = some false := by kernel_rfl
theorem t39_s : siz Try.prog 39 = some 1 := by kernel_rfl
theorem t39_b : byt Try.prog 39 = some 8 := by kernel_rfl
theorem t39_g : tag Try.prog 39 = 7 := by kernel_rfl
theorem t39_z : zer Try.prog 39 = some .nilFunc := by kernel_rfl
theorem t39_e : elt Try.prog 39 = none := by kernel_rfl
theorem t40_k : knd Try.prog 40 = some false := by kernel_rfl
theorem t40_s : siz Try.prog 40 = some 1 := by kernel_rfl
theorem t40_b : byt Try.prog 40 = some 8 := by kernel_rfl
theorem t40_g : tag Try.prog 40 = 7 := by kernel_rfl
theorem t40_z : zer Try.prog 40 = some .nilFunc := by kernel_rfl
theorem t40_e : elt Try.prog 40 = none := by kernel_rfl
theorem t41_k : knd Try.prog 41 = some false := by kernel_rfl
theorem t41_s : siz Try.prog 41 = some 1 := by kernel_rfl
theorem t41_b : byt Try.prog 41 = some 8 := by kernel_rfl
theorem t41_g : tag Try.prog 41 = 7 := by kernel_rfl
theorem t41_z : zer Try.prog 41 = some .nilFunc := by kernel_rfl
theorem t41_e : elt Try.prog 41 = none := by kernel_rfl
theorem t42_k : knd Try.prog 42 = some false := by kernel_rfl
theorem t42_s : siz Try.prog 42 = some 1 := by kernel_rfl
theorem t42_b : byt Try.prog 42 = some 8 := by kernel_rfl
theorem t42_g : tag Try.prog 42 = 7 := by kernel_rfl
theorem t42_z : zer Try.prog 42 = some .nilFunc := by kernel_rfl
theorem t42_e : elt Try.prog 42 = none := by kernel_rfl
theorem t43_k : knd Try.prog 43 = some false := by kernel_rfl
theorem t43_s : siz Try.prog 43 = some 1 := by kernel_rfl
theorem t43_b : byt Try.prog 43 = some 8 := by kernel_rfl
theorem t43_g : tag Try.prog 43 = 7 := by kernel_rfl
theorem t43_z : zer Try.prog 43 = some .nilFunc := by kernel_rfl
theorem t43_e : elt Try.prog 43 = none := by kernel_rfl
theorem t44_k : knd Try.prog 44 = some false := by kernel_rfl
theorem t44_s : siz Try.prog 44 = some 1 := by kernel_rfl
theorem t44_b : byt Try.prog 44 = some 8 := by kernel_rfl
theorem t44_g : tag Try.prog 44 = 7 := by kernel_rfl
theorem t44_z : zer Try.prog 44 = some .nilFunc := by kernel_rfl
theorem t44_e : elt Try.prog 44 = none := by kernel_rfl
theorem t45_k : knd Try.prog 45 = some false := by kernel_rfl
theorem t45_s : siz Try.prog 45 = some 1 := by kernel_rfl
theorem t45_b : byt Try.prog 45 = some 8 := by kernel_rfl
theorem t45_g : tag Try.prog 45 = 7 := by kernel_rfl
theorem t45_z : zer Try.prog 45 = some .nilFunc := by kernel_rfl
theorem t45_e : elt Try.prog 45 = none := by kernel_rfl
theorem t46_k : knd Try.prog 46 = some false := by kernel_rfl
theorem t46_s : siz Try.prog 46 = some 1 := by kernel_rfl
theorem t46_b : byt Try.prog 46 = some 24 := by kernel_rfl
theorem t46_g : tag Try.prog 46 = 3 := by kernel_rfl
theorem t46_z : zer Try.prog 46 = some (.slice none 0 0) := by kernel_rfl
theorem t46_e : elt Try.prog 46 = some 5 := by kernel_rfl
theorem t47_k : knd Try.prog 47 = some false := by kernel_rfl
theorem t47_s : siz Try.prog 47 = some 1 := by kernel_rfl
theorem t47_b : byt Try.prog 47 = some 8 := by kernel_rfl
theorem t47_g : tag Try.prog 47 = 7 := by kernel_rfl
theorem t47_z : zer Try.prog 47 = some .nilFunc := by kernel_rfl
theorem t47_e : elt Try.prog 47 = none := by kernel_rfl
theorem t49_k : knd Try.prog 49 = some false := by kernel_rfl
theorem t49_s : siz Try.prog 49 = some 1 := by kernel_rfl
theorem t49_b : byt Try.prog 49 = some 8 := by kernel_rfl
theorem t49_g : tag Try.prog 49 = 7 := by kernel_rfl
theorem t49_z : zer Try.prog 49 = some .nilFunc := by kernel_rfl
theorem t49_e : elt Try.prog 49 = none := by kernel_rfl
theorem t50_k : knd Try.prog 50 = some false := by kernel_rfl
theorem t50_s : siz Try.prog 50 = some 1 := by kernel_rfl
theorem t50_b : byt Try.prog 50 = some 8 := by kernel_rfl
theorem t50_g : tag Try.prog 50 = 7 := by kernel_rfl
theorem t50_z : zer Try.prog 50 = some .nilFunc := by kernel_rfl
theorem t50_e : elt Try.prog 50 = none := by kernel_rfl
theorem t51_k : knd Try.prog 51 = some false := by kernel_rfl
theorem t51_s : siz Try.prog 51 = some 1 := by kernel_rfl
theorem t51_b : byt Try.prog 51 = some 8 := by kernel_rfl
theorem t51_g : tag Try.prog 51 = 7 := by kernel_rfl
theorem t51_z : zer Try.prog 51 = some .nilFunc := by kernel_rfl
theorem t51_e : elt Try.prog 51 = none := by kernel_rfl
theorem t53_k : knd Try.prog 53 = some false := by kernel_rfl
theorem t53_s : siz Try.prog 53 = some 1 := by kernel_rfl
theorem t53_b : byt Try.prog 53 = some 8 := by kernel_rfl
theorem t53_g : tag Try.prog 53 = 7 := by kernel_rfl
theorem t53_z : zer Try.prog 53 = some .nilFunc := by kernel_rfl
theorem t53_e : elt Try.prog 53 = none := by kernel_rfl
theorem t54_k : knd Try.prog 54 = some false := by kernel_rfl
theorem t54_s : siz Try.prog 54 = some 1 := by kernel_rfl
theorem t54_b : byt Try.prog 54 = some 8 := by kernel_rfl
theorem t54_g : tag Try.prog 54 = 7 := by kernel_rfl
theorem t54_z : zer Try.prog 54 = some .nilFunc := by kernel_rfl
theorem t54_e : elt Try.prog 54 = none := by kernel_rfl
theorem t55_k : knd Try.prog 55 = some false := by kernel_rfl
theorem t55_s : siz Try.prog 55 = some 1 := by kernel_rfl
theorem t55_b : byt Try.prog 55 = some 8 := by kernel_rfl
theorem t55_g : tag Try.prog 55 = 7 := by kernel_rfl
theorem t55_z : zer Try.prog 55 = some .nilFunc := by kernel_rfl
theorem t55_e : elt Try.prog 55 = none := by kernel_rfl
theorem t57_k : knd Try.prog 57 = some false := by kernel_rfl
theorem t57_s : siz Try.prog 57 = some 1 := by kernel_rfl
theorem t57_b : byt Try.prog 57 = some 8 := by kernel_rfl
theorem t57_g : tag Try.prog 57 = 7 := by kernel_rfl
theorem t57_z : zer Try.prog 57 = some .nilFunc := by kernel_rfl
theorem t57_e : elt Try.prog 57 = none := by kernel_rfl
theorem t58_k : knd Try.prog 58 = some false := by kernel_rfl
theorem t58_s : siz Try.prog 58 = some 1 := by kernel_rfl
theorem t58_b : byt Try.prog 58 = some 24 := by kernel_rfl
theorem t58_g : tag Try.prog 58 = 3 := by kernel_rfl
theorem t58_z : zer Try.prog 58 = some (.slice none 0 0) := by kernel_rfl
theorem t58_e : elt Try.prog 58 = some 4 := by kernel_rfl
theorem t59_k : knd Try.prog 59 = some false := by kernel_rfl
theorem t59_s : siz Try.prog 59 = some 1 := by kernel_rfl
theorem t59_b : byt Try.prog 59 = some 8 := by kernel_rfl
theorem t59_g : tag Try.prog 59 = 7 := by kernel_rfl
theorem t59_z : zer Try.prog 59 = some .nilFunc := by kernel_rfl
theorem t59_e : elt Try.prog 59 = none := by kernel_rfl
theorem t61_k : knd Try.prog 61 = some false := by kernel_rfl
theorem t61_s : siz Try.prog 61 = some 1 := by kernel_rfl
theorem t61_b : byt Try.prog 61 = some 8 := by kernel_rfl
theorem t61_g : tag Try.prog 61 = 7 := by kernel_rfl
theorem t61_z : zer Try.prog 61 = some .nilFunc := by kernel_rfl
theorem t61_e : elt Try.prog 61 = none := by kernel_rfl
theorem t62_k : knd Try.prog 62 = some false := by kernel_rfl
theorem t62_s : siz Try.prog 62 = some 1 := by kernel_rfl
theorem t62_b : byt Try.prog 62 = some 8 := by kernel_rfl
theorem t62_g : tag Try.prog 62 = 7 := by kernel_rfl
theorem t62_z : zer Try.prog 62 = some .nilFunc := by kernel_rfl
theorem t62_e : elt Try.prog 62 = none := by kernel_rfl
theorem t63_k : knd Try.prog 63 = some false := by kernel_rfl
theorem t63_s : siz Try.prog 63 = some 1 := by kernel_rfl
theorem t63_b : byt Try.prog 63 = some 8 := by kernel_rfl
theorem t63_g : tag Try.prog 63 = 7 := by kernel_rfl
theorem t63_z : zer Try.prog 63 = some .nilFunc := by kernel_rfl
theorem t63_e : elt Try.prog 63 = none := by kernel_rfl
theorem t64_k : knd Try.prog 64 = some false := by kernel_rfl
theorem t64_s : siz Try.prog 64 = some 1 := by kernel_rfl
theorem t64_b : byt Try.prog 64 = some 8 := by kernel_rfl
theorem t64_g : tag Try.prog 64 = 7 := by kernel_rfl
theorem t64_z : zer Try.prog 64 = some .nilFunc := by kernel_rfl
theorem t64_e : elt Try.prog 64 = none := by kernel_rfl
theorem t65_k : knd Try.prog 65 = some false := by kernel_rfl
theorem t65_s : siz Try.prog 65 = some 1 := by kernel_rfl
theorem t65_b : byt Try.prog 65 = some 8 := by kernel_rfl
theorem t65_g : tag Try.prog 65 = 7 := by kernel_rfl
theorem t65_z : zer Try.prog 65 = some .nilFunc := by kernel_rfl
theorem t65_e : elt Try.prog 65 = none := by kernel_rfl
theorem t66_k : knd Try.prog 66 = some false := by kernel_rfl
theorem t66_s : siz Try.prog 66 = some 1 := by kernel_rfl
theorem t66_b : byt Try.prog 66 = some 24 := by kernel_rfl
theorem t66_g : tag Try.prog 66 = 3 := by kernel_rfl
theorem t66_z : zer Try.prog 66 = some (.slice none 0 0) := by kernel_rfl
theorem t66_e : elt Try.prog 66 = some 86 := by kernel_rfl
theorem t67_k : knd Try.prog 67 = some true := by kernel_rfl
theorem t67_s : siz Try.prog 67 = some 6 := by kernel_rfl
theorem t67_b : byt Try.prog 67 = some 72 := by kernel_rfl
theorem t67_g : tag Try.prog 67 = 0 := by kernel_rfl
theorem t67_z : zer Try.prog 67 = some (.agg #[(.int .i64 0), (.slice none 0 0), (.slice none 0 0), (.bool false), (.bool false), (.int .i64 0)]) := by kernel_rfl
theorem t67_e : elt Try.prog 67 = none := by kernel_rfl
theorem t67_f0 : fofs Try.prog 67 0 = some 0 := by kernel_rfl
theorem t67_f1 : fofs Try.prog 67 1 = some 1 := by kernel_rfl
theorem t67_f2 : fofs Try.prog 67 2 = some 2 := by kernel_rfl
theorem t67_f3 : fofs Try.prog 67 3 = some 3 := by kernel_rfl
theorem t67_f4 : fofs Try.prog 67 4 = some 4 := by kernel_rfl
theorem t67_f5 : fofs Try.prog 67 5 = some 5 := by kernel_rfl
theorem t68_k : knd Try.prog 68 = some true := by kernel_rfl
theorem t68_s : siz Try.prog 68 = some 6 := by kernel_rfl
theorem t68_b : byt Try.prog 68 = some 72 := by kernel_rfl
theorem t68_g : tag Try.prog 68 = 0 := by kernel_rfl
theorem t68_z : zer Try.prog 68 = some (.agg #[(.int .i64 0), (.slice none 0 0), (.slice none 0 0), (.bool false), (.bool false), (.int .i64 0)]) := by kernel_rfl
theorem t68_e : elt Try.prog 68 = none := by kernel_rfl
theorem t68_f0 : fofs Try.prog 68 0 = some 0 := by kernel_rfl
theorem t68_f1 : fofs Try.prog 68 1 = some 1 := by kernel_rfl
theorem t68_f2 : fofs Try.prog 68 2 = some 2 := by kernel_rfl
theorem t68_f3 : fofs Try.prog 68 3 = some 3 := by kernel_rfl
theorem t68_f4 : fofs Try.prog 68 4 = some 4 := by kernel_rfl
theorem t68_f5 : fofs Try.prog 68 5 = some 5 := by kernel_rfl
theorem t69_k : knd Try.prog 69 = some true := by kernel_rfl
theorem t69_s : siz Try.prog 69 = some 5 := by kernel_rfl
theorem t69_b : byt Try.prog 69 = some 56 := by kernel_rfl
theorem t69_g : tag Try.prog 69 = 0 := by kernel_rfl
theorem t69_z : zer Try.prog 69 = some (.agg #[(.pointer none), (.int .i64 0), (.int .i64 0), (.slice none 0 0), (.bool false)]) := by kernel_rfl
theorem t69_e : elt Try.prog 69 = none := by kernel_rfl
theorem t69_f0 : fofs Try.prog 69 0 = some 0 := by kernel_rfl
theorem t69_f1 : fofs Try.prog 69 1 = some 1 := by kernel_rfl
theorem t69_f2 : fofs Try.prog 69 2 = some 2 := by kernel_rfl
theorem t69_f3 : fofs Try.prog 69 3 = some 3 := by kernel_rfl
theorem t69_f4 : fofs Try.prog 69 4 = some 4 := by kernel_rfl
theorem t70_k : knd Try.prog 70 = some true := by kernel_rfl
theorem t70_s : siz Try.prog 70 = some 5 := by kernel_rfl
theorem t70_b : byt Try.prog 70 = some 56 := by kernel_rfl
theorem t70_g : tag Try.prog 70 = 0 := by kernel_rfl
theorem t70_z : zer Try.prog 70 = some (.agg #[(.pointer none), (.int .i64 0), (.int .i64 0), (.slice none 0 0), (.bool false)]) := by kernel_rfl
theorem t70_e : elt Try.prog 70 = none := by kernel_rfl
theorem t70_f0 : fofs Try.prog 70 0 = some 0 := by kernel_rfl
theorem t70_f1 : fofs Try.prog 70 1 = some 1 := by kernel_rfl
theorem t70_f2 : fofs Try.prog 70 2 = some 2 := by kernel_rfl
theorem t70_f3 : fofs Try.prog 70 3 = some 3 := by kernel_rfl
theorem t70_f4 : fofs Try.prog 70 4 = some 4 := by kernel_rfl
theorem t72_k : knd Try.prog 72 = some false := by kernel_rfl
theorem t72_s : siz Try.prog 72 = some 1 := by kernel_rfl
theorem t72_b : byt Try.prog 72 = some 8 := by kernel_rfl
theorem t72_g : tag Try.prog 72 = 7 := by kernel_rfl
theorem t72_z : zer Try.prog 72 = some .nilFunc := by kernel_rfl
theorem t72_e : elt Try.prog 72 = none := by kernel_rfl
theorem t73_k : knd Try.prog 73 = some false := by kernel_rfl
theorem t73_s : siz Try.prog 73 = some 1 := by kernel_rfl
theorem t73_b : byt Try.prog 73 = some 8 := by kernel_rfl
theorem t73_g : tag Try.prog 73 = 7 := by kernel_rfl
theorem t73_z : zer Try.prog 73 = some .nilFunc := by kernel_rfl
theorem t73_e : elt Try.prog 73 = none := by kernel_rfl
theorem t74_k : knd Try.prog 74 = some false := by kernel_rfl
theorem t74_s : siz Try.prog 74 = some 1 := by kernel_rfl
theorem t74_b : byt Try.prog 74 = some 8 := by kernel_rfl
theorem t74_g : tag Try.prog 74 = 7 := by kernel_rfl
theorem t74_z : zer Try.prog 74 = some .nilFunc := by kernel_rfl
theorem t74_e : elt Try.prog 74 = none := by kernel_rfl
theorem t75_k : knd Try.prog 75 = some false := by kernel_rfl
theorem t75_s : siz Try.prog 75 = some 1 := by kernel_rfl
theorem t75_b : byt Try.prog 75 = some 8 := by kernel_rfl
theorem t75_g : tag Try.prog 75 = 7 := by kernel_rfl
theorem t75_z : zer Try.prog 75 = some .nilFunc := by kernel_rfl
theorem t75_e : elt Try.prog 75 = none := by kernel_rfl
theorem t76_k : knd Try.prog 76 = some false := by kernel_rfl
theorem t76_s : siz Try.prog 76 = some 1 := by kernel_rfl
theorem t76_b : byt Try.prog 76 = some 8 := by kernel_rfl
theorem t76_g : tag Try.prog 76 = 7 := by kernel_rfl
theorem t76_z : zer Try.prog 76 = some .nilFunc := by kernel_rfl
theorem t76_e : elt Try.prog 76 = none := by kernel_rfl
theorem t77_k : knd Try.prog 77 = some false := by kernel_rfl
theorem t77_s : siz Try.prog 77 = some 1 := by kernel_rfl
theorem t77_b : byt Try.prog 77 = some 8 := by kernel_rfl
theorem t77_g : tag Try.prog 77 = 6 := by kernel_rfl
theorem t77_z : zer Try.prog 77 = some (.int .u64 0) := by kernel_rfl
theorem t77_e : elt Try.prog 77 = none := by kernel_rfl
theorem t78_k : knd Try.prog 78 = some true := by kernel_rfl
theorem t78_s : siz Try.prog 78 = some 1 := by kernel_rfl
theorem t78_b : byt Try.prog 78 = some 24 := by kernel_rfl
theorem t78_g : tag Try.prog 78 = 0 := by kernel_rfl
theorem t78_z : zer Try.prog 78 = some (.agg #[(.slice none 0 0)]) := by kernel_rfl
theorem t78_e : elt Try.prog 78 = none := by kernel_rfl
theorem t78_f0 : fofs Try.prog 78 0 = some 0 := by kernel_rfl
theorem t79_k : knd Try.prog 79 = some true := by kernel_rfl
theorem t79_s : siz Try.prog 79 = some 1 := by kernel_rfl
theorem t79_b : byt Try.prog 79 = some 24 := by kernel_rfl
theorem t79_g : tag Try.prog 79 = 0 := by kernel_rfl
theorem t79_z : zer Try.prog 79 = some (.agg #[(.slice none 0 0)]) := by kernel_rfl
theorem t79_e : elt Try.prog 79 = none := by kernel_rfl
theorem t79_f0 : fofs Try.prog 79 0 = some 0 := by kernel_rfl
theorem t80_k : knd Try.prog 80 = some false := by kernel_rfl
theorem t80_s : siz Try.prog 80 = some 1 := by kernel_rfl
theorem t80_b : byt Try.prog 80 = some 8 := by kernel_rfl
theorem t80_g : tag Try.prog 80 = 7 := by kernel_rfl
theorem t80_z : zer Try.prog 80 = some .nilFunc := by kernel_rfl
theorem t80_e : elt Try.prog 80 = none := by kernel_rfl
theorem t81_k : knd Try.prog 81 = some false := by kernel_rfl
theorem t81_s : siz Try.prog 81 = some 1 := by kernel_rfl
theorem t81_b : byt Try.prog 81 = some 8 := by kernel_rfl
theorem t81_g : tag Try.prog 81 = 7 := by kernel_rfl
theorem t81_z : zer Try.prog 81 = some .nilFunc := by kernel_rfl
theorem t81_e : elt Try.prog 81 = none := by kernel_rfl
theorem t82_k : knd Try.prog 82 = some false := by kernel_rfl
theorem t82_s : siz Try.prog 82 = some 1 := by kernel_rfl
theorem t82_b : byt Try.prog 82 = some 8 := by kernel_rfl
theorem t82_g : tag Try.prog 82 = 7 := by kernel_rfl
theorem t82_z : zer Try.prog 82 = some .nilFunc := by kernel_rfl
theorem t82_e : elt Try.prog 82 = none := by kernel_rfl
theorem t83_k : knd Try.prog 83 = some false := by kernel_rfl
theorem t83_s : siz Try.prog 83 = some 1 := by kernel_rfl
theorem t83_b : byt Try.prog 83 = some 8 := by kernel_rfl
theorem t83_g : tag Try.prog 83 = 7 := by kernel_rfl
theorem t83_z : zer Try.prog 83 = some .nilFunc := by kernel_rfl
theorem t83_e : elt Try.prog 83 = none := by kernel_rfl
theorem t84_k : knd Try.prog 84 = some false := by kernel_rfl
theorem t84_s : siz Try.prog 84 = some 1 := by kernel_rfl
theorem t84_b : byt Try.prog 84 = some 8 := by kernel_rfl
theorem t84_g : tag Try.prog 84 = 7 := by kernel_rfl
theorem t84_z : zer Try.prog 84 = some .nilFunc := by kernel_rfl
theorem t84_e : elt Try.prog 84 = none := by kernel_rfl
theorem t85_k : knd Try.prog 85 = some true := by kernel_rfl
theorem t85_s : siz Try.prog 85 = some 2 := by kernel_rfl
theorem t85_b : byt Try.prog 85 = some 32 := by kernel_rfl
theorem t85_g : tag Try.prog 85 = 0 := by kernel_rfl
theorem t85_z : zer Try.prog 85 = some (.agg #[(.int .i64 0), (.slice none 0 0)]) := by kernel_rfl
theorem t85_e : elt Try.prog 85 = none := by kernel_rfl
theorem t85_f0 : fofs Try.prog 85 0 = some 0 := by kernel_rfl
theorem t85_f1 : fofs Try.prog 85 1 = some 1 := by kernel_rfl
theorem t86_k : knd Try.prog 86 = some true := by kernel_rfl
theorem t86_s : siz Try.prog 86 = some 2 := by kernel_rfl
theorem t86_b : byt Try.prog 86 = some 32 := by kernel_rfl
theorem t86_g : tag Try.prog 86 = 0 := by kernel_rfl
theorem t86_z : zer Try.prog 86 = some (.agg #[(.int .i64 0), (.slice none 0 0)]) := by kernel_rfl
theorem t86_e : elt Try.prog 86 = none := by kernel_rfl
theorem t86_f0 : fofs Try.prog 86 0 = some 0 := by kernel_rfl
theorem t86_f1 : fofs Try.prog 86 1 = some 1 := by kernel_rfl
theorem t87_k : knd Try.prog 87 = some false := by kernel_rfl
theorem t87_s : siz Try.prog 87 = some 1 := by kernel_rfl
theorem t87_b : byt Try.prog 87 = some 8 := by kernel_rfl
theorem t87_g : tag Try.prog 87 = 7 := by kernel_rfl
theorem t87_z : zer Try.prog 87 = some .nilFunc := by kernel_rfl
theorem t87_e : elt Try.prog 87 = none := by kernel_rfl
theorem t88_k : knd Try.prog 88 = some false := by kernel_rfl
theorem t88_s : siz Try.prog 88 = some 1 := by kernel_rfl
theorem t88_b : byt Try.prog 88 = some 8 := by kernel_rfl
theorem t88_g : tag Try.prog 88 = 7 := by kernel_rfl
theorem t88_z : zer Try.prog 88 = some .nilFunc := by kernel_rfl
theorem t88_e : elt Try.prog 88 = none := by kernel_rfl
theorem t89_k : knd Try.prog 89 = some false := by kernel_rfl
theorem t89_s : siz Try.prog 89 = some 1 := by kernel_rfl
theorem t89_b : byt Try.prog 89 = some 8 := by kernel_rfl
theorem t89_g : tag Try.prog 89 = 2 := by kernel_rfl
theorem t89_z : zer Try.prog 89 = some (.pointer none) := by kernel_rfl
theorem t89_e : elt Try.prog 89 = none := by kernel_rfl
theorem t90_k : knd Try.prog 90 = some true := by kernel_rfl
theorem t90_s : siz Try.prog 90 = some 4 := by kernel_rfl
theorem t90_b : byt Try.prog 90 = some 48 := by kernel_rfl
theorem t90_g : tag Try.prog 90 = 0 := by kernel_rfl
theorem t90_z : zer Try.prog 90 = some (.agg #[(.slice none 0 0), (.int .i64 0), (.int .i64 0), (.bool false)]) := by kernel_rfl
theorem t90_e : elt Try.prog 90 = none := by kernel_rfl
theorem t90_f0 : fofs Try.prog 90 0 = some 0 := by kernel_rfl
theorem t90_f1 : fofs Try.prog 90 1 = some 1 := by kernel_rfl
theorem t90_f2 : fofs Try.prog 90 2 = some 2 := by kernel_rfl
theorem t90_f3 : fofs Try.prog 90 3 = some 3 := by kernel_rfl
theorem t91_k : knd Try.prog 91 = some true := by kernel_rfl
theorem t91_s : siz Try.prog 91 = some 4 := by kernel_rfl
theorem t91_b : byt Try.prog 91 = some 48 := by kernel_rfl
theorem t91_g : tag Try.prog 91 = 0 := by kernel_rfl
theorem t91_z : zer Try.prog 91 = some (.agg #[(.slice none 0 0), (.int .i64 0), (.int .i64 0), (.bool false)]) := by kernel_rfl
theorem t91_e : elt Try.prog 91 = none := by kernel_rfl
theorem t91_f0 : fofs Try.prog 91 0 = some 0 := by kernel_rfl
theorem t91_f1 : fofs Try.prog 91 1 = some 1 := by kernel_rfl
theorem t91_f2 : fofs Try.prog 91 2 = some 2 := by kernel_rfl
theorem t91_f3 : fofs Try.prog 91 3 = some 3 := by kernel_rfl
theorem t92_k : knd Try.prog 92 = some false := by kernel_rfl
theorem t92_s : siz Try.prog 92 = some 1 := by kernel_rfl
theorem t92_b : byt Try.prog 92 = some 8 := by kernel_rfl
theorem t92_g : tag Try.prog 92 = 7 := by kernel_rfl
theorem t92_z : zer Try.prog 92 = some .nilFunc := by kernel_rfl
theorem t92_e : elt Try.prog 92 = none := by kernel_rfl
theorem t93_k : knd Try.prog 93 = some false := by kernel_rfl
theorem t93_s : siz Try.prog 93 = some 1 := by kernel_rfl
theorem t93_b : byt Try.prog 93 = some 8 := by kernel_rfl
theorem t93_g : tag Try.prog 93 = 7 := by kernel_rfl
theorem t93_z : zer Try.prog 93 = some .nilFunc := by kernel_rfl
theorem t93_e : elt Try.prog 93 = none := by kernel_rfl
theorem t94_k : knd Try.prog 94 = some false := by kernel_rfl
theorem t94_s : siz Try.prog 94 = some 1 := by kernel_rfl
theorem t94_b : byt Try.prog 94 = some 8 := by kernel_rfl
theorem t94_g : tag Try.prog 94 = 7 := by kernel_rfl
theorem t94_z : zer Try.prog 94 = some .nilFunc := by kernel_rfl
theorem t94_e : elt Try.prog 94 = none := by kernel_rfl
theorem t95_k : knd Try.prog 95 = some false := by kernel_rfl
theorem t95_s : siz Try.prog 95 = some 1 := by kernel_rfl
theorem t95_b : byt Try.prog 95 = some 8 := by kernel_rfl
theorem t95_g : tag Try.prog 95 = 2 := by kernel_rfl
theorem t95_z : zer Try.prog 95 = some (.pointer none) := by kernel_rfl
theorem t95_e : elt Try.prog 95 = none := by kernel_rfl
theorem t96_k : knd Try.prog 96 = some false := by kernel_rfl
theorem t96_s : siz Try.prog 96 = some 1 := by kernel_rfl
theorem t96_b : byt Try.prog 96 = some 8 := by kernel_rfl
theorem t96_g : tag Try.prog 96 = 7 := by kernel_rfl
theorem t96_z : zer Try.prog 96 = some .nilFunc := by kernel_rfl
theorem t96_e : elt Try.prog 96 = none := by kernel_rfl
theorem t97_k : knd Try.prog 97 = some false := by kernel_rfl
theorem t97_s : siz Try.prog 97 = some 1 := by kernel_rfl
theorem t97_b : byt Try.prog 97 = some 8 := by kernel_rfl
theorem t97_g : tag Try.prog 97 = 7 := by kernel_rfl
theorem t97_z : zer Try.prog 97 = some .nilFunc := by kernel_rfl
theorem t97_e : elt Try.prog 97 = none := by kernel_rfl
theorem t98_k : knd Try.prog 98 = some false := by kernel_rfl
theorem t98_s : siz Try.prog 98 = some 1 := by kernel_rfl
theorem t98_b : byt Try.prog 98 = some 8 := by kernel_rfl
theorem t98_g : tag Try.prog 98 = 2 := by kernel_rfl
theorem t98_z : zer Try.prog 98 = some (.pointer none) := by kernel_rfl
theorem t98_e : elt Try.prog 98 = none := by kernel_rfl
theorem t99_k : knd Try.prog 99 = some false := by kernel_rfl
theorem t99_s : siz Try.prog 99 = some 1 := by kernel_rfl
theorem t99_b : byt Try.prog 99 = some 8 := by kernel_rfl
theorem t99_g : tag Try.prog 99 = 7 := by kernel_rfl
theorem t99_z : zer Try.prog 99 = some .nilFunc := by kernel_rfl
theorem t99_e : elt Try.prog 99 = none := by kernel_rfl
theorem t100_k : knd Try.prog 100 = some false := by kernel_rfl
theorem t100_s : siz Try.prog 100 = some 1 := by kernel_rfl
theorem t100_b : byt Try.prog 100 = some 8 := by kernel_rfl
theorem t100_g : tag Try.prog 100 = 7 := by kernel_rfl
theorem t100_z : zer Try.prog 100 = some .nilFunc := by kernel_rfl
theorem t100_e : elt Try.prog 100 = none := by kernel_rfl
theorem t101_k : knd Try.prog 101 = some false := by kernel_rfl
theorem t101_s : siz Try.prog 101 = some 1 := by kernel_rfl
theorem t101_b : byt Try.prog 101 = some 8 := by kernel_rfl
theorem t101_g : tag Try.prog 101 = 5 := by kernel_rfl
theorem t101_z : zer Try.prog 101 = some (.map none) := by kernel_rfl
theorem t101_e : elt Try.prog 101 = none := by kernel_rfl
theorem t103_k : knd Try.prog 103 = some false := by kernel_rfl
theorem t103_s : siz Try.prog 103 = some 1 := by kernel_rfl
theorem t103_b : byt Try.prog 103 = some 8 := by kernel_rfl
theorem t103_g : tag Try.prog 103 = 7 := by kernel_rfl
theorem t103_z : zer Try.prog 103 = some .nilFunc := by kernel_rfl
theorem t103_e : elt Try.prog 103 = none := by kernel_rfl
theorem t104_k : knd Try.prog 104 = some true := by kernel_rfl
theorem t104_s : siz Try.prog 104 = some 4 := by kernel_rfl
theorem t104_b : byt Try.prog 104 = some 48 := by kernel_rfl
theorem t104_g : tag Try.prog 104 = 0 := by kernel_rfl
theorem t104_z : zer Try.prog 104 = some (.agg #[(.slice none 0 0), (.int .i64 0), (.int .i64 0), (.int .i64 0)]) := by kernel_rfl
theorem t104_e : elt Try.prog 104 = none := by kernel_rfl
theorem t104_f0 : fofs Try.prog 104 0 = some 0 := by kernel_rfl
theorem t104_f1 : fofs Try.prog 104 1 = some 1 := by kernel_rfl
theorem t104_f2 : fofs Try.prog 104 2 = some 2 := by kernel_rfl
theorem t104_f3 : fofs Try.prog 104 3 = some 3 := by kernel_rfl
theorem t105_k : knd Try.prog 105 = some true := by kernel_rfl
theorem t105_s : siz Try.prog 105 = some 4 := by kernel_rfl
theorem t105_b : byt Try.prog 105 = some 48 := by kernel_rfl
theorem t105_g : tag Try.prog 105 = 0 := by kernel_rfl
theorem t105_z : zer Try.prog 105 = some (.agg #[(.slice none 0 0), (.int .i64 0), (.int .i64 0), (.int .i64 0)]) := by kernel_rfl
theorem t105_e : elt Try.prog 105 = none := by kernel_rfl
theorem t105_f0 : fofs Try.prog 105 0 = some 0 := by kernel_rfl
theorem t105_f1 : fofs Try.prog 105 1 = some 1 := by kernel_rfl
theorem t105_f2 : fofs Try.prog 105 2 = some 2 := by kernel_rfl
theorem t105_f3 : fofs Try.prog 105 3 = some 3 := by kernel_rfl
theorem t106_k : knd Try.prog 106 = some false := by kernel_rfl
theorem t106_s : siz Try.prog 106 = some 1 := by kernel_rfl
theorem t106_b : byt Try.prog 106 = some 8 := by kernel_rfl
theorem t106_g : tag Try.prog 106 = 7 := by kernel_rfl
theorem t106_z : zer Try.prog 106 = some .nilFunc := by kernel_rfl
theorem t106_e : elt Try.prog 106 = none := by kernel_rfl
theorem t107_k : knd Try.prog 107 = some false := by kernel_rfl
theorem t107_s : siz Try.prog 107 = some 1 := by kernel_rfl
theorem t107_b : byt Try.prog 107 = some 8 := by kernel_rfl
theorem t107_g : tag Try.prog 107 = 6 := by kernel_rfl
theorem t107_z : zer Try.prog 107 = some (.int .u64 0) := by kernel_rfl
theorem t107_e : elt Try.prog 107 = none := by kernel_rfl
theorem t108_k : knd Try.prog 108 = some true := by kernel_rfl
theorem t108_s : siz Try.prog 108 = some 4 := by kernel_rfl
theorem t108_b : byt Try.prog 108 = some 40 := by kernel_rfl
theorem t108_g : tag Try.prog 108 = 0 := by kernel_rfl
theorem t108_z : zer Try.prog 108 = some (.agg #[(.pointer none), (.pointer none), (.pointer none), (.string ByteArray.empty)]) := by kernel_rfl
theorem t108_e : elt Try.prog 108 = none := by kernel_rfl
theorem t108_f0 : fofs Try.prog 108 0 = some 0 := by kernel_rfl
theorem t108_f1 : fofs Try.prog 108 1 = some 1 := by kernel_rfl
theorem t108_f2 : fofs Try.prog 108 2 = some 2 := by kernel_rfl
theorem t108_f3 : fofs Try.prog 108 3 = some 3 := by kernel_rfl
theorem t109_k : knd Try.prog 109 = some true := by kernel_rfl
theorem t109_s : siz Try.prog 109 = some 4 := by kernel_rfl
theorem t109_b : byt Try.prog 109 = some 40 := by kernel_rfl
theorem t109_g : tag Try.prog 109 = 0 := by kernel_rfl
theorem t109_z : zer Try.prog 109 = some (.agg #[(.pointer none), (.pointer none), (.pointer none), (.string ByteArray.empty)]) := by kernel_rfl
theorem t109_e : elt Try.prog 109 = none := by kernel_rfl
theorem t109_f0 : fofs Try.prog 109 0 = some 0 := by kernel_rfl
theorem t109_f1 : fofs Try.prog 109 1 = some 1 := by kernel_rfl
theorem t109_f2 : fofs Try.prog 109 2 = some 2 := by kernel_rfl
theorem t109_f3 : fofs Try.prog 109 3 = some 3 := by kernel_rfl
theorem t110_k : knd Try.prog 110 = some true := by kernel_rfl
theorem t110_s : siz Try.prog 110 = some 0 := by kernel_rfl
theorem t110_b : byt Try.prog 110 = some 0 := by kernel_rfl
theorem t110_g : tag Try.prog 110 = 0 := by kernel_rfl
theorem t110_z : zer Try.prog 110 = some (.agg #[]) := by kernel_rfl
theorem t110_e : elt Try.prog 110 = none := by kernel_rfl
theorem t110_a : arrOf Try.prog 110 = some (0, 16) := by kernel_rfl
theorem t111_k : knd Try.prog 111 = some true := by kernel_rfl
theorem t111_s : siz Try.prog 111 = some 0 := by kernel_rfl
theorem t111_b : byt Try.prog 111 = some 0 := by kernel_rfl
theorem t111_g : tag Try.prog 111 = 0 := by kernel_rfl
theorem t111_e : elt Try.prog 111 = none := by kernel_rfl
theorem t112_k : knd Try.prog 112 = some true := by kernel_rfl
theorem t112_s : siz Try.prog 112 = some 0 := by kernel_rfl
theorem t112_b : byt Try.prog 112 = some 0 := by kernel_rfl
theorem t112_g : tag Try.prog 112 = 0 := by kernel_rfl
theorem t112_e : elt Try.prog 112 = none := by kernel_rfl
theorem t113_k : knd Try.prog 113 = some false := by kernel_rfl
theorem t113_s : siz Try.prog 113 = some 1 := by kernel_rfl
theorem t113_b : byt Try.prog 113 = some 4 := by kernel_rfl
theorem t113_g : tag Try.prog 113 = 6 := by kernel_rfl
theorem t113_z : zer Try.prog 113 = some (.int .u32 0) := by kernel_rfl
theorem t113_e : elt Try.prog 113 = none := by kernel_rfl
theorem t114_k : knd Try.prog 114 = some false := by kernel_rfl
theorem t114_s : siz Try.prog 114 = some 1 := by kernel_rfl
theorem t114_b : byt Try.prog 114 = some 1 := by kernel_rfl
theorem t114_g : tag Try.prog 114 = 6 := by kernel_rfl
theorem t114_z : zer Try.prog 114 = some (.int .u8 0) := by kernel_rfl
theorem t114_e : elt Try.prog 114 = none := by kernel_rfl
theorem t115_k : knd Try.prog 115 = some false := by kernel_rfl
theorem t115_s : siz Try.prog 115 = some 1 := by kernel_rfl
theorem t115_b : byt Try.prog 115 = some 1 := by kernel_rfl
theorem t115_g : tag Try.prog 115 = 6 := by kernel_rfl
theorem t115_z : zer Try.prog 115 = some (.int .u8 0) := by kernel_rfl
theorem t115_e : elt Try.prog 115 = none := by kernel_rfl
theorem t116_k : knd Try.prog 116 = some false := by kernel_rfl
theorem t116_s : siz Try.prog 116 = some 1 := by kernel_rfl
theorem t116_b : byt Try.prog 116 = some 8 := by kernel_rfl
theorem t116_g : tag Try.prog 116 = 7 := by kernel_rfl
theorem t116_z : zer Try.prog 116 = some .nilFunc := by kernel_rfl
theorem t116_e : elt Try.prog 116 = none := by kernel_rfl
theorem t117_k : knd Try.prog 117 = some false := by kernel_rfl
theorem t117_s : siz Try.prog 117 = some 1 := by kernel_rfl
theorem t117_b : byt Try.prog 117 = some 8 := by kernel_rfl
theorem t117_g : tag Try.prog 117 = 2 := by kernel_rfl
theorem t117_z : zer Try.prog 117 = some (.pointer none) := by kernel_rfl
theorem t117_e : elt Try.prog 117 = none := by kernel_rfl
theorem t118_k : knd Try.prog 118 = some false := by kernel_rfl
theorem t118_s : siz Try.prog 118 = some 1 := by kernel_rfl
theorem t118_b : byt Try.prog 118 = some 4 := by kernel_rfl
theorem t118_g : tag Try.prog 118 = 6 := by kernel_rfl
theorem t118_z : zer Try.prog 118 = some (.int .i32 0) := by kernel_rfl
theorem t118_e : elt Try.prog 118 = none := by kernel_rfl
theorem t119_k : knd Try.prog 119 = some false := by kernel_rfl
theorem t119_s : siz Try.prog 119 = some 1 := by kernel_rfl
theorem t119_b : byt Try.prog 119 = some 4 := by kernel_rfl
theorem t119_g : tag Try.prog 119 = 6 := by kernel_rfl
theorem t119_z : zer Try.prog 119 = some (.int .i32 0) := by kernel_rfl
theorem t119_e : elt Try.prog 119 = none := by kernel_rfl
theorem t120_k : knd Try.prog 120 = some true := by kernel_rfl
theorem t120_s : siz Try.prog 120 = some 11 := by kernel_rfl
theorem t120_b : byt Try.prog 120 = some 48 := by kernel_rfl
theorem t120_g : tag Try.prog 120 = 0 := by kernel_rfl
theorem t120_z : zer Try.prog 120 = some (.agg #[(.int .u64 0), (.int .u64 0), (.int .u32 0), (.int .u8 0), (.int .u8 0), (.int .u8 0), (.int .u8 0), .nilFunc, (.pointer none), (.int .i32 0), (.int .i32 0)]) := by kernel_rfl
theorem t120_e : elt Try.prog 120 = none := by kernel_rfl
theorem t120_f0 : fofs Try.prog 120 0 = some 0 := by kernel_rfl
theorem t120_f1 : fofs Try.prog 120 1 = some 1 := by kernel_rfl
theorem t120_f2 : fofs Try.prog 120 2 = some 2 := by kernel_rfl
theorem t120_f3 : fofs Try.prog 120 3 = some 3 := by kernel_rfl
theorem t120_f4 : fofs Try.prog 120 4 = some 4 := by kernel_rfl
theorem t120_f5 : fofs Try.prog 120 5 = some 5 := by kernel_rfl
theorem t120_f6 : fofs Try.prog 120 6 = some 6 := by kernel_rfl
theorem t120_f7 : fofs Try.prog 120 7 = some 7 := by kernel_rfl
theorem t120_f8 : fofs Try.prog 120 8 = some 8 := by kernel_rfl
theorem t120_f9 : fofs Try.prog 120 9 = some 9 := by kernel_rfl
theorem t120_f10 : fofs Try.prog 120 10 = some 10 := by kernel_rfl
theorem t121_k : knd Try.prog 121 = some true := by kernel_rfl
theorem t121_s : siz Try.prog 121 = some 11 := by kernel_rfl
theorem t121_b : byt Try.prog 121 = some 48 := by kernel_rfl
theorem t121_g : tag Try.prog 121 = 0 := by kernel_rfl
theorem t121_z : zer Try.prog 121 = some (.agg #[(.int .u64 0), (.int .u64 0), (.int .u32 0), (.int .u8 0), (.int .u8 0), (.int .u8 0), (.int .u8 0), .nilFunc, (.pointer none), (.int .i32 0), (.int .i32 0)]) := by kernel_rfl
theorem t121_e : elt Try.prog 121 = none := by kernel_rfl
theorem t121_f0 : fofs Try.prog 121 0 = some 0 := by kernel_rfl
theorem t121_f1 : fofs Try.prog 121 1 = some 1 := by kernel_rfl
theorem t121_f2 : fofs Try.prog 121 2 = some 2 := by kernel_rfl
theorem t121_f3 : fofs Try.prog 121 3 = some 3 := by kernel_rfl
theorem t121_f4 : fofs Try.prog 121 4 = some 4 := by kernel_rfl
theorem t121_f5 : fofs Try.prog 121 5 = some 5 := by kernel_rfl
theorem t121_f6 : fofs Try.prog 121 6 = some 6 := by kernel_rfl
theorem t121_f7 : fofs Try.prog 121 7 = some 7 := by kernel_rfl
theorem t121_f8 : fofs Try.prog 121 8 = some 8 := by kernel_rfl
theorem t121_f9 : fofs Try.prog 121 9 = some 9 := by kernel_rfl
theorem t121_f10 : fofs Try.prog 121 10 = some 10 := by kernel_rfl
theorem t122_k : knd Try.prog 122 = some false := by kernel_rfl
theorem t122_s : siz Try.prog 122 = some 1 := by kernel_rfl
theorem t122_b : byt Try.prog 122 = some 8 := by kernel_rfl
theorem t122_g : tag Try.prog 122 = 7 := by kernel_rfl
theorem t122_z : zer Try.prog 122 = some .nilFunc := by kernel_rfl
theorem t122_e : elt Try.prog 122 = none := by kernel_rfl
theorem t123_k : knd Try.prog 123 = some false := by kernel_rfl
theorem t123_s : siz Try.prog 123 = some 1 := by kernel_rfl
theorem t123_b : byt Try.prog 123 = some 8 := by kernel_rfl
theorem t123_g : tag Try.prog 123 = 0 := by kernel_rfl
theorem t123_e : elt Try.prog 123 = none := by kernel_rfl
theorem hb3 : hasB Try.prog 3 = true := by kernel_rfl
theorem hb4 : hasB Try.prog 4 = true := by kernel_rfl
theorem hb5 : hasB Try.prog 5 = true := by kernel_rfl
theorem hb6 : hasB Try.prog 6 = true := by kernel_rfl
theorem hb7 : hasB Try.prog 7 = true := by kernel_rfl
theorem hb8 : hasB Try.prog 8 = true := by kernel_rfl
theorem hb9 : hasB Try.prog 9 = true := by kernel_rfl
theorem hb10 : hasB Try.prog 10 = true := by kernel_rfl
theorem hb11 : hasB Try.prog 11 = true := by kernel_rfl
theorem hb12 : hasB Try.prog 12 = true := by kernel_rfl
theorem hb13 : hasB Try.prog 13 = true := by kernel_rfl
theorem hb14 : hasB Try.prog 14 = true := by kernel_rfl
theorem hb15 : hasB Try.prog 15 = true := by kernel_rfl
theorem hb16 : hasB Try.prog 16 = true := by kernel_rfl
theorem hb17 : hasB Try.prog 17 = true := by kernel_rfl
theorem hb18 : hasB Try.prog 18 = true := by kernel_rfl
theorem hb19 : hasB Try.prog 19 = true := by kernel_rfl
theorem hb20 : hasB Try.prog 20 = true := by kernel_rfl
theorem hb21 : hasB Try.prog 21 = true := by kernel_rfl
theorem hb22 : hasB Try.prog 22 = true := by kernel_rfl
theorem hb23 : hasB Try.prog 23 = true := by kernel_rfl
theorem hb24 : hasB Try.prog 24 = true := by kernel_rfl
theorem hb25 : hasB Try.prog 25 = true := by kernel_rfl
theorem hb26 : hasB Try.prog 26 = true := by kernel_rfl
theorem hb27 : hasB Try.prog 27 = true := by kernel_rfl
theorem hb28 : hasB Try.prog 28 = true := by kernel_rfl
theorem hb29 : hasB Try.prog 29 = true := by kernel_rfl
theorem hb30 : hasB Try.prog 30 = true := by kernel_rfl
theorem hb31 : hasB Try.prog 31 = true := by kernel_rfl
theorem hb32 : hasB Try.prog 32 = true := by kernel_rfl
theorem hb33 : hasB Try.prog 33 = true := by kernel_rfl
theorem hb34 : hasB Try.prog 34 = true := by kernel_rfl
theorem hb35 : hasB Try.prog 35 = true := by kernel_rfl
theorem hb36 : hasB Try.prog 36 = true := by kernel_rfl
theorem hb37 : hasB Try.prog 37 = true := by kernel_rfl
theorem hb38 : hasB Try.prog 38 = true := by kernel_rfl
theorem hb39 : hasB Try.prog 39 = true := by kernel_rfl
theorem hb40 : hasB Try.prog 40 = true := by kernel_rfl
theorem hb41 : hasB Try.prog 41 = true := by kernel_rfl
theorem hb42 : hasB Try.prog 42 = true := by kernel_rfl
theorem hb43 : hasB Try.prog 43 = true := by kernel_rfl
theorem hb44 : hasB Try.prog 44 = true := by kernel_rfl
theorem hb45 : hasB Try.prog 45 = true := by kernel_rfl
theorem hb46 : hasB Try.prog 46 = true := by kernel_rfl
theorem hb47 : hasB Try.prog 47 = true := by kernel_rfl
theorem hb48 : hasB Try.prog 48 = true := by kernel_rfl
theorem hb49 : hasB Try.prog 49 = true := by kernel_rfl
theorem hb50 : hasB Try.prog 50 = true := by kernel_rfl
theorem hb51 : hasB Try.prog 51 = true := by kernel_rfl
theorem hb52 : hasB Try.prog 52 = true := by kernel_rfl
theorem hb53 : hasB Try.prog 53 = true := by kernel_rfl
theorem hb54 : hasB Try.prog 54 = true := by kernel_rfl
theorem hb55 : hasB Try.prog 55 = true := by kernel_rfl
theorem hb56 : hasB Try.prog 56 = true := by kernel_rfl
theorem hb57 : hasB Try.prog 57 = true := by kernel_rfl
theorem hb58 : hasB Try.prog 58 = true := by kernel_rfl
theorem hb59 : hasB Try.prog 59 = true := by kernel_rfl
theorem hb60 : hasB Try.prog 60 = true := by kernel_rfl
theorem hb61 : hasB Try.prog 61 = true := by kernel_rfl
theorem hb62 : hasB Try.prog 62 = true := by kernel_rfl
theorem hb63 : hasB Try.prog 63 = true := by kernel_rfl
theorem hb64 : hasB Try.prog 64 = true := by kernel_rfl
theorem hb65 : hasB Try.prog 65 = true := by kernel_rfl
theorem hb66 : hasB Try.prog 66 = true := by kernel_rfl
theorem hb67 : hasB Try.prog 67 = true := by kernel_rfl
theorem hb68 : hasB Try.prog 68 = true := by kernel_rfl
theorem hb69 : hasB Try.prog 69 = true := by kernel_rfl
theorem hb70 : hasB Try.prog 70 = true := by kernel_rfl
theorem hb71 : hasB Try.prog 71 = true := by kernel_rfl
theorem hb72 : hasB Try.prog 72 = true := by kernel_rfl
theorem hb73 : hasB Try.prog 73 = true := by kernel_rfl
theorem hb74 : hasB Try.prog 74 = true := by kernel_rfl
attribute [push_cast] t1_k t1_s t1_b t1_g t1_z t1_e t2_k t2_s t2_b t2_g t2_z t2_e t3_k t3_s t3_b t3_g t3_z t3_e t4_k t4_s t4_b t4_g t4_z t4_e t5_k t5_s t5_b t5_g t5_z t5_e t6_k t6_s t6_b t6_g t6_z t6_e t7_k t7_s t7_b t7_g
attribute [push_cast] t7_z t7_e t7_f0 t7_f1 t7_f2 t7_f3 t8_k t8_s t8_b t8_g t8_z t8_e t8_f0 t8_f1 t8_f2 t8_f3 t9_k t9_s t9_b t9_g t9_z t9_e t10_k t10_s t10_b t10_g t10_z t10_e t11_k t11_s t11_b t11_g t11_z t11_e t12_k t12_s t12_b t12_g t12_z t12_e
attribute [push_cast] t13_k t13_s t13_b t13_g t13_z t13_e t13_f0 t13_f1 t14_k t14_s t14_b t14_g t14_z t14_e t14_f0 t14_f1 t15_k t15_s t15_b t15_g t15_z t15_e t16_k t16_s t16_b t16_g t16_z t16_e t17_k t17_s t17_b t17_g t17_z t17_e t18_k t18_s t18_b t18_g t18_z t18_e
attribute [push_cast] t18_f0 t19_k t19_s t19_b t19_g t19_z t19_e t19_f0 t20_k t20_s t20_b t20_g t20_z t20_e t21_k t21_s t21_b t21_g t21_z t21_e t22_k t22_s t22_b t22_g t22_z t22_e t23_k t23_s t23_b t23_g t23_z t23_e t24_k t24_s t24_b t24_g t24_z t24_e t26_k t26_s
attribute [push_cast] t26_b t26_g t26_z t26_e t27_k t27_s t27_b t27_g t27_z t27_e t28_k t28_s t28_b t28_g t28_z t28_e t30_k t30_s t30_b t30_g t30_z t30_e t31_k t31_s t31_b t31_g t31_z t31_e t33_k t33_s t33_b t33_g t33_z t33_e t34_k t34_s t34_b t34_g t34_z t34_e
attribute [push_cast] t36_k t36_s t36_b t36_g t36_z t36_e t37_k t37_s t37_b t37_g t37_z t37_e t37_f0 t37_f1 t38_k t38_s t38_b t38_g t38_z t38_e t38_f0 t38_f1 t39_k t39_s t39_b t39_g t39_z t39_e t40_k t40_s t40_b t40_g t40_z t40_e t41_k t41_s t41_b t41_g t41_z t41_e
attribute [push_cast] t42_k t42_s t42_b t42_g t42_z t42_e t43_k t43_s t43_b t43_g t43_z t43_e t44_k t44_s t44_b t44_g t44_z t44_e t45_k t45_s t45_b t45_g t45_z t45_e t46_k t46_s t46_b t46_g t46_z t46_e t47_k t47_s t47_b t47_g t47_z t47_e t49_k t49_s t49_b t49_g
attribute [push_cast] t49_z t49_e t50_k t50_s t50_b t50_g t50_z t50_e t51_k t51_s t51_b t51_g t51_z t51_e t53_k t53_s t53_b t53_g t53_z t53_e t54_k t54_s t54_b t54_g t54_z t54_e t55_k t55_s t55_b t55_g t55_z t55_e t57_k t57_s t57_b t57_g t57_z t57_e t58_k t58_s
attribute [push_cast] t58_b t58_g t58_z t58_e t59_k t59_s t59_b t59_g t59_z t59_e t61_k t61_s t61_b t61_g t61_z t61_e t62_k t62_s t62_b t62_g t62_z t62_e t63_k t63_s t63_b t63_g t63_z t63_e t64_k t64_s t64_b t64_g t64_z t64_e t65_k t65_s t65_b t65_g t65_z t65_e
attribute [push_cast] t66_k t66_s t66_b t66_g t66_z t66_e t67_k t67_s t67_b t67_g t67_z t67_e t67_f0 t67_f1 t67_f2 t67_f3 t67_f4 t67_f5 t68_k t68_s t68_b t68_g t68_z t68_e t68_f0 t68_f1 t68_f2 t68_f3 t68_f4 t68_f5 t69_k t69_s t69_b t69_g t69_z t69_e t69_f0 t69_f1 t69_f2 t69_f3
attribute [push_cast] t69_f4 t70_k t70_s t70_b t70_g t70_z t70_e t70_f0 t70_f1 t70_f2 t70_f3 t70_f4 t72_k t72_s t72_b t72_g t72_z t72_e t73_k t73_s t73_b t73_g t73_z t73_e t74_k t74_s t74_b t74_g t74_z t74_e t75_k t75_s t75_b t75_g t75_z t75_e t76_k t76_s t76_b t76_g
attribute [push_cast] t76_z t76_e t77_k t77_s t77_b t77_g t77_z t77_e t78_k t78_s t78_b t78_g t78_z t78_e t78_f0 t79_k t79_s t79_b t79_g t79_z t79_e t79_f0 t80_k t80_s t80_b t80_g t80_z t80_e t81_k t81_s t81_b t81_g t81_z t81_e t82_k t82_s t82_b t82_g t82_z t82_e
attribute [push_cast] t83_k t83_s t83_b t83_g t83_z t83_e t84_k t84_s t84_b t84_g t84_z t84_e t85_k t85_s t85_b t85_g t85_z t85_e t85_f0 t85_f1 t86_k t86_s t86_b t86_g t86_z t86_e t86_f0 t86_f1 t87_k t87_s t87_b t87_g t87_z t87_e t88_k t88_s t88_b t88_g t88_z t88_e
attribute [push_cast] t89_k t89_s t89_b t89_g t89_z t89_e t90_k t90_s t90_b t90_g t90_z t90_e t90_f0 t90_f1 t90_f2 t90_f3 t91_k t91_s t91_b t91_g t91_z t91_e t91_f0 t91_f1 t91_f2 t91_f3 t92_k t92_s t92_b t92_g t92_z t92_e t93_k t93_s t93_b t93_g t93_z t93_e t94_k t94_s
attribute [push_cast] t94_b t94_g t94_z t94_e t95_k t95_s t95_b t95_g t95_z t95_e t96_k t96_s t96_b t96_g t96_z t96_e t97_k t97_s t97_b t97_g t97_z t97_e t98_k t98_s t98_b t98_g t98_z t98_e t99_k t99_s t99_b t99_g t99_z t99_e t100_k t100_s t100_b t100_g t100_z t100_e
attribute [push_cast] t101_k t101_s t101_b t101_g t101_z t101_e t103_k t103_s t103_b t103_g t103_z t103_e t104_k t104_s t104_b t104_g t104_z t104_e t104_f0 t104_f1 t104_f2 t104_f3 t105_k t105_s t105_b t105_g t105_z t105_e t105_f0 t105_f1 t105_f2 t105_f3 t106_k t106_s t106_b t106_g t106_z t106_e t107_k t107_s
attribute [push_cast] t107_b t107_g t107_z t107_e t108_k t108_s t108_b t108_g t108_z t108_e t108_f0 t108_f1 t108_f2 t108_f3 t109_k t109_s t109_b t109_g t109_z t109_e t109_f0 t109_f1 t109_f2 t109_f3 t110_k t110_s t110_b t110_g t110_z t110_e t110_a t111_k t111_s t111_b t111_g t111_e t112_k t112_s t112_b t112_g
attribute [push_cast] t112_e t113_k t113_s t113_b t113_g t113_z t113_e t114_k t114_s t114_b t114_g t114_z t114_e t115_k t115_s t115_b t115_g t115_z t115_e t116_k t116_s t116_b t116_g t116_z t116_e t117_k t117_s t117_b t117_g t117_z t117_e t118_k t118_s t118_b t118_g t118_z t118_e t119_k t119_s t119_b
attribute [push_cast] t119_g t119_z t119_e t120_k t120_s t120_b t120_g t120_z t120_e t120_f0 t120_f1 t120_f2 t120_f3 t120_f4 t120_f5 t120_f6 t120_f7 t120_f8 t120_f9 t120_f10 t121_k t121_s t121_b t121_g t121_z t121_e t121_f0 t121_f1 t121_f2 t121_f3 t121_f4 t121_f5 t121_f6 t121_f7 t121_f8 t121_f9 t121_f10 t122_k t122_s t122_b
attribute [push_cast] t122_g t122_z t122_e t123_k t123_s t123_b t123_g t123_e hb3 hb4 hb5 hb6 hb7 hb8 hb9 hb10 hb11 hb12 hb13 hb14 hb15 hb16 hb17 hb18 hb19 hb20 hb21 hb22 hb23 hb24 hb25 hb26 hb27 hb28 hb29 hb30 hb31 hb32 hb33 hb34
attribute [push_cast] hb35 hb36 hb37 hb38 hb39 hb40 hb41 hb42 hb43 hb44 hb45 hb46 hb47 hb48 hb49 hb50 hb51 hb52 hb53 hb54 hb55 hb56 hb57 hb58 hb59 hb60 hb61 hb62 hb63 hb64 hb65 hb66 hb67 hb68 hb69 hb70 hb71 hb72 hb73 hb74
-- 3 plexus/plexuslaw26.JournalRecords
abbrev pl3 : Plan := (.two (.reg []) (.two (.two (.reg [19]) (.two (.two (.reg [6]) .lf) .lf)) (.two (.reg [7, 8]) (.two (.reg [9, 10]) (.two (.reg [11, 12]) (.two (.two (.reg [44]) (.two (.two (.reg [6]) .lf) .lf)) (.two (.reg [13]) (.two (.two (.reg [14]) (.blk (.lop [13, 14] (.two (.two (.reg [49]) (.two .lf .lf)) (.two (.blk (.two (.reg [15, 16]) (.two (.two (.reg [72]) (.two (.two (.reg [6]) .lf) .lf)) (.two (.reg [13]) (.two (.reg [93]) (.two (.two (.reg [6]) .lf) .lf)))))) (.reg [14])))))) (.two (.reg [6]) .lf)))))))))
theorem ok3 : okFn Try.f3 (Try.f3.body.getD .skip) pl3 3 = true := by kernel_rfl
abbrev rs3 : List Nat := [6]
theorem in3 : Try.prog.inits.idxOf? 3 = none := by kernel_rfl
-- 4 plexus/plexuslaw26.JournalLeft
abbrev pl4 : Plan := (.two (.reg []) (.two (.two (.reg [18]) (.two (.two (.reg [6]) .lf) .lf)) (.two (.reg [7, 8]) (.two (.reg [9, 10]) (.two (.reg [11, 12]) (.two (.two (.reg [43]) (.two (.two (.reg [6]) .lf) .lf)) (.two (.two (.reg [13]) (.blk (.lop [13] (.two (.two (.reg [47]) (.two .lf .lf)) (.two (.blk (.reg [])) (.reg [13])))))) (.two (.reg [14]) (.two (.reg [15]) (.two (.two (.reg [68]) (.two (.two (.reg [6]) .lf) .lf)) (.two (.two (.reg [88]) (.two (.two (.reg [6]) .lf) .lf)) (.two (.two (.reg [90]) (.two (.two (.reg [6]) .lf) .lf)) (.two (.reg [6]) .lf)))))))))))))
theorem ok4 : okFn Try.f4 (Try.f4.body.getD .skip) pl4 3 = true := by kernel_rfl
abbrev rs4 : List Nat := [6]
theorem in4 : Try.prog.inits.idxOf? 4 = none := by kernel_rfl
-- 5 plexus/plexuslaw26.JournalApart
abbrev pl5 : Plan := (.two (.reg []) (.two (.two (.reg [32]) (.two (.two (.reg [8]) .lf) .lf)) (.two (.reg [9, 10]) (.two (.reg [11, 12]) (.two (.two (.reg [49]) (.two (.two (.reg [8]) .lf) .lf)) (.two (.reg [13]) (.two (.reg []) (.two (.two (.reg [67]) (.two (.two (.reg [8]) .lf) .lf)) (.two (.reg [14, 15]) (.two (.reg [16, 17]) (.two (.two (.reg [87]) (.two (.two (.reg [8]) .lf) .lf)) (.two (.reg [18, 19]) (.two (.two (.reg [20]) (.blk (.lop [18, 19, 20] (.two (.two (.reg [99]) (.two .lf .lf)) (.two (.blk (.two (.two (.reg [105]) (.two (.two (.reg []) (.reg [18])) .lf)) (.two (.reg [128]) (.two (.two (.reg []) (.reg [19])) .lf)))) (.reg [20])))))) (.two (.reg [21, 22]) (.two (.reg [23, 24]) (.two (.reg [8]) .lf))))))))))))))))
theorem ok5 : okFn Try.f5 (Try.f5.body.getD .skip) pl5 4 = true := by kernel_rfl
abbrev rs5 : List Nat := [8]
theorem in5 : Try.prog.inits.idxOf? 5 = none := by kernel_rfl
-- 6 plexus/plexuslaw26.JournalOpens
abbrev pl6 : Plan := (.two (.reg []) (.two (.two (.reg [21]) (.two (.two (.reg [8]) .lf) .lf)) (.two (.reg [10]) (.two (.reg [11]) (.two (.reg [12, 13]) (.two (.two (.reg [40]) (.two (.two (.reg [8]) .lf) .lf)) (.two (.reg [1]) (.two (.two (.reg [14]) (.blk (.lop [14] (.two (.two (.reg [53]) (.two .lf .lf)) (.two (.blk (.two (.reg [69]) (.two (.two (.reg [8]) .lf) .lf))) (.reg [14])))))) (.two (.two (.reg [72]) (.two (.two (.reg [8]) .lf) .lf)) (.two (.reg [15, 16]) (.two (.two (.reg [97]) (.two (.two (.reg [8]) .lf) .lf)) (.two (.drw [17, 18] [24] [] []) (.two (.two (.reg [133]) (.two (.two (.reg [8]) .lf) .lf)) (.two (.two (.reg [135]) (.two (.two (.reg [8]) .lf) .lf)) (.two (.reg [8]) .lf)))))))))))))))
theorem ok6 : okFn Try.f6 (Try.f6.body.getD .skip) pl6 4 = true := by kernel_rfl
abbrev rs6 : List Nat := [8]
theorem in6 : Try.prog.inits.idxOf? 6 = none := by kernel_rfl
-- 7 plexus/plexuslaw26.JournalHolds
abbrev pl7 : Plan := (.two (.reg []) (.two (.two (.reg [22]) (.two (.two (.reg [6]) .lf) .lf)) (.two (.reg [7, 8]) (.two (.reg [9, 10]) (.two (.reg [11, 12]) (.two (.two (.reg [47]) (.two (.two (.reg [6]) .lf) .lf)) (.two (.two (.reg [13]) (.blk (.lop [13] (.two (.two (.reg [51]) (.two .lf .lf)) (.two (.blk (.two (.reg []) (.two (.reg []) (.two (.reg [14, 15]) (.two (.reg [16, 17]) (.two (.two (.reg [82]) (.two (.two (.reg [6]) .lf) .lf)) (.two (.reg [18, 19]) (.two (.reg [102]) (.two (.two (.reg [6]) .lf) .lf))))))))) (.reg [13])))))) (.two (.reg [6]) .lf))))))))
theorem ok7 : okFn Try.f7 (Try.f7.body.getD .skip) pl7 3 = true := by kernel_rfl
abbrev rs7 : List Nat := [6]
theorem in7 : Try.prog.inits.idxOf? 7 = none := by kernel_rfl
-- 8 plexus/plexuslaw26.JournalCrash
abbrev pl8 : Plan := (.two (.reg []) (.two (.two (.reg [31]) (.two (.two (.reg [10]) .lf) .lf)) (.two (.reg [11, 12]) (.two (.reg [13, 14]) (.two (.reg [15, 16]) (.two (.two (.reg [56]) (.two (.two (.reg [10]) .lf) .lf)) (.two (.reg []) (.two (.reg [17, 18, 20]) (.two (.two (.reg [75]) (.two (.two (.reg [10]) .lf) .lf)) (.two (.reg []) (.two (.reg [21, 22]) (.two (.two (.reg [86]) (.two (.two (.reg [10]) .lf) .lf)) (.two (.reg [23]) (.two (.reg [10]) .lf))))))))))))))
theorem ok8 : okFn Try.f8 (Try.f8.body.getD .skip) pl8 5 = true := by kernel_rfl
abbrev rs8 : List Nat := [10]
theorem in8 : Try.prog.inits.idxOf? 8 = none := by kernel_rfl
-- 9 plexus/plexuslaw26.JournalAgain
abbrev pl9 : Plan := (.two (.reg []) (.two (.two (.reg [48]) (.two (.two (.reg [16]) .lf) .lf)) (.two (.reg [17, 18]) (.two (.reg [19, 20]) (.two (.reg [21, 22]) (.two (.two (.reg [73]) (.two (.two (.reg [16]) .lf) .lf)) (.two (.reg []) (.two (.reg []) (.two (.reg []) (.two (.reg [23, 24]) (.two (.two (.reg [96]) (.two (.two (.reg [16]) .lf) .lf)) (.two (.reg []) (.two (.reg [25, 26, 28]) (.two (.two (.reg [116]) (.two (.two (.reg [16]) .lf) .lf)) (.two (.reg []) (.two (.reg [29, 30]) (.two (.reg [16]) .lf)))))))))))))))))
theorem ok9 : okFn Try.f9 (Try.f9.body.getD .skip) pl9 8 = true := by kernel_rfl
abbrev rs9 : List Nat := [16]
theorem in9 : Try.prog.inits.idxOf? 9 = none := by kernel_rfl
-- 10 plexus/plexuslaw26.JournalDown
abbrev pl10 : Plan := (.two (.reg [11]) (.two (.two (.reg [38]) (.two (.two (.reg [12]) .lf) .lf)) (.two (.reg [13, 14]) (.two (.reg [15, 16]) (.two (.reg [17, 18]) (.two (.two (.reg [63]) (.two (.two (.reg [12]) .lf) .lf)) (.two (.reg []) (.two (.reg [19, 22]) (.two (.two (.reg [82]) (.two (.two (.reg [12]) .lf) .lf)) (.two (.two (.reg [85]) (.two (.two (.reg [12]) .lf) .lf)) (.two (.two (.reg [100]) (.two (.two (.reg [12]) .lf) .lf)) (.two (.two (.reg [24]) (.two (.reg [108]) (.two (.two (.reg [12]) .lf) .lf))) (.two (.reg []) (.two (.reg [12]) .lf))))))))))))))
theorem ok10 : okFn Try.f10 (Try.f10.body.getD .skip) pl10 6 = true := by kernel_rfl
abbrev rs10 : List Nat := [12]
theorem in10 : Try.prog.inits.idxOf? 10 = none := by kernel_rfl
-- 11 plexus/plexusref26.Few
abbrev pl11 : Plan := (.two (.reg []) (.two (.two (.reg [7]) (.two (.two (.reg [2]) .lf) .lf)) (.two (.two (.reg [3]) (.blk (.lop [3] (.two (.two (.reg [11]) (.two .lf .lf)) (.two (.blk (.two (.two (.reg [20]) (.two (.two (.reg [2]) .lf) .lf)) (.two (.reg [4]) (.blk (.lop [4] (.two (.two (.reg [28]) (.two .lf .lf)) (.two (.blk (.two (.reg [40]) (.two (.two (.reg [2]) .lf) .lf))) (.reg [4])))))))) (.reg [3])))))) (.two (.reg [2]) .lf))))
theorem ok11 : okFn Try.f11 (Try.f11.body.getD .skip) pl11 1 = true := by kernel_rfl
abbrev rs11 : List Nat := [2]
theorem in11 : Try.prog.inits.idxOf? 11 = none := by kernel_rfl
-- 12 plexus/plexuslaw26.awake
abbrev pl12 : Plan := (.two (.reg []) (.two (.reg [1, 2]) (.two (.reg [3, 4]) (.two (.two (.reg [26]) (.two (.two (.reg [0]) .lf) .lf)) (.two (.two (.reg [48]) (.two (.two (.reg [0]) .lf) .lf)) (.two (.reg [5, 6]) (.two (.drw [0] [5, 11, 12, 13, 18, 23, 29, 34] [(5, [4])] []) .lf)))))))
theorem ok12 : okFn Try.f12 (Try.f12.body.getD .skip) pl12 0 = true := by kernel_rfl
abbrev rs12 : List Nat := [0]
theorem in12 : Try.prog.inits.idxOf? 12 = none := by kernel_rfl
-- 13 plexus/plexuslaw26.shape
abbrev pl13 : Plan := (.two (.reg []) (.two (.reg [4, 5]) .lf))
theorem ok13 : okFn Try.f13 (Try.f13.body.getD .skip) pl13 2 = true := by kernel_rfl
abbrev rs13 : List Nat := [4, 5]
theorem in13 : Try.prog.inits.idxOf? 13 = none := by kernel_rfl
-- 14 plexus/disk.New
abbrev pl14 : Plan := (.two (.reg []) (.two (.two (.reg [21]) (.two (.two (.reg [4, 5]) .lf) .lf)) (.two (.reg [6]) (.two (.two (.reg [31, 32]) (.blk (.lop [32] (.two (.reg [33]) (.two (.two .lf .lf) (.two (.blk (.two (.reg [7]) (.drw [] [6, 8] [(6, [1, 2, 3])] []))) (.reg [32]))))))) (.two (.reg [4, 5]) .lf)))))
theorem ok14 : okFn Try.f14 (Try.f14.body.getD .skip) pl14 2 = true := by kernel_rfl
abbrev rs14 : List Nat := [4, 5]
theorem in14 : Try.prog.inits.idxOf? 14 = none := by kernel_rfl
-- 15 plexus/journal.Open
abbrev pl15 : Plan := (.two (.reg []) (.two (.two (.reg [36]) (.two (.two (.reg [6, 7]) .lf) .lf)) (.two (.reg [8]) (.two (.reg [9]) (.two (.two (.reg [46, 47]) (.blk (.lop [9, 47] (.two (.reg [48]) (.two (.two .lf .lf) (.two (.blk (.two (.reg [10]) (.two (.reg [11, 12]) (.two (.two (.reg [59]) (.two (.two (.reg [6, 7]) .lf) .lf)) (.reg [9]))))) (.reg [47]))))))) (.two (.reg [13, 14]) (.two (.two (.reg [82]) (.two (.two (.reg [6, 7]) .lf) .lf)) (.two (.reg []) (.two (.two (.reg [16]) (.two (.reg [105]) (.two (.two (.reg [6, 7]) .lf) .lf))) (.two (.reg [6, 7]) .lf))))))))))
theorem ok15 : okFn Try.f15 (Try.f15.body.getD .skip) pl15 3 = true := by kernel_rfl
abbrev rs15 : List Nat := [6, 7]
theorem in15 : Try.prog.inits.idxOf? 15 = none := by kernel_rfl
-- 16 plexus/plexusref26.After
abbrev pl16 : Plan := (.two (.reg [4]) (.two (.two (.reg [10]) (.two (.two (.reg [6, 7]) .lf) .lf)) (.two (.drw [8] [0, 2, 5] [] [(3, [0, 2]), (4, [0, 2])]) (.two (.two (.reg [22]) (.two (.two (.reg [6, 7]) .lf) .lf)) (.two (.reg [6, 7]) .lf)))))
theorem ok16 : okFn Try.f16 (Try.f16.body.getD .skip) pl16 3 = true := by kernel_rfl
abbrev rs16 : List Nat := [6, 7]
theorem in16 : Try.prog.inits.idxOf? 16 = none := by kernel_rfl
-- 17 plexus/plexuslaw26.do
abbrev pl17 : Plan := (.two (.reg [3]) (.two (.two (.reg [6]) (.two (.two (.reg [4]) .lf) .lf)) (.two (.reg [4]) .lf)))
theorem ok17 : okFn Try.f17 (Try.f17.body.getD .skip) pl17 2 = true := by kernel_rfl
abbrev rs17 : List Nat := [4]
theorem in17 : Try.prog.inits.idxOf? 17 = none := by kernel_rfl
-- 18 plexus/plexusref26.Same
abbrev pl18 : Plan := (.two (.reg []) (.two (.two (.reg [10]) (.two (.two (.reg [4]) .lf) .lf)) (.two (.two (.reg [5]) (.blk (.lop [5] (.two (.two (.reg [14]) (.two .lf .lf)) (.two (.blk (.two (.drw [27] [] [] []) (.two (.two (.reg [4]) .lf) .lf))) (.reg [5])))))) (.two (.reg [4]) .lf))))
theorem ok18 : okFn Try.f18 (Try.f18.body.getD .skip) pl18 2 = true := by kernel_rfl
abbrev rs18 : List Nat := [4]
theorem in18 : Try.prog.inits.idxOf? 18 = none := by kernel_rfl
-- 19 (*plexus/journal.Journal).Records
abbrev pl19 : Plan := (.two (.reg []) (.two (.reg [3]) (.two (.reg [2]) .lf)))
theorem ok19 : okFn Try.f19 (Try.f19.body.getD .skip) pl19 1 = true := by kernel_rfl
abbrev rs19 : List Nat := [2]
theorem in19 : Try.prog.inits.idxOf? 19 = none := by kernel_rfl
-- 20 (*plexus/journal.Journal).Left
abbrev pl20 : Plan := (.two (.reg []) (.two (.drw [3] [] [] []) (.two (.two (.reg [22]) (.two (.two (.reg [2]) .lf) .lf)) (.two (.reg [4]) (.two (.blk (.lop [4] (.two (.two (.reg [34]) (.two .lf .lf)) (.blk (.reg [4]))))) (.two (.reg [2]) .lf))))))
theorem ok20 : okFn Try.f20 (Try.f20.body.getD .skip) pl20 1 = true := by kernel_rfl
abbrev rs20 : List Nat := [2]
theorem in20 : Try.prog.inits.idxOf? 20 = none := by kernel_rfl
-- 21 plexus/plexusref26.Left
abbrev pl21 : Plan := (.two (.reg []) (.two (.reg [5]) (.two (.reg [6]) (.two (.two (.reg [7]) (.blk (.lop [6, 7] (.two (.two (.reg [15]) (.two .lf .lf)) (.two (.blk (.two (.reg [25]) (.two (.reg [6]) .lf))) (.reg [7])))))) (.two (.reg [4]) .lf)))))
theorem ok21 : okFn Try.f21 (Try.f21.body.getD .skip) pl21 2 = true := by kernel_rfl
abbrev rs21 : List Nat := [4]
theorem in21 : Try.prog.inits.idxOf? 21 = none := by kernel_rfl
-- 22 (*plexus/journal.Journal).Down
abbrev pl22 : Plan := (.two (.reg []) (.two (.reg [2]) .lf))
theorem ok22 : okFn Try.f22 (Try.f22.body.getD .skip) pl22 1 = true := by kernel_rfl
abbrev rs22 : List Nat := [2]
theorem in22 : Try.prog.inits.idxOf? 22 = none := by kernel_rfl
-- 23 (*plexus/journal.Journal).Append
abbrev pl23 : Plan := (.two (.reg []) (.two (.two (.reg [14]) (.two (.two (.reg [4]) .lf) .lf)) (.two (.two (.reg [17]) (.two (.two (.reg [4]) .lf) .lf)) (.two (.reg [5]) (.two (.two (.reg [18, 19, 20]) (.blk (.lop [20] (.two (.reg [21]) (.two (.two .lf .lf) (.two (.blk (.two (.reg [7]) (.reg []))) (.reg [20]))))))) (.two (.reg [8]) (.two (.two (.drw [40] [] [] []) (.two (.two (.reg [4]) .lf) .lf)) (.two (.drw [9] [8, 13, 15] [] [(10, [8]), (11, [8]), (12, [8])]) (.two (.reg [10]) (.two (.two (.reg [11]) (.blk (.lop [11] (.two (.two (.reg [74]) (.two .lf .lf)) (.two (.blk (.two (.reg [93]) (.two (.two (.reg [4]) .lf) .lf))) (.reg [11])))))) (.two (.two (.reg [103]) (.two (.two (.reg [4]) .lf) .lf)) (.two (.reg []) (.two (.reg [4]) .lf)))))))))))))
theorem ok23 : okFn Try.f23 (Try.f23.body.getD .skip) pl23 2 = true := by kernel_rfl
abbrev rs23 : List Nat := [4]
theorem in23 : Try.prog.inits.idxOf? 23 = none := by kernel_rfl
-- 24 (*plexus/disk.Disk).Write
abbrev pl24 : Plan := (.two (.reg []) (.two (.two (.reg [19]) (.two (.two (.reg [6]) .lf) .lf)) (.two (.two (.reg [22]) (.two (.two (.reg [6]) .lf) .lf)) (.two (.drw [] [8, 10, 11, 14] [(8, [2, 3, 4]), (10, [2, 3, 4])] []) (.two (.reg [6]) .lf)))))
theorem ok24 : okFn Try.f24 (Try.f24.body.getD .skip) pl24 3 = true := by kernel_rfl
abbrev rs24 : List Nat := [6]
theorem in24 : Try.prog.inits.idxOf? 24 = none := by kernel_rfl
-- 25 (*plexus/disk.Disk).Read
abbrev pl25 : Plan := (.two (.reg []) (.two (.two (.reg [10]) (.two (.two (.reg [4, 5]) .lf) .lf)) (.two (.two (.reg [14]) (.two (.two (.reg [4, 5]) .lf) .lf)) (.two (.two (.reg [6]) (.blk (.lop [6] (.two (.two (.reg [22]) (.two .lf .lf)) (.two (.blk (.two (.reg [34]) (.two (.two (.reg [4, 5]) .lf) .lf))) (.reg [6])))))) (.two (.reg [4, 5]) .lf)))))
theorem ok25 : okFn Try.f25 (Try.f25.body.getD .skip) pl25 2 = true := by kernel_rfl
abbrev rs25 : List Nat := [4, 5]
theorem in25 : Try.prog.inits.idxOf? 25 = none := by kernel_rfl
-- 26 (*plexus/disk.Disk).Sync
abbrev pl26 : Plan := (.two (.reg []) (.two (.two (.reg [5]) (.two (.two (.reg [2]) .lf) .lf)) (.two (.reg []) (.two (.reg [2]) .lf))))
theorem ok26 : okFn Try.f26 (Try.f26.body.getD .skip) pl26 1 = true := by kernel_rfl
abbrev rs26 : List Nat := [2]
theorem in26 : Try.prog.inits.idxOf? 26 = none := by kernel_rfl
-- 27 plexus/plexusref26.Holds
abbrev pl27 : Plan := (.two (.reg []) (.two (.reg [6]) (.two (.two (.reg [14]) (.two (.two (.reg [4, 5]) .lf) .lf)) (.two (.reg [7]) (.two (.reg [8]) (.two (.reg [9]) (.two (.two (.reg [47]) (.two (.two (.reg [4, 5]) .lf) .lf)) (.two (.reg [10]) (.two (.blk (.lop [6] (.two (.two (.reg [55]) (.two .lf .lf)) (.blk (.two (.reg [11]) (.two (.two (.reg [61]) (.two (.two (.reg [4, 5]) .lf) .lf)) (.reg [6]))))))) (.two (.reg [4, 5]) .lf))))))))))
theorem ok27 : okFn Try.f27 (Try.f27.body.getD .skip) pl27 2 = true := by kernel_rfl
abbrev rs27 : List Nat := [4, 5]
theorem in27 : Try.prog.inits.idxOf? 27 = none := by kernel_rfl
-- 28 (*plexus/disk.Disk).Cached
abbrev pl28 : Plan := (.two (.reg []) (.two (.reg [2]) .lf))
theorem ok28 : okFn Try.f28 (Try.f28.body.getD .skip) pl28 1 = true := by kernel_rfl
abbrev rs28 : List Nat := [2]
theorem in28 : Try.prog.inits.idxOf? 28 = none := by kernel_rfl
-- 29 (*plexus/disk.Disk).Crash
abbrev pl29 : Plan := (.two (.reg [3]) (.two (.reg []) (.reg [])))
theorem ok29 : okFn Try.f29 (Try.f29.body.getD .skip) pl29 2 = true := by kernel_rfl
abbrev rs29 : List Nat := []
theorem in29 : Try.prog.inits.idxOf? 29 = none := by kernel_rfl
-- 30 plexus/plexuslaw26.region
abbrev pl30 : Plan := (.two (.reg []) (.two (.reg [8, 9]) (.two (.reg [10]) (.two (.two (.reg [11]) (.blk (.lop [9, 10, 11] (.two (.two (.reg [23]) (.two .lf .lf)) (.two (.blk (.two (.reg [12, 13]) (.two (.two (.reg [35]) (.two (.reg [9]) .lf)) (.reg [10])))) (.reg [11])))))) (.two (.two (.reg [41]) (.two (.two (.reg [6, 7]) .lf) .lf)) (.two (.reg [6, 7]) .lf))))))
theorem ok30 : okFn Try.f30 (Try.f30.body.getD .skip) pl30 3 = true := by kernel_rfl
abbrev rs30 : List Nat := [6, 7]
theorem in30 : Try.prog.inits.idxOf? 30 = none := by kernel_rfl
-- 31 (*plexus/disk.Disk).Fail
abbrev pl31 : Plan := (.two (.reg [8]) (.two (.reg []) .lf))
theorem ok31 : okFn Try.f31 (Try.f31.body.getD .skip) pl31 2 = true := by kernel_rfl
abbrev rs31 : List Nat := []
theorem in31 : Try.prog.inits.idxOf? 31 = none := by kernel_rfl
-- 32 plexus/plexuslaw26.run
abbrev pl32 : Plan := (.two (.reg []) (.two (.two (.reg [12]) (.blk (.lop [2, 12] (.two (.two (.reg [19]) (.two .lf .lf)) (.two (.blk (.two (.reg [13, 14]) (.two (.reg [15]) (.two (.two (.reg [39]) (.two (.two (.reg [8, 9, 10, 11]) .lf) .lf)) (.two (.two (.reg [48]) (.two (.two (.reg [8, 9, 10, 11]) .lf) .lf)) (.reg [2])))))) (.reg [12])))))) (.two (.reg [8, 9, 10, 11]) .lf)))
theorem ok32 : okFn Try.f32 (Try.f32.body.getD .skip) pl32 4 = true := by kernel_rfl
abbrev rs32 : List Nat := [8, 9, 10, 11]
theorem in32 : Try.prog.inits.idxOf? 32 = none := by kernel_rfl
-- 33 (*plexus/disk.Disk).Down
abbrev pl33 : Plan := (.two (.reg []) (.two (.reg [2]) .lf))
theorem ok33 : okFn Try.f33 (Try.f33.body.getD .skip) pl33 1 = true := by kernel_rfl
abbrev rs33 : List Nat := [2]
theorem in33 : Try.prog.inits.idxOf? 33 = none := by kernel_rfl
-- 34 plexus/plexusref26.Head
abbrev pl34 : Plan := (.two (.reg []) (.two (.reg [5]) (.two (.blk (.lop [5] (.two (.two (.reg [13]) (.two .lf .lf)) (.blk (.reg [5]))))) (.two (.reg [4]) .lf))))
theorem ok34 : okFn Try.f34 (Try.f34.body.getD .skip) pl34 2 = true := by kernel_rfl
abbrev rs34 : List Nat := [4]
theorem in34 : Try.prog.inits.idxOf? 34 = none := by kernel_rfl
-- 35 (*plexus/journal.Journal).Reset
abbrev pl35 : Plan := (.two (.reg []) (.two (.two (.reg [10]) (.two (.two (.reg [2]) .lf) .lf)) (.two (.reg []) (.two (.reg [2]) .lf))))
theorem ok35 : okFn Try.f35 (Try.f35.body.getD .skip) pl35 1 = true := by kernel_rfl
abbrev rs35 : List Nat := [2]
theorem in35 : Try.prog.inits.idxOf? 35 = none := by kernel_rfl
-- 36 (*plexus/disk.Disk).Sectors
abbrev pl36 : Plan := (.two (.reg []) (.two (.reg [2]) .lf))
theorem ok36 : okFn Try.f36 (Try.f36.body.getD .skip) pl36 1 = true := by kernel_rfl
abbrev rs36 : List Nat := [2]
theorem in36 : Try.prog.inits.idxOf? 36 = none := by kernel_rfl
-- 37 (*plexus/disk.Disk).Size
abbrev pl37 : Plan := (.two (.reg []) (.two (.reg [2]) .lf))
theorem ok37 : okFn Try.f37 (Try.f37.body.getD .skip) pl37 1 = true := by kernel_rfl
abbrev rs37 : List Nat := [2]
theorem in37 : Try.prog.inits.idxOf? 37 = none := by kernel_rfl
-- 38 plexus/journal.length
abbrev pl38 : Plan := (.two (.reg []) (.two (.two (.reg [8]) (.two (.two (.reg [2, 3]) .lf) .lf)) (.two (.reg [4]) (.two (.reg [5, 6]) (.two (.two (.reg [33]) (.two (.two (.reg [2, 3]) .lf) .lf)) (.two (.reg [2, 3]) .lf))))))
theorem ok38 : okFn Try.f38 (Try.f38.body.getD .skip) pl38 1 = true := by kernel_rfl
abbrev rs38 : List Nat := [2, 3]
theorem in38 : Try.prog.inits.idxOf? 38 = none := by kernel_rfl
-- 39 plexus/journal.split
abbrev pl39 : Plan := (.two (.reg []) (.two (.reg [4]) (.two (.reg [5]) (.two (.blk (.lop [4] (.two (.two (.reg [11]) (.two .lf .lf)) (.blk (.two (.reg [6]) (.two (.two (.reg [16]) (.two (.two (.reg [2, 3]) .lf) .lf)) (.reg [4]))))))) (.two (.reg [2, 3]) .lf)))))
theorem ok39 : okFn Try.f39 (Try.f39.body.getD .skip) pl39 1 = true := by kernel_rfl
abbrev rs39 : List Nat := [2, 3]
theorem in39 : Try.prog.inits.idxOf? 39 = none := by kernel_rfl
-- 40 plexus/plexusref26.Stream
abbrev pl40 : Plan := (.two (.reg []) (.two (.reg [3]) (.two (.two (.reg [4]) (.blk (.lop [3, 4] (.two (.two (.reg [9]) (.two .lf .lf)) (.two (.blk (.reg [3])) (.reg [4])))))) (.two (.reg [2]) .lf))))
theorem ok40 : okFn Try.f40 (Try.f40.body.getD .skip) pl40 1 = true := by kernel_rfl
abbrev rs40 : List Nat := [2]
theorem in40 : Try.prog.inits.idxOf? 40 = none := by kernel_rfl
-- 41 plexus/journal.digits
abbrev pl41 : Plan := (.two (.reg []) (.two (.reg [3]) (.two (.blk (.lop [0, 3] (.two (.two (.reg [5]) (.two .lf .lf)) (.two (.blk (.reg [3])) (.reg [0]))))) (.two (.reg [2]) .lf))))
theorem ok41 : okFn Try.f41 (Try.f41.body.getD .skip) pl41 1 = true := by kernel_rfl
abbrev rs41 : List Nat := [2]
theorem in41 : Try.prog.inits.idxOf? 41 = none := by kernel_rfl
-- 42 plexus/plexusref01.Uint
abbrev pl42 : Plan := (.two (.reg []) (.two (.reg [5]) (.two (.blk (.lop [1, 5] (.two (.two (.reg [10]) (.two .lf .lf)) (.blk (.two (.reg [5]) (.reg [1])))))) (.two (.reg [4]) .lf))))
theorem ok42 : okFn Try.f42 (Try.f42.body.getD .skip) pl42 2 = true := by kernel_rfl
abbrev rs42 : List Nat := [4]
theorem in42 : Try.prog.inits.idxOf? 42 = none := by kernel_rfl
-- 43 (*plexus/journal.Journal).ready
abbrev pl43 : Plan := (.two (.reg []) (.two (.reg []) (.two (.reg [2]) .lf)))
theorem ok43 : okFn Try.f43 (Try.f43.body.getD .skip) pl43 1 = true := by kernel_rfl
abbrev rs43 : List Nat := [2]
theorem in43 : Try.prog.inits.idxOf? 43 = none := by kernel_rfl
-- 44 (*plexus/wire.Writer).Bytes
abbrev pl44 : Plan := (.two (.reg []) (.reg []))
theorem ok44 : okFn Try.f44 (Try.f44.body.getD .skip) pl44 2 = true := by kernel_rfl
abbrev rs44 : List Nat := []
theorem in44 : Try.prog.inits.idxOf? 44 = none := by kernel_rfl
-- 45 (*plexus/wire.Writer).Data
abbrev pl45 : Plan := (.two (.reg []) (.two (.reg [2]) .lf))
theorem ok45 : okFn Try.f45 (Try.f45.body.getD .skip) pl45 1 = true := by kernel_rfl
abbrev rs45 : List Nat := [2]
theorem in45 : Try.prog.inits.idxOf? 45 = none := by kernel_rfl
-- 46 (*plexus/journal.Journal).write
abbrev pl46 : Plan := (.two (.reg []) (.two (.reg [7]) (.two (.reg []) (.two (.two (.drw [29] [11] [] []) (.two (.reg []) .lf)) (.two (.reg [6]) .lf)))))
theorem ok46 : okFn Try.f46 (Try.f46.body.getD .skip) pl46 3 = true := by kernel_rfl
abbrev rs46 : List Nat := [6]
theorem in46 : Try.prog.inits.idxOf? 46 = none := by kernel_rfl
-- 47 (*plexus/journal.Journal).sync
abbrev pl47 : Plan := (.two (.reg []) (.two (.two (.reg [8]) (.two (.reg []) .lf)) (.two (.reg [2]) .lf)))
theorem ok47 : okFn Try.f47 (Try.f47.body.getD .skip) pl47 1 = true := by kernel_rfl
abbrev rs47 : List Nat := [2]
theorem in47 : Try.prog.inits.idxOf? 47 = none := by kernel_rfl
-- 48 (*plexus/journal.Journal).commit
abbrev pl48 : Plan := (.two (.reg []) (.two (.reg [5]) (.two (.reg []) (.two (.reg []) (.two (.reg [4]) .lf)))))
theorem ok48 : okFn Try.f48 (Try.f48.body.getD .skip) pl48 2 = true := by kernel_rfl
abbrev rs48 : List Nat := [4]
theorem in48 : Try.prog.inits.idxOf? 48 = none := by kernel_rfl
-- 49 (*plexus/disk.Disk).has
abbrev pl49 : Plan := (.two (.reg []) (.two (.reg [4]) .lf))
theorem ok49 : okFn Try.f49 (Try.f49.body.getD .skip) pl49 2 = true := by kernel_rfl
abbrev rs49 : List Nat := [4]
theorem in49 : Try.prog.inits.idxOf? 49 = none := by kernel_rfl
-- 50 (*plexus/disk.Disk).operate
abbrev pl50 : Plan := (.two (.reg []) (.two (.two (.reg [13]) (.two (.reg []) .lf)) (.two (.two (.reg [20]) (.two (.two (.reg [2]) .lf) .lf)) (.two (.two (.reg [24]) (.two (.reg []) .lf)) (.two (.reg [2]) .lf)))))
theorem ok50 : okFn Try.f50 (Try.f50.body.getD .skip) pl50 1 = true := by kernel_rfl
abbrev rs50 : List Nat := [2]
theorem in50 : Try.prog.inits.idxOf? 50 = none := by kernel_rfl
-- 51 (*plexus/disk.Disk).clone
abbrev pl51 : Plan := (.two (.reg []) (.two (.reg [5]) (.two (.reg []) (.two (.reg [4]) .lf))))
theorem ok51 : okFn Try.f51 (Try.f51.body.getD .skip) pl51 2 = true := by kernel_rfl
abbrev rs51 : List Nat := [4]
theorem in51 : Try.prog.inits.idxOf? 51 = none := by kernel_rfl
-- 52 (*plexus/disk.Disk).settle
abbrev pl52 : Plan := (.two (.reg [4]) (.two (.two (.reg [13, 14, 15]) (.blk (.lop [15] (.two (.reg [16]) (.two (.two .lf .lf) (.two (.blk (.two (.reg [5, 6]) (.two (.reg [22]) (.two (.reg []) .lf)))) (.reg [15]))))))) (.two (.two (.reg [30]) (.blk (.lop [] (.two (.reg [32]) (.two (.two .lf .lf) (.blk (.two (.reg [7, 8]) (.reg [])))))))) (.reg []))))
theorem ok52 : okFn Try.f52 (Try.f52.body.getD .skip) pl52 2 = true := by kernel_rfl
abbrev rs52 : List Nat := []
theorem in52 : Try.prog.inits.idxOf? 52 = none := by kernel_rfl
-- 53 (*plexus/disk.Disk).Sync$1
abbrev pl53 : Plan := (.two (.reg []) (.two (.reg [2]) .lf))
theorem ok53 : okFn Try.f53 (Try.f53.body.getD .skip) pl53 1 = true := by kernel_rfl
abbrev rs53 : List Nat := [2]
theorem in53 : Try.prog.inits.idxOf? 53 = none := by kernel_rfl
-- 54 plexus/plexusref26.zeros
abbrev pl54 : Plan := (.two (.reg []) (.two (.two (.reg [3]) (.blk (.lop [3] (.two (.two (.reg [7]) (.two .lf .lf)) (.two (.blk (.two (.reg [14]) (.two (.two (.reg [2]) .lf) .lf))) (.reg [3])))))) (.two (.reg [2]) .lf)))
theorem ok54 : okFn Try.f54 (Try.f54.body.getD .skip) pl54 1 = true := by kernel_rfl
abbrev rs54 : List Nat := [2]
theorem in54 : Try.prog.inits.idxOf? 54 = none := by kernel_rfl
-- 55 (*plexus/plexusref01.In).Text
abbrev pl55 : Plan := (.two (.reg []) (.two (.reg [2]) .lf))
theorem ok55 : okFn Try.f55 (Try.f55.body.getD .skip) pl55 1 = true := by kernel_rfl
abbrev rs55 : List Nat := [2]
theorem in55 : Try.prog.inits.idxOf? 55 = none := by kernel_rfl
-- 56 (*plexus/plexusref01.In).Uint
abbrev pl56 : Plan := (.two (.reg []) (.two (.two (.reg [9]) (.two (.two (.reg [2]) .lf) .lf)) (.two (.reg []) (.two (.drw [3, 4, 5] [8] [] []) (.two (.two (.reg [31]) (.two (.two (.reg []) (.two (.reg [2]) .lf)) .lf)) (.two (.reg []) (.two (.reg [2]) .lf)))))))
theorem ok56 : okFn Try.f56 (Try.f56.body.getD .skip) pl56 1 = true := by kernel_rfl
abbrev rs56 : List Nat := [2]
theorem in56 : Try.prog.inits.idxOf? 56 = none := by kernel_rfl
-- 57 (*plexus/plexusref01.In).Left
abbrev pl57 : Plan := (.two (.reg []) (.two (.drw [2] [] [] []) .lf))
theorem ok57 : okFn Try.f57 (Try.f57.body.getD .skip) pl57 1 = true := by kernel_rfl
abbrev rs57 : List Nat := [2]
theorem in57 : Try.prog.inits.idxOf? 57 = none := by kernel_rfl
-- 58 (*plexus/plexusref01.In).Bytes
abbrev pl58 : Plan := (.two (.reg []) (.two (.two (.reg [9]) (.two (.two (.reg [2]) .lf) .lf)) (.two (.reg []) (.two (.drw [3, 4, 5] [8] [] []) (.two (.two (.reg [43]) (.two (.two (.reg []) (.two (.reg [2]) .lf)) .lf)) (.two (.reg []) (.two (.drw [2] [0, 11] [] [(2, [0]), (3, [0]), (4, [0]), (7, [0]), (8, [0]), (9, [0]), (10, [0])]) .lf)))))))
theorem ok58 : okFn Try.f58 (Try.f58.body.getD .skip) pl58 1 = true := by kernel_rfl
abbrev rs58 : List Nat := [2]
theorem in58 : Try.prog.inits.idxOf? 58 = none := by kernel_rfl
-- 59 (*plexus/disk.Disk).Crash$1
abbrev pl59 : Plan := (.two (.reg []) (.two (.reg [3]) .lf))
theorem ok59 : okFn Try.f59 (Try.f59.body.getD .skip) pl59 2 = true := by kernel_rfl
abbrev rs59 : List Nat := [3]
theorem in59 : Try.prog.inits.idxOf? 59 = none := by kernel_rfl
-- 60 plexus/plexusref01.Text
abbrev pl60 : Plan := (.two (.reg []) (.two (.reg [4]) .lf))
theorem ok60 : okFn Try.f60 (Try.f60.body.getD .skip) pl60 2 = true := by kernel_rfl
abbrev rs60 : List Nat := [4]
theorem in60 : Try.prog.inits.idxOf? 60 = none := by kernel_rfl
-- 61 plexus/journal.zeros
abbrev pl61 : Plan := (.two (.reg []) (.two (.two (.reg [5, 6]) (.blk (.lop [6] (.two (.reg [7]) (.two (.two .lf .lf) (.two (.blk (.two (.reg [3]) (.two (.reg [13]) (.two (.two (.reg [2]) .lf) .lf)))) (.reg [6]))))))) (.two (.reg [2]) .lf)))
theorem ok61 : okFn Try.f61 (Try.f61.body.getD .skip) pl61 1 = true := by kernel_rfl
abbrev rs61 : List Nat := [2]
theorem in61 : Try.prog.inits.idxOf? 61 = none := by kernel_rfl
-- 62 plexus/wire.NewReader
abbrev pl62 : Plan := (.two (.reg []) (.two (.reg [2]) .lf))
theorem ok62 : okFn Try.f62 (Try.f62.body.getD .skip) pl62 1 = true := by kernel_rfl
abbrev rs62 : List Nat := [2]
theorem in62 : Try.prog.inits.idxOf? 62 = none := by kernel_rfl
-- 63 (*plexus/wire.Reader).Text
abbrev pl63 : Plan := (.two (.reg []) (.two (.reg [2]) .lf))
theorem ok63 : okFn Try.f63 (Try.f63.body.getD .skip) pl63 1 = true := by kernel_rfl
abbrev rs63 : List Nat := [2]
theorem in63 : Try.prog.inits.idxOf? 63 = none := by kernel_rfl
-- 64 (*plexus/wire.Reader).Uint
abbrev pl64 : Plan := (.two (.reg []) (.two (.two (.reg [8]) (.two (.two (.reg [2]) .lf) .lf)) (.two (.reg [3, 4, 5]) (.two (.two (.reg [16]) (.two (.two (.reg []) (.two (.reg [2]) .lf)) .lf)) (.two (.reg []) (.two (.reg [2]) .lf))))))
theorem ok64 : okFn Try.f64 (Try.f64.body.getD .skip) pl64 1 = true := by kernel_rfl
abbrev rs64 : List Nat := [2]
theorem in64 : Try.prog.inits.idxOf? 64 = none := by kernel_rfl
-- 65 (*plexus/wire.Reader).Err
abbrev pl65 : Plan := (.two (.reg []) (.two (.reg [2]) .lf))
theorem ok65 : okFn Try.f65 (Try.f65.body.getD .skip) pl65 1 = true := by kernel_rfl
abbrev rs65 : List Nat := [2]
theorem in65 : Try.prog.inits.idxOf? 65 = none := by kernel_rfl
-- 66 (*plexus/wire.Reader).Offset
abbrev pl66 : Plan := (.two (.reg []) (.two (.reg [2]) .lf))
theorem ok66 : okFn Try.f66 (Try.f66.body.getD .skip) pl66 1 = true := by kernel_rfl
abbrev rs66 : List Nat := [2]
theorem in66 : Try.prog.inits.idxOf? 66 = none := by kernel_rfl
-- 67 (*plexus/wire.Reader).Left
abbrev pl67 : Plan := (.two (.reg []) (.two (.drw [2] [] [] []) .lf))
theorem ok67 : okFn Try.f67 (Try.f67.body.getD .skip) pl67 1 = true := by kernel_rfl
abbrev rs67 : List Nat := [2]
theorem in67 : Try.prog.inits.idxOf? 67 = none := by kernel_rfl
-- 68 (*plexus/wire.Reader).Bytes
abbrev pl68 : Plan := (.two (.reg []) (.two (.two (.reg [8]) (.two (.two (.reg [2]) .lf) .lf)) (.two (.reg [3, 4, 5]) (.two (.two (.reg [28]) (.two (.two (.reg []) (.two (.reg [2]) .lf)) .lf)) (.two (.reg []) (.two (.drw [2] [0, 11] [] [(2, [0]), (3, [0]), (4, [0]), (7, [0]), (8, [0]), (9, [0]), (10, [0])]) .lf))))))
theorem ok68 : okFn Try.f68 (Try.f68.body.getD .skip) pl68 1 = true := by kernel_rfl
abbrev rs68 : List Nat := [2]
theorem in68 : Try.prog.inits.idxOf? 68 = none := by kernel_rfl
-- 69 plexus/plexusref01.Bytes
abbrev pl69 : Plan := (.two (.reg []) (.two (.reg [4]) .lf))
theorem ok69 : okFn Try.f69 (Try.f69.body.getD .skip) pl69 2 = true := by kernel_rfl
abbrev rs69 : List Nat := [4]
theorem in69 : Try.prog.inits.idxOf? 69 = none := by kernel_rfl
-- 70 (*plexus/wire.Writer).Uint
abbrev pl70 : Plan := (.two (.blk (.lop [1] (.two (.two (.reg [5]) (.two .lf .lf)) (.two (.blk (.reg [])) (.reg [1]))))) (.reg []))
theorem ok70 : okFn Try.f70 (Try.f70.body.getD .skip) pl70 2 = true := by kernel_rfl
abbrev rs70 : List Nat := []
theorem in70 : Try.prog.inits.idxOf? 70 = none := by kernel_rfl
-- 71 (*plexus/wire.Writer).Text
abbrev pl71 : Plan := (.two (.reg []) (.reg []))
theorem ok71 : okFn Try.f71 (Try.f71.body.getD .skip) pl71 2 = true := by kernel_rfl
abbrev rs71 : List Nat := []
theorem in71 : Try.prog.inits.idxOf? 71 = none := by kernel_rfl
-- 72 plexus/plexusref01.raw
abbrev pl72 : Plan := (.two (.reg [4]) (.two (.two (.reg [7]) (.blk (.lop [4, 7] (.two (.two (.reg [18]) (.two .lf .lf)) (.two (.blk (.two (.reg [8]) (.two (.two (.reg [32]) (.two (.two (.reg [4, 5, 6]) .lf) .lf)) (.two (.reg [4]) (.two (.reg [44]) (.two (.two (.two (.reg [50]) (.two (.two (.reg [4, 5, 6]) .lf) .lf)) (.two (.reg [4, 5, 6]) .lf)) .lf)))))) (.reg [7])))))) (.two (.reg [4, 5, 6]) .lf)))
theorem ok72 : okFn Try.f72 (Try.f72.body.getD .skip) pl72 2 = true := by kernel_rfl
abbrev rs72 : List Nat := [4, 5, 6]
theorem in72 : Try.prog.inits.idxOf? 72 = none := by kernel_rfl
-- 73 (*plexus/wire.Reader).begin
abbrev pl73 : Plan := (.two (.reg []) (.two (.two (.reg [7]) (.two (.two (.reg [2]) .lf) .lf)) (.two (.reg []) (.two (.reg [2]) .lf))))
theorem ok73 : okFn Try.f73 (Try.f73.body.getD .skip) pl73 1 = true := by kernel_rfl
abbrev rs73 : List Nat := [2]
theorem in73 : Try.prog.inits.idxOf? 73 = none := by kernel_rfl
-- 74 (*plexus/wire.Reader).number
abbrev pl74 : Plan := (.two (.reg [2]) (.two (.two (.reg [7]) (.blk (.lop [2, 7] (.two (.reg [8]) (.two (.two .lf .lf) (.two (.blk (.two (.reg [5]) (.two (.two (.drw [21] [] [] []) (.two (.two (.reg [2, 3, 4]) .lf) .lf)) (.two (.drw [6] [] [] []) (.two (.two (.reg [39]) (.two (.two (.reg [2, 3, 4]) .lf) .lf)) (.two (.reg [2]) (.two (.reg [49]) (.two (.two (.drw [2, 3, 4] [] [] []) .lf) .lf)))))))) (.reg [7]))))))) (.two (.reg [2, 3, 4]) .lf)))
theorem ok74 : okFn Try.f74 (Try.f74.body.getD .skip) pl74 1 = true := by kernel_rfl
abbrev rs74 : List Nat := [2, 3, 4]
theorem in74 : Try.prog.inits.idxOf? 74 = none := by kernel_rfl
end Go.Proofs.Ytlnladcfgieggaa.Fd
