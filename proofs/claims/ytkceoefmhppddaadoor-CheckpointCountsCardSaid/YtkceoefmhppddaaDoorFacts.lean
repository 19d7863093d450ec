/-
  Closed facts of this seat's program, printed by program (gen.py): the types' shapes; for each function the plan of its functional reading, its check, and the step from the body to the call.
-/
import Derived.Test.YtkceoefmhppddaaDoorFd8
import Derived.KernelRfl
import Derived.Test.YtkceoefmhppddaaDoorFdK
namespace Go.Proofs.YtkceoefmhppddaaDoor.Fd
open Go
set_option maxRecDepth 100000
theorem mixed : Tryd.prog.follows .mixedOrders = true := by kernel_rfl
theorem t1_k : knd Tryd.prog 1 = some false := by kernel_rfl
theorem t1_s : siz Tryd.prog 1 = some 1 := by kernel_rfl
theorem t1_b : byt Tryd.prog 1 = some 8 := by kernel_rfl
theorem t1_g : tag Tryd.prog 1 = 7 := by kernel_rfl
theorem t1_z : zer Tryd.prog 1 = some .nilFunc := by kernel_rfl
theorem t1_e : elt Tryd.prog 1 = none := by kernel_rfl
theorem t2_k : knd Tryd.prog 2 = some false := by kernel_rfl
theorem t2_s : siz Tryd.prog 2 = some 1 := by kernel_rfl
theorem t2_b : byt Tryd.prog 2 = some 8 := by kernel_rfl
theorem t2_g : tag Tryd.prog 2 = 6 := by kernel_rfl
theorem t2_z : zer Tryd.prog 2 = some (.int .i64 0) := by kernel_rfl
theorem t2_e : elt Tryd.prog 2 = none := by kernel_rfl
theorem t3_k : knd Tryd.prog 3 = some false := by kernel_rfl
theorem t3_s : siz Tryd.prog 3 = some 1 := by kernel_rfl
theorem t3_b : byt Tryd.prog 3 = some 8 := by kernel_rfl
theorem t3_g : tag Tryd.prog 3 = 6 := by kernel_rfl
theorem t3_z : zer Tryd.prog 3 = some (.int .i64 0) := by kernel_rfl
theorem t3_e : elt Tryd.prog 3 = none := by kernel_rfl
theorem t4_k : knd Tryd.prog 4 = some false := by kernel_rfl
theorem t4_s : siz Tryd.prog 4 = some 1 := by kernel_rfl
theorem t4_b : byt Tryd.prog 4 = some 1 := by kernel_rfl
theorem t4_g : tag Tryd.prog 4 = 1 := by kernel_rfl
theorem t4_z : zer Tryd.prog 4 = some (.bool false) := by kernel_rfl
theorem t4_e : elt Tryd.prog 4 = none := by kernel_rfl
theorem t5_k : knd Tryd.prog 5 = some false := by kernel_rfl
theorem t5_s : siz Tryd.prog 5 = some 1 := by kernel_rfl
theorem t5_b : byt Tryd.prog 5 = some 1 := by kernel_rfl
theorem t5_g : tag Tryd.prog 5 = 6 := by kernel_rfl
theorem t5_z : zer Tryd.prog 5 = some (.int .u8 0) := by kernel_rfl
theorem t5_e : elt Tryd.prog 5 = none := by kernel_rfl
theorem t6_k : knd Tryd.prog 6 = some false := by kernel_rfl
theorem t6_s : siz Tryd.prog 6 = some 1 := by kernel_rfl
theorem t6_b : byt Tryd.prog 6 = some 1 := by kernel_rfl
theorem t6_g : tag Tryd.prog 6 = 6 := by kernel_rfl
theorem t6_z : zer Tryd.prog 6 = some (.int .u8 0) := by kernel_rfl
theorem t6_e : elt Tryd.prog 6 = none := by kernel_rfl
theorem t7_k : knd Tryd.prog 7 = some true := by kernel_rfl
theorem t7_s : siz Tryd.prog 7 = some 4 := by kernel_rfl
theorem t7_b : byt Tryd.prog 7 = some 24 := by kernel_rfl
theorem t7_g : tag Tryd.prog 7 = 0 := by kernel_rfl
theorem t7_z : zer Tryd.prog 7 = some (.agg #[(.int .i64 0), (.int .i64 0), (.bool false), (.int .u8 0)]) := by kernel_rfl
theorem t7_e : elt Tryd.prog 7 = none := by kernel_rfl
theorem t7_f0 : fofs Tryd.prog 7 0 = some 0 := by kernel_rfl
theorem t7_f1 : fofs Tryd.prog 7 1 = some 1 := by kernel_rfl
theorem t7_f2 : fofs Tryd.prog 7 2 = some 2 := by kernel_rfl
theorem t7_f3 : fofs Tryd.prog 7 3 = some 3 := by kernel_rfl
theorem t8_k : knd Tryd.prog 8 = some true := by kernel_rfl
theorem t8_s : siz Tryd.prog 8 = some 4 := by kernel_rfl
theorem t8_b : byt Tryd.prog 8 = some 24 := by kernel_rfl
theorem t8_g : tag Tryd.prog 8 = 0 := by kernel_rfl
theorem t8_z : zer Tryd.prog 8 = some (.agg #[(.int .i64 0), (.int .i64 0), (.bool false), (.int .u8 0)]) := by kernel_rfl
theorem t8_e : elt Tryd.prog 8 = none := by kernel_rfl
theorem t8_f0 : fofs Tryd.prog 8 0 = some 0 := by kernel_rfl
theorem t8_f1 : fofs Tryd.prog 8 1 = some 1 := by kernel_rfl
theorem t8_f2 : fofs Tryd.prog 8 2 = some 2 := by kernel_rfl
theorem t8_f3 : fofs Tryd.prog 8 3 = some 3 := by kernel_rfl
theorem t9_k : knd Tryd.prog 9 = some false := by kernel_rfl
theorem t9_s : siz Tryd.prog 9 = some 1 := by kernel_rfl
theorem t9_b : byt Tryd.prog 9 = some 16 := by kernel_rfl
theorem t9_g : tag Tryd.prog 9 = 4 := by kernel_rfl
theorem t9_z : zer Tryd.prog 9 = some (.string ByteArray.empty) := by kernel_rfl
theorem t9_e : elt Tryd.prog 9 = none := by kernel_rfl
theorem t10_k : knd Tryd.prog 10 = some false := by kernel_rfl
theorem t10_s : siz Tryd.prog 10 = some 1 := by kernel_rfl
theorem t10_b : byt Tryd.prog 10 = some 16 := by kernel_rfl
theorem t10_g : tag Tryd.prog 10 = 4 := by kernel_rfl
theorem t10_z : zer Tryd.prog 10 = some (.string ByteArray.empty) := by kernel_rfl
theorem t10_e : elt Tryd.prog 10 = none := by kernel_rfl
theorem t11_k : knd Tryd.prog 11 = some false := by kernel_rfl
theorem t11_s : siz Tryd.prog 11 = some 1 := by kernel_rfl
theorem t11_b : byt Tryd.prog 11 = some 16 := by kernel_rfl
theorem t11_g : tag Tryd.prog 11 = 4 := by kernel_rfl
theorem t11_z : zer Tryd.prog 11 = some (.string ByteArray.empty) := by kernel_rfl
theorem t11_e : elt Tryd.prog 11 = none := by kernel_rfl
theorem t12_k : knd Tryd.prog 12 = some false := by kernel_rfl
theorem t12_s : siz Tryd.prog 12 = some 1 := by kernel_rfl
theorem t12_b : byt Tryd.prog 12 = some 8 := by kernel_rfl
theorem t12_g : tag Tryd.prog 12 = 6 := by kernel_rfl
theorem t12_z : zer Tryd.prog 12 = some (.int .u64 0) := by kernel_rfl
theorem t12_e : elt Tryd.prog 12 = none := by kernel_rfl
theorem t13_k : knd Tryd.prog 13 = some true := by kernel_rfl
theorem t13_s : siz Tryd.prog 13 = some 2 := by kernel_rfl
theorem t13_b : byt Tryd.prog 13 = some 24 := by kernel_rfl
theorem t13_g : tag Tryd.prog 13 = 0 := by kernel_rfl
theorem t13_z : zer Tryd.prog 13 = some (.agg #[(.string ByteArray.empty), (.int .u64 0)]) := by kernel_rfl
theorem t13_e : elt Tryd.prog 13 = none := by kernel_rfl
theorem t13_f0 : fofs Tryd.prog 13 0 = some 0 := by kernel_rfl
theorem t13_f1 : fofs Tryd.prog 13 1 = some 1 := by kernel_rfl
theorem t14_k : knd Tryd.prog 14 = some true := by kernel_rfl
theorem t14_s : siz Tryd.prog 14 = some 2 := by kernel_rfl
theorem t14_b : byt Tryd.prog 14 = some 24 := by kernel_rfl
theorem t14_g : tag Tryd.prog 14 = 0 := by kernel_rfl
theorem t14_z : zer Tryd.prog 14 = some (.agg #[(.string ByteArray.empty), (.int .u64 0)]) := by kernel_rfl
theorem t14_e : elt Tryd.prog 14 = none := by kernel_rfl
theorem t14_f0 : fofs Tryd.prog 14 0 = some 0 := by kernel_rfl
theorem t14_f1 : fofs Tryd.prog 14 1 = some 1 := by kernel_rfl
theorem t15_k : knd Tryd.prog 15 = some false := by kernel_rfl
theorem t15_s : siz Tryd.prog 15 = some 1 := by kernel_rfl
theorem t15_b : byt Tryd.prog 15 = some 8 := by kernel_rfl
theorem t15_g : tag Tryd.prog 15 = 2 := by kernel_rfl
theorem t15_z : zer Tryd.prog 15 = some (.pointer none) := by kernel_rfl
theorem t15_e : elt Tryd.prog 15 = none := by kernel_rfl
theorem t16_k : knd Tryd.prog 16 = some false := by kernel_rfl
theorem t16_s : siz Tryd.prog 16 = some 1 := by kernel_rfl
theorem t16_b : byt Tryd.prog 16 = some 8 := by kernel_rfl
theorem t16_g : tag Tryd.prog 16 = 2 := by kernel_rfl
theorem t16_z : zer Tryd.prog 16 = some (.pointer none) := by kernel_rfl
theorem t16_e : elt Tryd.prog 16 = none := by kernel_rfl
theorem t17_k : knd Tryd.prog 17 = some false := by kernel_rfl
theorem t17_s : siz Tryd.prog 17 = some 1 := by kernel_rfl
theorem t17_b : byt Tryd.prog 17 = some 8 := by kernel_rfl
theorem t17_g : tag Tryd.prog 17 = 2 := by kernel_rfl
theorem t17_z : zer Tryd.prog 17 = some (.pointer none) := by kernel_rfl
theorem t17_e : elt Tryd.prog 17 = none := by kernel_rfl
theorem t18_k : knd Tryd.prog 18 = some true := by kernel_rfl
theorem t18_s : siz Tryd.prog 18 = some 1 := by kernel_rfl
theorem t18_b : byt Tryd.prog 18 = some 8 := by kernel_rfl
theorem t18_g : tag Tryd.prog 18 = 0 := by kernel_rfl
theorem t18_z : zer Tryd.prog 18 = some (.agg #[(.pointer none)]) := by kernel_rfl
theorem t18_e : elt Tryd.prog 18 = none := by kernel_rfl
theorem t18_f0 : fofs Tryd.prog 18 0 = some 0 := by kernel_rfl
theorem t19_k : knd Tryd.prog 19 = some true := by kernel_rfl
theorem t19_s : siz Tryd.prog 19 = some 1 := by kernel_rfl
theorem t19_b : byt Tryd.prog 19 = some 8 := by kernel_rfl
theorem t19_g : tag Tryd.prog 19 = 0 := by kernel_rfl
theorem t19_z : zer Tryd.prog 19 = some (.agg #[(.pointer none)]) := by kernel_rfl
theorem t19_e : elt Tryd.prog 19 = none := by kernel_rfl
theorem t19_f0 : fofs Tryd.prog 19 0 = some 0 := by kernel_rfl
theorem t20_k : knd Tryd.prog 20 = some false := by kernel_rfl
theorem t20_s : siz Tryd.prog 20 = some 1 := by kernel_rfl
theorem t20_b : byt Tryd.prog 20 = some 16 := by kernel_rfl
theorem t20_g : tag Tryd.prog 20 = 0 := by kernel_rfl
theorem t20_z : zer Tryd.prog 20 = some .nilIface := by kernel_rfl
theorem t20_e : elt Tryd.prog 20 = none := by kernel_rfl
theorem t21_k : knd Tryd.prog 21 = some false := by kernel_rfl
theorem t21_s : siz Tryd.prog 21 = some 1 := by kernel_rfl
theorem t21_b : byt Tryd.prog 21 = some 4 := by kernel_rfl
theorem t21_g : tag Tryd.prog 21 = 6 := by kernel_rfl
theorem t21_z : zer Tryd.prog 21 = some (.int .i32 0) := by kernel_rfl
theorem t21_e : elt Tryd.prog 21 = none := by kernel_rfl
theorem t22_k : knd Tryd.prog 22 = some false := by kernel_rfl
theorem t22_s : siz Tryd.prog 22 = some 1 := by kernel_rfl
theorem t22_b : byt Tryd.prog 22 = some 24 := by kernel_rfl
theorem t22_g : tag Tryd.prog 22 = 3 := by kernel_rfl
theorem t22_z : zer Tryd.prog 22 = some (.slice none 0 0) := by kernel_rfl
theorem t22_e : elt Tryd.prog 22 = some 31 := by kernel_rfl
theorem t23_k : knd Tryd.prog 23 = some false := by kernel_rfl
theorem t23_s : siz Tryd.prog 23 = some 1 := by kernel_rfl
theorem t23_b : byt Tryd.prog 23 = some 8 := by kernel_rfl
theorem t23_g : tag Tryd.prog 23 = 7 := by kernel_rfl
theorem t23_z : zer Tryd.prog 23 = some .nilFunc := by kernel_rfl
theorem t23_e : elt Tryd.prog 23 = none := by kernel_rfl
theorem t24_k : knd Tryd.prog 24 = some false := by kernel_rfl
theorem t24_s : siz Tryd.prog 24 = some 1 := by kernel_rfl
theorem t24_b : byt Tryd.prog 24 = some 8 := by kernel_rfl
theorem t24_g : tag Tryd.prog 24 = 2 := by kernel_rfl
theorem t24_z : zer Tryd.prog 24 = some (.pointer none) := by kernel_rfl
theorem t24_e : elt Tryd.prog 24 = none := by kernel_rfl
theorem t25_k : knd Tryd.prog 25 = some false := by kernel_rfl
theorem t25_s : siz Tryd.prog 25 = some 1 := by kernel_rfl
theorem t25_b : byt Tryd.prog 25 = some 8 := by kernel_rfl
theorem t25_g : tag Tryd.prog 25 = 7 := by kernel_rfl
theorem t25_z : zer Tryd.prog 25 = some .nilFunc := by kernel_rfl
theorem t25_e : elt Tryd.prog 25 = none := by kernel_rfl
theorem t26_k : knd Tryd.prog 26 = some false := by kernel_rfl
theorem t26_s : siz Tryd.prog 26 = some 1 := by kernel_rfl
theorem t26_b : byt Tryd.prog 26 = some 8 := by kernel_rfl
theorem t26_g : tag Tryd.prog 26 = 7 := by kernel_rfl
theorem t26_z : zer Tryd.prog 26 = some .nilFunc := by kernel_rfl
theorem t26_e : elt Tryd.prog 26 = none := by kernel_rfl
theorem t27_k : knd Tryd.prog 27 = some false := by kernel_rfl
theorem t27_s : siz Tryd.prog 27 = some 1 := by kernel_rfl
theorem t27_b : byt Tryd.prog 27 = some 8 := by kernel_rfl
theorem t27_g : tag Tryd.prog 27 = 2 := by kernel_rfl
theorem t27_z : zer Tryd.prog 27 = some (.pointer none) := by kernel_rfl
theorem t27_e : elt Tryd.prog 27 = none := by kernel_rfl
theorem t28_k : knd Tryd.prog 28 = some false := by kernel_rfl
theorem t28_s : siz Tryd.prog 28 = some 1 := by kernel_rfl
theorem t28_b : byt Tryd.prog 28 = some 8 := by kernel_rfl
theorem t28_g : tag Tryd.prog 28 = 6 := by kernel_rfl
theorem t28_z : zer Tryd.prog 28 = some (.int .i64 0) := by kernel_rfl
theorem t28_e : elt Tryd.prog 28 = none := by kernel_rfl
theorem t30_k : knd Tryd.prog 30 = some false := by kernel_rfl
theorem t30_s : siz Tryd.prog 30 = some 1 := by kernel_rfl
theorem t30_b : byt Tryd.prog 30 = some 8 := by kernel_rfl
theorem t30_g : tag Tryd.prog 30 = 7 := by kernel_rfl
theorem t30_z : zer Tryd.prog 30 = some .nilFunc := by kernel_rfl
theorem t30_e : elt Tryd.prog 30 = none := by kernel_rfl
theorem t31_k : knd Tryd.prog 31 = some false := by kernel_rfl
theorem t31_s : siz Tryd.prog 31 = some 1 := by kernel_rfl
theorem t31_b : byt Tryd.prog 31 = some 24 := by kernel_rfl
theorem t31_g : tag Tryd.prog 31 = 3 := by kernel_rfl
theorem t31_z : zer Tryd.prog 31 = some (.slice none 0 0) := by kernel_rfl
theorem t31_e : elt Tryd.prog 31 = some 5 := by kernel_rfl
theorem t32_k : knd Tryd.prog 32 = some false := by kernel_rfl
theorem t32_s : siz Tryd.prog 32 = some 1 := by kernel_rfl
theorem t32_b : byt Tryd.prog 32 = some 8 := by kernel_rfl
theorem t32_g : tag Tryd.prog 32 = 7 := by kernel_rfl
theorem t32_z : zer Tryd.prog 32 = some .nilFunc := by kernel_rfl
theorem t32_e : elt Tryd.prog 32 = none := by kernel_rfl
theorem t34_k : knd Tryd.prog 34 = some false := by kernel_rfl
theorem t34_s : siz Tryd.prog 34 = some 1 := by kernel_rfl
theorem t34_b : byt Tryd.prog 34 = some 8 := by kernel_rfl
theorem t34_g : tag Tryd.prog 34 = 7 := by kernel_rfl
theorem t34_z : zer Tryd.prog 34 = some .nilFunc := by kernel_rfl
theorem t34_e : elt Tryd.prog 34 = none := by kernel_rfl
theorem t35_k : knd Tryd.prog 35 = some false := by kernel_rfl
theorem t35_s : siz Tryd.prog 35 = some 1 := by kernel_rfl
theorem t35_b : byt Tryd.prog 35 = some 8 := by kernel_rfl
theorem t35_g : tag Tryd.prog 35 = 7 := by kernel_rfl
theorem t35_z : zer Tryd.prog 35 = some .nilFunc := by kernel_rfl
theorem t35_e : elt Tryd.prog 35 = none := by kernel_rfl
theorem t36_k : knd Tryd.prog 36 = some true := by kernel_rfl
theorem t36_s : siz Tryd.prog 36 = some 2 := by kernel_rfl
theorem t36_b : byt Tryd.prog 36 = some 48 := by kernel_rfl
theorem t36_g : tag Tryd.prog 36 = 0 := by kernel_rfl
theorem t36_z : zer Tryd.prog 36 = some (.agg #[(.slice none 0 0), (.slice none 0 0)]) := by kernel_rfl
theorem t36_e : elt Tryd.prog 36 = none := by kernel_rfl
theorem t36_a : arrOf Tryd.prog 36 = some (2, 22) := by kernel_rfl
theorem t37_k : knd Tryd.prog 37 = some false := by kernel_rfl
theorem t37_s : siz Tryd.prog 37 = some 1 := by kernel_rfl
theorem t37_b : byt Tryd.prog 37 = some 8 := by kernel_rfl
theorem t37_g : tag Tryd.prog 37 = 7 := by kernel_rfl
theorem t37_z : zer Tryd.prog 37 = some .nilFunc := by kernel_rfl
theorem t37_e : elt Tryd.prog 37 = none := by kernel_rfl
theorem t38_k : knd Tryd.prog 38 = some false := by kernel_rfl
theorem t38_s : siz Tryd.prog 38 = some 1 := by kernel_rfl
theorem t38_b : byt Tryd.prog 38 = some 8 := by kernel_rfl
theorem t38_g : tag Tryd.prog 38 = 7 := by kernel_rfl
theorem t38_z : zer Tryd.prog 38 = some .nilFunc := by kernel_rfl
theorem t38_e : elt Tryd.prog 38 = none := by kernel_rfl
theorem t39_k : knd Tryd.prog 39 = some false := by kernel_rfl
theorem t39_s : siz Tryd.prog 39 = some 1 := by kernel_rfl
theorem t39_b : byt Tryd.prog 39 = some 8 := by kernel_rfl
theorem t39_g : tag Tryd.prog 39 = 7 := by kernel_rfl
theorem t39_z : zer Tryd.prog 39 = some .nilFunc := by kernel_rfl
theorem t39_e : elt Tryd.prog 39 = none := by kernel_rfl
theorem t41_k : knd Tryd.prog 41 = some false := by kernel_rfl
theorem t41_s : siz Tryd.prog 41 = some 1 := by kernel_rfl
theorem t41_b : byt Tryd.prog 41 = some 8 := by kernel_rfl
theorem t41_g : tag Tryd.prog 41 = 7 := by kernel_rfl
theorem t41_z : zer Tryd.prog 41 = some .nilFunc := by kernel_rfl
theorem t41_e : elt Tryd.prog 41 = none := by kernel_rfl
theorem t42_k : knd Tryd.prog 42 = some false := by kernel_rfl
theorem t42_s : siz Tryd.prog 42 = some 1 := by kernel_rfl
theorem t42_b : byt Tryd.prog 42 = some 24 := by kernel_rfl
theorem t42_g : tag Tryd.prog 42 = 3 := by kernel_rfl
theorem t42_z : zer Tryd.prog 42 = some (.slice none 0 0) := by kernel_rfl
theorem t42_e : elt Tryd.prog 42 = some 45 := by kernel_rfl
theorem t43_k : knd Tryd.prog 43 = some false := by kernel_rfl
theorem t43_s : siz Tryd.prog 43 = some 1 := by kernel_rfl
theorem t43_b : byt Tryd.prog 43 = some 8 := by kernel_rfl
theorem t43_g : tag Tryd.prog 43 = 7 := by kernel_rfl
theorem t43_z : zer Tryd.prog 43 = some .nilFunc := by kernel_rfl
theorem t43_e : elt Tryd.prog 43 = none := by kernel_rfl
theorem t44_k : knd Tryd.prog 44 = some true := by kernel_rfl
theorem t44_s : siz Tryd.prog 44 = some 2 := by kernel_rfl
theorem t44_b : byt Tryd.prog 44 = some 32 := by kernel_rfl
theorem t44_g : tag Tryd.prog 44 = 0 := by kernel_rfl
theorem t44_z : zer Tryd.prog 44 = some (.agg #[(.int .i64 0), (.slice none 0 0)]) := by kernel_rfl
theorem t44_e : elt Tryd.prog 44 = none := by kernel_rfl
theorem t44_f0 : fofs Tryd.prog 44 0 = some 0 := by kernel_rfl
theorem t44_f1 : fofs Tryd.prog 44 1 = some 1 := by kernel_rfl
theorem t45_k : knd Tryd.prog 45 = some true := by kernel_rfl
theorem t45_s : siz Tryd.prog 45 = some 2 := by kernel_rfl
theorem t45_b : byt Tryd.prog 45 = some 32 := by kernel_rfl
theorem t45_g : tag Tryd.prog 45 = 0 := by kernel_rfl
theorem t45_z : zer Tryd.prog 45 = some (.agg #[(.int .i64 0), (.slice none 0 0)]) := by kernel_rfl
theorem t45_e : elt Tryd.prog 45 = none := by kernel_rfl
theorem t45_f0 : fofs Tryd.prog 45 0 = some 0 := by kernel_rfl
theorem t45_f1 : fofs Tryd.prog 45 1 = some 1 := by kernel_rfl
theorem t46_k : knd Tryd.prog 46 = some false := by kernel_rfl
theorem t46_s : siz Tryd.prog 46 = some 1 := by kernel_rfl
theorem t46_b : byt Tryd.prog 46 = some 8 := by kernel_rfl
theorem t46_g : tag Tryd.prog 46 = 7 := by kernel_rfl
theorem t46_z : zer Tryd.prog 46 = some .nilFunc := by kernel_rfl
theorem t46_e : elt Tryd.prog 46 = none := by kernel_rfl
theorem t47_k : knd Tryd.prog 47 = some false := by kernel_rfl
theorem t47_s : siz Tryd.prog 47 = some 1 := by kernel_rfl
theorem t47_b : byt Tryd.prog 47 = some 8 := by kernel_rfl
theorem t47_g : tag Tryd.prog 47 = 7 := by kernel_rfl
theorem t47_z : zer Tryd.prog 47 = some .nilFunc := by kernel_rfl
theorem t47_e : elt Tryd.prog 47 = none := by kernel_rfl
theorem t49_k : knd Tryd.prog 49 = some false := by kernel_rfl
theorem t49_s : siz Tryd.prog 49 = some 1 := by kernel_rfl
theorem t49_b : byt Tryd.prog 49 = some 8 := by kernel_rfl
theorem t49_g : tag Tryd.prog 49 = 7 := by kernel_rfl
theorem t49_z : zer Tryd.prog 49 = some .nilFunc := by kernel_rfl
theorem t49_e : elt Tryd.prog 49 = none := by kernel_rfl
theorem t50_k : knd Tryd.prog 50 = some false := by kernel_rfl
theorem t50_s : siz Tryd.prog 50 = some 1 := by kernel_rfl
theorem t50_b : byt Tryd.prog 50 = some 8 := by kernel_rfl
theorem t50_g : tag Tryd.prog 50 = 7 := by kernel_rfl
theorem t50_z : zer Tryd.prog 50 = some .nilFunc := by kernel_rfl
theorem t50_e : elt Tryd.prog 50 = none := by kernel_rfl
theorem t51_k : knd Tryd.prog 51 = some false := by kernel_rfl
theorem t51_s : siz Tryd.prog 51 = some 1 := by kernel_rfl
theorem t51_b : byt Tryd.prog 51 = some 8 := by kernel_rfl
theorem t51_g : tag Tryd.prog 51 = 7 := by kernel_rfl
theorem t51_z : zer Tryd.prog 51 = some .nilFunc := by kernel_rfl
theorem t51_e : elt Tryd.prog 51 = none := by kernel_rfl
theorem t52_k : knd Tryd.prog 52 = some false := by kernel_rfl
theorem t52_s : siz Tryd.prog 52 = some 1 := by kernel_rfl
theorem t52_b : byt Tryd.prog 52 = some 8 := by kernel_rfl
theorem t52_g : tag Tryd.prog 52 = 7 := by kernel_rfl
theorem t52_z : zer Tryd.prog 52 = some .nilFunc := by kernel_rfl
theorem t52_e : elt Tryd.prog 52 = none := by kernel_rfl
theorem t53_k : knd Tryd.prog 53 = some false := by kernel_rfl
theorem t53_s : siz Tryd.prog 53 = some 1 := by kernel_rfl
theorem t53_b : byt Tryd.prog 53 = some 8 := by kernel_rfl
theorem t53_g : tag Tryd.prog 53 = 7 := by kernel_rfl
theorem t53_z : zer Tryd.prog 53 = some .nilFunc := by kernel_rfl
theorem t53_e : elt Tryd.prog 53 = none := by kernel_rfl
theorem t54_k : knd Tryd.prog 54 = some false := by kernel_rfl
theorem t54_s : siz Tryd.prog 54 = some 1 := by kernel_rfl
theorem t54_b : byt Tryd.prog 54 = some 8 := by kernel_rfl
theorem t54_g : tag Tryd.prog 54 = 7 := by kernel_rfl
theorem t54_z : zer Tryd.prog 54 = some .nilFunc := by kernel_rfl
theorem t54_e : elt Tryd.prog 54 = none := by kernel_rfl
theorem t55_k : knd Tryd.prog 55 = some false := by kernel_rfl
theorem t55_s : siz Tryd.prog 55 = some 1 := by kernel_rfl
theorem t55_b : byt Tryd.prog 55 = some 24 := by kernel_rfl
theorem t55_g : tag Tryd.prog 55 = 3 := by kernel_rfl
theorem t55_z : zer Tryd.prog 55 = some (.slice none 0 0) := by kernel_rfl
theorem t55_e : elt Tryd.prog 55 = some 58 := by kernel_rfl
theorem t56_k : knd Tryd.prog 56 = some false := by kernel_rfl
theorem t56_s : siz Tryd.prog 56 = some 1 := by kernel_rfl
theorem t56_b : byt Tryd.prog 56 = some 24 := by kernel_rfl
theorem t56_g : tag Tryd.prog 56 = 3 := by kernel_rfl
theorem t56_z : zer Tryd.prog 56 = some (.slice none 0 0) := by kernel_rfl
theorem t56_e : elt Tryd.prog 56 = some 4 := by kernel_rfl
theorem t57_k : knd Tryd.prog 57 = some true := by kernel_rfl
theorem t57_s : siz Tryd.prog 57 = some 4 := by kernel_rfl
theorem t57_b : byt Tryd.prog 57 = some 64 := by kernel_rfl
theorem t57_g : tag Tryd.prog 57 = 0 := by kernel_rfl
theorem t57_z : zer Tryd.prog 57 = some (.agg #[(.int .i64 0), (.slice none 0 0), (.int .i64 0), (.slice none 0 0)]) := by kernel_rfl
theorem t57_e : elt Tryd.prog 57 = none := by kernel_rfl
theorem t57_f0 : fofs Tryd.prog 57 0 = some 0 := by kernel_rfl
theorem t57_f1 : fofs Tryd.prog 57 1 = some 1 := by kernel_rfl
theorem t57_f2 : fofs Tryd.prog 57 2 = some 2 := by kernel_rfl
theorem t57_f3 : fofs Tryd.prog 57 3 = some 3 := by kernel_rfl
theorem t58_k : knd Tryd.prog 58 = some true := by kernel_rfl
theorem t58_s : siz Tryd.prog 58 = some 4 := by kernel_rfl
theorem t58_b : byt Tryd.prog 58 = some 64 := by kernel_rfl
theorem t58_g : tag Tryd.prog 58 = 0 := by kernel_rfl
theorem t58_z : zer Tryd.prog 58 = some (.agg #[(.int .i64 0), (.slice none 0 0), (.int .i64 0), (.slice none 0 0)]) := by kernel_rfl
theorem t58_e : elt Tryd.prog 58 = none := by kernel_rfl
theorem t58_f0 : fofs Tryd.prog 58 0 = some 0 := by kernel_rfl
theorem t58_f1 : fofs Tryd.prog 58 1 = some 1 := by kernel_rfl
theorem t58_f2 : fofs Tryd.prog 58 2 = some 2 := by kernel_rfl
theorem t58_f3 : fofs Tryd.prog 58 3 = some 3 := by kernel_rfl
theorem t59_k : knd Tryd.prog 59 = some false := by kernel_rfl
theorem t59_s : siz Tryd.prog 59 = some 1 := by kernel_rfl
theorem t59_b : byt Tryd.prog 59 = some 8 := by kernel_rfl
theorem t59_g : tag Tryd.prog 59 = 7 := by kernel_rfl
theorem t59_z : zer Tryd.prog 59 = some .nilFunc := by kernel_rfl
theorem t59_e : elt Tryd.prog 59 = none := by kernel_rfl
theorem t60_k : knd Tryd.prog 60 = some false := by kernel_rfl
theorem t60_s : siz Tryd.prog 60 = some 1 := by kernel_rfl
theorem t60_b : byt Tryd.prog 60 = some 8 := by kernel_rfl
theorem t60_g : tag Tryd.prog 60 = 7 := by kernel_rfl
theorem t60_z : zer Tryd.prog 60 = some .nilFunc := by kernel_rfl
theorem t60_e : elt Tryd.prog 60 = none := by kernel_rfl
theorem t62_k : knd Tryd.prog 62 = some false := by kernel_rfl
theorem t62_s : siz Tryd.prog 62 = some 1 := by kernel_rfl
theorem t62_b : byt Tryd.prog 62 = some 8 := by kernel_rfl
theorem t62_g : tag Tryd.prog 62 = 7 := by kernel_rfl
theorem t62_z : zer Tryd.prog 62 = some .nilFunc := by kernel_rfl
theorem t62_e : elt Tryd.prog 62 = none := by kernel_rfl
theorem t63_k : knd Tryd.prog 63 = some false := by kernel_rfl
theorem t63_s : siz Tryd.prog 63 = some 1 := by kernel_rfl
theorem t63_b : byt Tryd.prog 63 = some 8 := by kernel_rfl
theorem t63_g : tag Tryd.prog 63 = 7 := by kernel_rfl
theorem t63_z : zer Tryd.prog 63 = some .nilFunc := by kernel_rfl
theorem t63_e : elt Tryd.prog 63 = none := by kernel_rfl
theorem t64_k : knd Tryd.prog 64 = some false := by kernel_rfl
theorem t64_s : siz Tryd.prog 64 = some 1 := by kernel_rfl
theorem t64_b : byt Tryd.prog 64 = some 24 := by kernel_rfl
theorem t64_g : tag Tryd.prog 64 = 3 := by kernel_rfl
theorem t64_z : zer Tryd.prog 64 = some (.slice none 0 0) := by kernel_rfl
theorem t64_e : elt Tryd.prog 64 = some 80 := by kernel_rfl
theorem t65_k : knd Tryd.prog 65 = some true := by kernel_rfl
theorem t65_s : siz Tryd.prog 65 = some 6 := by kernel_rfl
theorem t65_b : byt Tryd.prog 65 = some 72 := by kernel_rfl
theorem t65_g : tag Tryd.prog 65 = 0 := by kernel_rfl
theorem t65_z : zer Tryd.prog 65 = some (.agg #[(.int .i64 0), (.slice none 0 0), (.slice none 0 0), (.bool false), (.bool false), (.int .i64 0)]) := by kernel_rfl
theorem t65_e : elt Tryd.prog 65 = none := by kernel_rfl
theorem t65_f0 : fofs Tryd.prog 65 0 = some 0 := by kernel_rfl
theorem t65_f1 : fofs Tryd.prog 65 1 = some 1 := by kernel_rfl
theorem t65_f2 : fofs Tryd.prog 65 2 = some 2 := by kernel_rfl
theorem t65_f3 : fofs Tryd.prog 65 3 = some 3 := by kernel_rfl
theorem t65_f4 : fofs Tryd.prog 65 4 = some 4 := by kernel_rfl
theorem t65_f5 : fofs Tryd.prog 65 5 = some 5 := by kernel_rfl
theorem t66_k : knd Tryd.prog 66 = some true := by kernel_rfl
theorem t66_s : siz Tryd.prog 66 = some 6 := by kernel_rfl
theorem t66_b : byt Tryd.prog 66 = some 72 := by kernel_rfl
theorem t66_g : tag Tryd.prog 66 = 0 := by kernel_rfl
theorem t66_z : zer Tryd.prog 66 = some (.agg #[(.int .i64 0), (.slice none 0 0), (.slice none 0 0), (.bool false), (.bool false), (.int .i64 0)]) := by kernel_rfl
theorem t66_e : elt Tryd.prog 66 = none := by kernel_rfl
theorem t66_f0 : fofs Tryd.prog 66 0 = some 0 := by kernel_rfl
theorem t66_f1 : fofs Tryd.prog 66 1 = some 1 := by kernel_rfl
theorem t66_f2 : fofs Tryd.prog 66 2 = some 2 := by kernel_rfl
theorem t66_f3 : fofs Tryd.prog 66 3 = some 3 := by kernel_rfl
theorem t66_f4 : fofs Tryd.prog 66 4 = some 4 := by kernel_rfl
theorem t66_f5 : fofs Tryd.prog 66 5 = some 5 := by kernel_rfl
theorem t67_k : knd Tryd.prog 67 = some true := by kernel_rfl
theorem t67_s : siz Tryd.prog 67 = some 7 := by kernel_rfl
theorem t67_b : byt Tryd.prog 67 = some 72 := by kernel_rfl
theorem t67_g : tag Tryd.prog 67 = 0 := by kernel_rfl
theorem t67_z : zer Tryd.prog 67 = some (.agg #[(.pointer none), (.int .i64 0), (.int .i64 0), (.int .i64 0), (.slice none 0 0), (.int .i64 0), (.bool false)]) := by kernel_rfl
theorem t67_e : elt Tryd.prog 67 = none := by kernel_rfl
theorem t67_f0 : fofs Tryd.prog 67 0 = some 0 := by kernel_rfl
theorem t67_f1 : fofs Tryd.prog 67 1 = some 1 := by kernel_rfl
theorem t67_f2 : fofs Tryd.prog 67 2 = some 2 := by kernel_rfl
theorem t67_f3 : fofs Tryd.prog 67 3 = some 3 := by kernel_rfl
theorem t67_f4 : fofs Tryd.prog 67 4 = some 4 := by kernel_rfl
theorem t67_f5 : fofs Tryd.prog 67 5 = some 5 := by kernel_rfl
theorem t67_f6 : fofs Tryd.prog 67 6 = some 6 := by kernel_rfl
theorem t68_k : knd Tryd.prog 68 = some true := by kernel_rfl
theorem t68_s : siz Tryd.prog 68 = some 7 := by kernel_rfl
theorem t68_b : byt Tryd.prog 68 = some 72 := by kernel_rfl
theorem t68_g : tag Tryd.prog 68 = 0 := by kernel_rfl
theorem t68_z : zer Tryd.prog 68 = some (.agg #[(.pointer none), (.int .i64 0), (.int .i64 0), (.int .i64 0), (.slice none 0 0), (.int .i64 0), (.bool false)]) := by kernel_rfl
theorem t68_e : elt Tryd.prog 68 = none := by kernel_rfl
theorem t68_f0 : fofs Tryd.prog 68 0 = some 0 := by kernel_rfl
theorem t68_f1 : fofs Tryd.prog 68 1 = some 1 := by kernel_rfl
theorem t68_f2 : fofs Tryd.prog 68 2 = some 2 := by kernel_rfl
theorem t68_f3 : fofs Tryd.prog 68 3 = some 3 := by kernel_rfl
theorem t68_f4 : fofs Tryd.prog 68 4 = some 4 := by kernel_rfl
theorem t68_f5 : fofs Tryd.prog 68 5 = some 5 := by kernel_rfl
theorem t68_f6 : fofs Tryd.prog 68 6 = some 6 := by kernel_rfl
theorem t70_k : knd Tryd.prog 70 = some false := by kernel_rfl
theorem t70_s : siz Tryd.prog 70 = some 1 := by kernel_rfl
theorem t70_b : byt Tryd.prog 70 = some 8 := by kernel_rfl
theorem t70_g : tag Tryd.prog 70 = 7 := by kernel_rfl
theorem t70_z : zer Tryd.prog 70 = some .nilFunc := by kernel_rfl
theorem t70_e : elt Tryd.prog 70 = none := by kernel_rfl
theorem t71_k : knd Tryd.prog 71 = some false := by kernel_rfl
theorem t71_s : siz Tryd.prog 71 = some 1 := by kernel_rfl
theorem t71_b : byt Tryd.prog 71 = some 8 := by kernel_rfl
theorem t71_g : tag Tryd.prog 71 = 7 := by kernel_rfl
theorem t71_z : zer Tryd.prog 71 = some .nilFunc := by kernel_rfl
theorem t71_e : elt Tryd.prog 71 = none := by kernel_rfl
theorem t72_k : knd Tryd.prog 72 = some true := by kernel_rfl
theorem t72_s : siz Tryd.prog 72 = some 2 := by kernel_rfl
theorem t72_b : byt Tryd.prog 72 = some 32 := by kernel_rfl
theorem t72_g : tag Tryd.prog 72 = 0 := by kernel_rfl
theorem t72_z : zer Tryd.prog 72 = some (.agg #[(.int .i64 0), (.slice none 0 0)]) := by kernel_rfl
theorem t72_e : elt Tryd.prog 72 = none := by kernel_rfl
theorem t72_f0 : fofs Tryd.prog 72 0 = some 0 := by kernel_rfl
theorem t72_f1 : fofs Tryd.prog 72 1 = some 1 := by kernel_rfl
theorem t73_k : knd Tryd.prog 73 = some false := by kernel_rfl
theorem t73_s : siz Tryd.prog 73 = some 1 := by kernel_rfl
theorem t73_b : byt Tryd.prog 73 = some 8 := by kernel_rfl
theorem t73_g : tag Tryd.prog 73 = 7 := by kernel_rfl
theorem t73_z : zer Tryd.prog 73 = some .nilFunc := by kernel_rfl
theorem t73_e : elt Tryd.prog 73 = none := by kernel_rfl
theorem t74_k : knd Tryd.prog 74 = some false := by kernel_rfl
theorem t74_s : siz Tryd.prog 74 = some 1 := by kernel_rfl
theorem t74_b : byt Tryd.prog 74 = some 24 := by kernel_rfl
theorem t74_g : tag Tryd.prog 74 = 3 := by kernel_rfl
theorem t74_z : zer Tryd.prog 74 = some (.slice none 0 0) := by kernel_rfl
theorem t74_e : elt Tryd.prog 74 = some 72 := by kernel_rfl
theorem t75_k : knd Tryd.prog 75 = some false := by kernel_rfl
theorem t75_s : siz Tryd.prog 75 = some 1 := by kernel_rfl
theorem t75_b : byt Tryd.prog 75 = some 8 := by kernel_rfl
theorem t75_g : tag Tryd.prog 75 = 6 := by kernel_rfl
theorem t75_z : zer Tryd.prog 75 = some (.int .u64 0) := by kernel_rfl
theorem t75_e : elt Tryd.prog 75 = none := by kernel_rfl
theorem t76_k : knd Tryd.prog 76 = some false := by kernel_rfl
theorem t76_s : siz Tryd.prog 76 = some 1 := by kernel_rfl
theorem t76_b : byt Tryd.prog 76 = some 8 := by kernel_rfl
theorem t76_g : tag Tryd.prog 76 = 7 := by kernel_rfl
theorem t76_z : zer Tryd.prog 76 = some .nilFunc := by kernel_rfl
theorem t76_e : elt Tryd.prog 76 = none := by kernel_rfl
theorem t77_k : knd Tryd.prog 77 = some false := by kernel_rfl
theorem t77_s : siz Tryd.prog 77 = some 1 := by kernel_rfl
theorem t77_b : byt Tryd.prog 77 = some 8 := by kernel_rfl
theorem t77_g : tag Tryd.prog 77 = 7 := by kernel_rfl
theorem t77_z : zer Tryd.prog 77 = some .nilFunc := by kernel_rfl
theorem t77_e : elt Tryd.prog 77 = none := by kernel_rfl
theorem t78_k : knd Tryd.prog 78 = some false := by kernel_rfl
theorem t78_s : siz Tryd.prog 78 = some 1 := by kernel_rfl
theorem t78_b : byt Tryd.prog 78 = some 8 := by kernel_rfl
theorem t78_g : tag Tryd.prog 78 = 7 := by kernel_rfl
theorem t78_z : zer Tryd.prog 78 = some .nilFunc := by kernel_rfl
theorem t78_e : elt Tryd.prog 78 = none := by kernel_rfl
theorem t79_k : knd Tryd.prog 79 = some true := by kernel_rfl
theorem t79_s : siz Tryd.prog 79 = some 2 := by kernel_rfl
theorem t79_b : byt Tryd.prog 79 = some 32 := by kernel_rfl
theorem t79_g : tag Tryd.prog 79 = 0 := by kernel_rfl
theorem t79_z : zer Tryd.prog 79 = some (.agg #[(.int .i64 0), (.slice none 0 0)]) := by kernel_rfl
theorem t79_e : elt Tryd.prog 79 = none := by kernel_rfl
theorem t79_f0 : fofs Tryd.prog 79 0 = some 0 := by kernel_rfl
theorem t79_f1 : fofs Tryd.prog 79 1 = some 1 := by kernel_rfl
theorem t80_k : knd Tryd.prog 80 = some true := by kernel_rfl
theorem t80_s : siz Tryd.prog 80 = some 2 := by kernel_rfl
theorem t80_b : byt Tryd.prog 80 = some 32 := by kernel_rfl
theorem t80_g : tag Tryd.prog 80 = 0 := by kernel_rfl
theorem t80_z : zer Tryd.prog 80 = some (.agg #[(.int .i64 0), (.slice none 0 0)]) := by kernel_rfl
theorem t80_e : elt Tryd.prog 80 = none := by kernel_rfl
theorem t80_f0 : fofs Tryd.prog 80 0 = some 0 := by kernel_rfl
theorem t80_f1 : fofs Tryd.prog 80 1 = some 1 := by kernel_rfl
theorem t81_k : knd Tryd.prog 81 = some false := by kernel_rfl
theorem t81_s : siz Tryd.prog 81 = some 1 := by kernel_rfl
theorem t81_b : byt Tryd.prog 81 = some 8 := by kernel_rfl
theorem t81_g : tag Tryd.prog 81 = 7 := by kernel_rfl
theorem t81_z : zer Tryd.prog 81 = some .nilFunc := by kernel_rfl
theorem t81_e : elt Tryd.prog 81 = none := by kernel_rfl
theorem t82_k : knd Tryd.prog 82 = some false := by kernel_rfl
theorem t82_s : siz Tryd.prog 82 = some 1 := by kernel_rfl
theorem t82_b : byt Tryd.prog 82 = some 8 := by kernel_rfl
theorem t82_g : tag Tryd.prog 82 = 7 := by kernel_rfl
theorem t82_z : zer Tryd.prog 82 = some .nilFunc := by kernel_rfl
theorem t82_e : elt Tryd.prog 82 = none := by kernel_rfl
theorem t83_k : knd Tryd.prog 83 = some false := by kernel_rfl
theorem t83_s : siz Tryd.prog 83 = some 1 := by kernel_rfl
theorem t83_b : byt Tryd.prog 83 = some 8 := by kernel_rfl
theorem t83_g : tag Tryd.prog 83 = 7 := by kernel_rfl
theorem t83_z : zer Tryd.prog 83 = some .nilFunc := by kernel_rfl
theorem t83_e : elt Tryd.prog 83 = none := by kernel_rfl
theorem t84_k : knd Tryd.prog 84 = some false := by kernel_rfl
theorem t84_s : siz Tryd.prog 84 = some 1 := by kernel_rfl
theorem t84_b : byt Tryd.prog 84 = some 8 := by kernel_rfl
theorem t84_g : tag Tryd.prog 84 = 6 := by kernel_rfl
theorem t84_z : zer Tryd.prog 84 = some (.int .u64 0) := by kernel_rfl
theorem t84_e : elt Tryd.prog 84 = none := by kernel_rfl
theorem t85_k : knd Tryd.prog 85 = some false := by kernel_rfl
theorem t85_s : siz Tryd.prog 85 = some 1 := by kernel_rfl
theorem t85_b : byt Tryd.prog 85 = some 8 := by kernel_rfl
theorem t85_g : tag Tryd.prog 85 = 7 := by kernel_rfl
theorem t85_z : zer Tryd.prog 85 = some .nilFunc := by kernel_rfl
theorem t85_e : elt Tryd.prog 85 = none := by kernel_rfl
theorem t86_k : knd Tryd.prog 86 = some true := by kernel_rfl
theorem t86_s : siz Tryd.prog 86 = some 44 := by kernel_rfl
theorem t86_b : byt Tryd.prog 86 = some 44 := by kernel_rfl
theorem t86_g : tag Tryd.prog 86 = 0 := by kernel_rfl
theorem t86_z : zer Tryd.prog 86 = some (.agg (List.replicate 44 (.int .u8 0 : Value)).toArray) := by kernel_rfl
theorem t86_e : elt Tryd.prog 86 = none := by kernel_rfl
theorem t86_a : arrOf Tryd.prog 86 = some (44, 5) := by kernel_rfl
theorem t87_k : knd Tryd.prog 87 = some true := by kernel_rfl
theorem t87_s : siz Tryd.prog 87 = some 44 := by kernel_rfl
theorem t87_b : byt Tryd.prog 87 = some 44 := by kernel_rfl
theorem t87_g : tag Tryd.prog 87 = 0 := by kernel_rfl
theorem t87_z : zer Tryd.prog 87 = some (.agg (List.replicate 44 (.int .u8 0 : Value)).toArray) := by kernel_rfl
theorem t87_e : elt Tryd.prog 87 = none := by kernel_rfl
theorem t87_a : arrOf Tryd.prog 87 = some (44, 5) := by kernel_rfl
theorem t88_k : knd Tryd.prog 88 = some false := by kernel_rfl
theorem t88_s : siz Tryd.prog 88 = some 1 := by kernel_rfl
theorem t88_b : byt Tryd.prog 88 = some 8 := by kernel_rfl
theorem t88_g : tag Tryd.prog 88 = 7 := by kernel_rfl
theorem t88_z : zer Tryd.prog 88 = some .nilFunc := by kernel_rfl
theorem t88_e : elt Tryd.prog 88 = none := by kernel_rfl
theorem t89_k : knd Tryd.prog 89 = some false := by kernel_rfl
theorem t89_s : siz Tryd.prog 89 = some 1 := by kernel_rfl
theorem t89_b : byt Tryd.prog 89 = some 8 := by kernel_rfl
theorem t89_g : tag Tryd.prog 89 = 5 := by kernel_rfl
theorem t89_z : zer Tryd.prog 89 = some (.map none) := by kernel_rfl
theorem t89_e : elt Tryd.prog 89 = none := by kernel_rfl
theorem t90_k : knd Tryd.prog 90 = some false := by kernel_rfl
theorem t90_s : siz Tryd.prog 90 = some 1 := by kernel_rfl
theorem t90_b : byt Tryd.prog 90 = some 4 := by kernel_rfl
theorem t90_g : tag Tryd.prog 90 = 6 := by kernel_rfl
theorem t90_z : zer Tryd.prog 90 = some (.int .u32 0) := by kernel_rfl
theorem t90_e : elt Tryd.prog 90 = none := by kernel_rfl
theorem t91_k : knd Tryd.prog 91 = some true := by kernel_rfl
theorem t91_s : siz Tryd.prog 91 = some 8 := by kernel_rfl
theorem t91_b : byt Tryd.prog 91 = some 32 := by kernel_rfl
theorem t91_g : tag Tryd.prog 91 = 0 := by kernel_rfl
theorem t91_z : zer Tryd.prog 91 = some (.agg #[(.int .u32 0), (.int .u32 0), (.int .u32 0), (.int .u32 0), (.int .u32 0), (.int .u32 0), (.int .u32 0), (.int .u32 0)]) := by kernel_rfl
theorem t91_e : elt Tryd.prog 91 = none := by kernel_rfl
theorem t91_a : arrOf Tryd.prog 91 = some (8, 90) := by kernel_rfl
theorem t92_k : knd Tryd.prog 92 = some false := by kernel_rfl
theorem t92_s : siz Tryd.prog 92 = some 1 := by kernel_rfl
theorem t92_b : byt Tryd.prog 92 = some 8 := by kernel_rfl
theorem t92_g : tag Tryd.prog 92 = 7 := by kernel_rfl
theorem t92_z : zer Tryd.prog 92 = some .nilFunc := by kernel_rfl
theorem t92_e : elt Tryd.prog 92 = none := by kernel_rfl
theorem t93_k : knd Tryd.prog 93 = some true := by kernel_rfl
theorem t93_s : siz Tryd.prog 93 = some 64 := by kernel_rfl
theorem t93_b : byt Tryd.prog 93 = some 256 := by kernel_rfl
theorem t93_g : tag Tryd.prog 93 = 0 := by kernel_rfl
theorem t93_z : zer Tryd.prog 93 = some (.agg (List.replicate 64 (.int .u32 0 : Value)).toArray) := by kernel_rfl
theorem t93_e : elt Tryd.prog 93 = none := by kernel_rfl
theorem t93_a : arrOf Tryd.prog 93 = some (64, 90) := by kernel_rfl
theorem t94_k : knd Tryd.prog 94 = some false := by kernel_rfl
theorem t94_s : siz Tryd.prog 94 = some 1 := by kernel_rfl
theorem t94_b : byt Tryd.prog 94 = some 8 := by kernel_rfl
theorem t94_g : tag Tryd.prog 94 = 7 := by kernel_rfl
theorem t94_z : zer Tryd.prog 94 = some .nilFunc := by kernel_rfl
theorem t94_e : elt Tryd.prog 94 = none := by kernel_rfl
theorem t95_k : knd Tryd.prog 95 = some false := by kernel_rfl
theorem t95_s : siz Tryd.prog 95 = some 1 := by kernel_rfl
theorem t95_b : byt Tryd.prog 95 = some 8 := by kernel_rfl
theorem t95_g : tag Tryd.prog 95 = 7 := by kernel_rfl
theorem t95_z : zer Tryd.prog 95 = some .nilFunc := by kernel_rfl
theorem t95_e : elt Tryd.prog 95 = none := by kernel_rfl
theorem t96_k : knd Tryd.prog 96 = some false := by kernel_rfl
theorem t96_s : siz Tryd.prog 96 = some 1 := by kernel_rfl
theorem t96_b : byt Tryd.prog 96 = some 8 := by kernel_rfl
theorem t96_g : tag Tryd.prog 96 = 2 := by kernel_rfl
theorem t96_z : zer Tryd.prog 96 = some (.pointer none) := by kernel_rfl
theorem t96_e : elt Tryd.prog 96 = none := by kernel_rfl
theorem t97_k : knd Tryd.prog 97 = some false := by kernel_rfl
theorem t97_s : siz Tryd.prog 97 = some 1 := by kernel_rfl
theorem t97_b : byt Tryd.prog 97 = some 8 := by kernel_rfl
theorem t97_g : tag Tryd.prog 97 = 7 := by kernel_rfl
theorem t97_z : zer Tryd.prog 97 = some .nilFunc := by kernel_rfl
theorem t97_e : elt Tryd.prog 97 = none := by kernel_rfl
theorem t98_k : knd Tryd.prog 98 = some false := by kernel_rfl
theorem t98_s : siz Tryd.prog 98 = some 1 := by kernel_rfl
theorem t98_b : byt Tryd.prog 98 = some 8 := by kernel_rfl
theorem t98_g : tag Tryd.prog 98 = 7 := by kernel_rfl
theorem t98_z : zer Tryd.prog 98 = some .nilFunc := by kernel_rfl
theorem t98_e : elt Tryd.prog 98 = none := by kernel_rfl
theorem t99_k : knd Tryd.prog 99 = some false := by kernel_rfl
theorem t99_s : siz Tryd.prog 99 = some 1 := by kernel_rfl
theorem t99_b : byt Tryd.prog 99 = some 8 := by kernel_rfl
theorem t99_g : tag Tryd.prog 99 = 7 := by kernel_rfl
theorem t99_z : zer Tryd.prog 99 = some .nilFunc := by kernel_rfl
theorem t99_e : elt Tryd.prog 99 = none := by kernel_rfl
theorem t100_k : knd Tryd.prog 100 = some true := by kernel_rfl
theorem t100_s : siz Tryd.prog 100 = some 8 := by kernel_rfl
theorem t100_b : byt Tryd.prog 100 = some 32 := by kernel_rfl
theorem t100_g : tag Tryd.prog 100 = 0 := by kernel_rfl
theorem t100_z : zer Tryd.prog 100 = some (.agg #[(.int .u32 0), (.int .u32 0), (.int .u32 0), (.int .u32 0), (.int .u32 0), (.int .u32 0), (.int .u32 0), (.int .u32 0)]) := by kernel_rfl
theorem t100_e : elt Tryd.prog 100 = none := by kernel_rfl
theorem t100_a : arrOf Tryd.prog 100 = some (8, 90) := by kernel_rfl
theorem t101_k : knd Tryd.prog 101 = some false := by kernel_rfl
theorem t101_s : siz Tryd.prog 101 = some 1 := by kernel_rfl
theorem t101_b : byt Tryd.prog 101 = some 8 := by kernel_rfl
theorem t101_g : tag Tryd.prog 101 = 7 := by kernel_rfl
theorem t101_z : zer Tryd.prog 101 = some .nilFunc := by kernel_rfl
theorem t101_e : elt Tryd.prog 101 = none := by kernel_rfl
theorem t102_k : knd Tryd.prog 102 = some true := by kernel_rfl
theorem t102_s : siz Tryd.prog 102 = some 10 := by kernel_rfl
theorem t102_b : byt Tryd.prog 102 = some 64 := by kernel_rfl
theorem t102_g : tag Tryd.prog 102 = 0 := by kernel_rfl
theorem t102_e : elt Tryd.prog 102 = none := by kernel_rfl
theorem t102_f0 : fofs Tryd.prog 102 0 = some 0 := by kernel_rfl
theorem t102_f1 : fofs Tryd.prog 102 1 = some 8 := by kernel_rfl
theorem t102_f2 : fofs Tryd.prog 102 2 = some 9 := by kernel_rfl
theorem t103_k : knd Tryd.prog 103 = some true := by kernel_rfl
theorem t103_s : siz Tryd.prog 103 = some 10 := by kernel_rfl
theorem t103_b : byt Tryd.prog 103 = some 64 := by kernel_rfl
theorem t103_g : tag Tryd.prog 103 = 0 := by kernel_rfl
theorem t103_e : elt Tryd.prog 103 = none := by kernel_rfl
theorem t103_f0 : fofs Tryd.prog 103 0 = some 0 := by kernel_rfl
theorem t103_f1 : fofs Tryd.prog 103 1 = some 8 := by kernel_rfl
theorem t103_f2 : fofs Tryd.prog 103 2 = some 9 := by kernel_rfl
theorem t104_k : knd Tryd.prog 104 = some false := by kernel_rfl
theorem t104_s : siz Tryd.prog 104 = some 1 := by kernel_rfl
theorem t104_b : byt Tryd.prog 104 = some 8 := by kernel_rfl
theorem t104_g : tag Tryd.prog 104 = 7 := by kernel_rfl
theorem t104_z : zer Tryd.prog 104 = some .nilFunc := by kernel_rfl
theorem t104_e : elt Tryd.prog 104 = none := by kernel_rfl
theorem t105_k : knd Tryd.prog 105 = some true := by kernel_rfl
theorem t105_s : siz Tryd.prog 105 = some 4 := by kernel_rfl
theorem t105_b : byt Tryd.prog 105 = some 40 := by kernel_rfl
theorem t105_g : tag Tryd.prog 105 = 0 := by kernel_rfl
theorem t105_z : zer Tryd.prog 105 = some (.agg #[(.pointer none), (.pointer none), (.pointer none), (.string ByteArray.empty)]) := by kernel_rfl
theorem t105_e : elt Tryd.prog 105 = none := by kernel_rfl
theorem t105_f0 : fofs Tryd.prog 105 0 = some 0 := by kernel_rfl
theorem t105_f1 : fofs Tryd.prog 105 1 = some 1 := by kernel_rfl
theorem t105_f2 : fofs Tryd.prog 105 2 = some 2 := by kernel_rfl
theorem t105_f3 : fofs Tryd.prog 105 3 = some 3 := by kernel_rfl
theorem t106_k : knd Tryd.prog 106 = some true := by kernel_rfl
theorem t106_s : siz Tryd.prog 106 = some 4 := by kernel_rfl
theorem t106_b : byt Tryd.prog 106 = some 40 := by kernel_rfl
theorem t106_g : tag Tryd.prog 106 = 0 := by kernel_rfl
theorem t106_z : zer Tryd.prog 106 = some (.agg #[(.pointer none), (.pointer none), (.pointer none), (.string ByteArray.empty)]) := by kernel_rfl
theorem t106_e : elt Tryd.prog 106 = none := by kernel_rfl
theorem t106_f0 : fofs Tryd.prog 106 0 = some 0 := by kernel_rfl
theorem t106_f1 : fofs Tryd.prog 106 1 = some 1 := by kernel_rfl
theorem t106_f2 : fofs Tryd.prog 106 2 = some 2 := by kernel_rfl
theorem t106_f3 : fofs Tryd.prog 106 3 = some 3 := by kernel_rfl
theorem t107_k : knd Tryd.prog 107 = some true := by kernel_rfl
theorem t107_s : siz Tryd.prog 107 = some 0 := by kernel_rfl
theorem t107_b : byt Tryd.prog 107 = some 0 := by kernel_rfl
theorem t107_g : tag Tryd.prog 107 = 0 := by kernel_rfl
theorem t107_z : zer Tryd.prog 107 = some (.agg #[]) := by kernel_rfl
theorem t107_e : elt Tryd.prog 107 = none := by kernel_rfl
theorem t107_a : arrOf Tryd.prog 107 = some (0, 16) := by kernel_rfl
theorem t108_k : knd Tryd.prog 108 = some true := by kernel_rfl
theorem t108_s : siz Tryd.prog 108 = some 0 := by kernel_rfl
theorem t108_b : byt Tryd.prog 108 = some 0 := by kernel_rfl
theorem t108_g : tag Tryd.prog 108 = 0 := by kernel_rfl
theorem t108_e : elt Tryd.prog 108 = none := by kernel_rfl
theorem t109_k : knd Tryd.prog 109 = some true := by kernel_rfl
theorem t109_s : siz Tryd.prog 109 = some 0 := by kernel_rfl
theorem t109_b : byt Tryd.prog 109 = some 0 := by kernel_rfl
theorem t109_g : tag Tryd.prog 109 = 0 := by kernel_rfl
theorem t109_e : elt Tryd.prog 109 = none := by kernel_rfl
theorem t110_k : knd Tryd.prog 110 = some false := by kernel_rfl
theorem t110_s : siz Tryd.prog 110 = some 1 := by kernel_rfl
theorem t110_b : byt Tryd.prog 110 = some 1 := by kernel_rfl
theorem t110_g : tag Tryd.prog 110 = 6 := by kernel_rfl
theorem t110_z : zer Tryd.prog 110 = some (.int .u8 0) := by kernel_rfl
theorem t110_e : elt Tryd.prog 110 = none := by kernel_rfl
theorem t111_k : knd Tryd.prog 111 = some false := by kernel_rfl
theorem t111_s : siz Tryd.prog 111 = some 1 := by kernel_rfl
theorem t111_b : byt Tryd.prog 111 = some 1 := by kernel_rfl
theorem t111_g : tag Tryd.prog 111 = 6 := by kernel_rfl
theorem t111_z : zer Tryd.prog 111 = some (.int .u8 0) := by kernel_rfl
theorem t111_e : elt Tryd.prog 111 = none := by kernel_rfl
theorem t112_k : knd Tryd.prog 112 = some false := by kernel_rfl
theorem t112_s : siz Tryd.prog 112 = some 1 := by kernel_rfl
theorem t112_b : byt Tryd.prog 112 = some 8 := by kernel_rfl
theorem t112_g : tag Tryd.prog 112 = 7 := by kernel_rfl
theorem t112_z : zer Tryd.prog 112 = some .nilFunc := by kernel_rfl
theorem t112_e : elt Tryd.prog 112 = none := by kernel_rfl
theorem t113_k : knd Tryd.prog 113 = some false := by kernel_rfl
theorem t113_s : siz Tryd.prog 113 = some 1 := by kernel_rfl
theorem t113_b : byt Tryd.prog 113 = some 8 := by kernel_rfl
theorem t113_g : tag Tryd.prog 113 = 2 := by kernel_rfl
theorem t113_z : zer Tryd.prog 113 = some (.pointer none) := by kernel_rfl
theorem t113_e : elt Tryd.prog 113 = none := by kernel_rfl
theorem t114_k : knd Tryd.prog 114 = some false := by kernel_rfl
theorem t114_s : siz Tryd.prog 114 = some 1 := by kernel_rfl
theorem t114_b : byt Tryd.prog 114 = some 4 := by kernel_rfl
theorem t114_g : tag Tryd.prog 114 = 6 := by kernel_rfl
theorem t114_z : zer Tryd.prog 114 = some (.int .i32 0) := by kernel_rfl
theorem t114_e : elt Tryd.prog 114 = none := by kernel_rfl
theorem t115_k : knd Tryd.prog 115 = some false := by kernel_rfl
theorem t115_s : siz Tryd.prog 115 = some 1 := by kernel_rfl
theorem t115_b : byt Tryd.prog 115 = some 4 := by kernel_rfl
theorem t115_g : tag Tryd.prog 115 = 6 := by kernel_rfl
theorem t115_z : zer Tryd.prog 115 = some (.int .i32 0) := by kernel_rfl
theorem t115_e : elt Tryd.prog 115 = none := by kernel_rfl
theorem t116_k : knd Tryd.prog 116 = some true := by kernel_rfl
theorem t116_s : siz Tryd.prog 116 = some 11 := by kernel_rfl
theorem t116_b : byt Tryd.prog 116 = some 48 := by kernel_rfl
theorem t116_g : tag Tryd.prog 116 = 0 := by kernel_rfl
theorem t116_z : zer Tryd.prog 116 = some (.agg #[(.int .u64 0), (.int .u64 0), (.int .u32 0), (.int .u8 0), (.int .u8 0), (.int .u8 0), (.int .u8 0), .nilFunc, (.pointer none), (.int .i32 0), (.int .i32 0)]) := by kernel_rfl
theorem t116_e : elt Tryd.prog 116 = none := by kernel_rfl
theorem t116_f0 : fofs Tryd.prog 116 0 = some 0 := by kernel_rfl
theorem t116_f1 : fofs Tryd.prog 116 1 = some 1 := by kernel_rfl
theorem t116_f2 : fofs Tryd.prog 116 2 = some 2 := by kernel_rfl
theorem t116_f3 : fofs Tryd.prog 116 3 = some 3 := by kernel_rfl
theorem t116_f4 : fofs Tryd.prog 116 4 = some 4 := by kernel_rfl
theorem t116_f5 : fofs Tryd.prog 116 5 = some 5 := by kernel_rfl
theorem t116_f6 : fofs Tryd.prog 116 6 = some 6 := by kernel_rfl
theorem t116_f7 : fofs Tryd.prog 116 7 = some 7 := by kernel_rfl
theorem t116_f8 : fofs Tryd.prog 116 8 = some 8 := by kernel_rfl
theorem t116_f9 : fofs Tryd.prog 116 9 = some 9 := by kernel_rfl
theorem t116_f10 : fofs Tryd.prog 116 10 = some 10 := by kernel_rfl
theorem t117_k : knd Tryd.prog 117 = some true := by kernel_rfl
theorem t117_s : siz Tryd.prog 117 = some 11 := by kernel_rfl
theorem t117_b : byt Tryd.prog 117 = some 48 := by kernel_rfl
theorem t117_g : tag Tryd.prog 117 = 0 := by kernel_rfl
theorem t117_z : zer Tryd.prog 117 = some (.agg #[(.int .u64 0), (.int .u64 0), (.int .u32 0), (.int .u8 0), (.int .u8 0), (.int .u8 0), (.int .u8 0), .nilFunc, (.pointer none), (.int .i32 0), (.int .i32 0)]) := by kernel_rfl
theorem t117_e : elt Tryd.prog 117 = none := by kernel_rfl
theorem t117_f0 : fofs Tryd.prog 117 0 = some 0 := by kernel_rfl
theorem t117_f1 : fofs Tryd.prog 117 1 = some 1 := by kernel_rfl
theorem t117_f2 : fofs Tryd.prog 117 2 = some 2 := by kernel_rfl
theorem t117_f3 : fofs Tryd.prog 117 3 = some 3 := by kernel_rfl
theorem t117_f4 : fofs Tryd.prog 117 4 = some 4 := by kernel_rfl
theorem t117_f5 : fofs Tryd.prog 117 5 = some 5 := by kernel_rfl
theorem t117_f6 : fofs Tryd.prog 117 6 = some 6 := by kernel_rfl
theorem t117_f7 : fofs Tryd.prog 117 7 = some 7 := by kernel_rfl
theorem t117_f8 : fofs Tryd.prog 117 8 = some 8 := by kernel_rfl
theorem t117_f9 : fofs Tryd.prog 117 9 = some 9 := by kernel_rfl
theorem t117_f10 : fofs Tryd.prog 117 10 = some 10 := by kernel_rfl
theorem t118_k : knd Tryd.prog 118 = some false := by kernel_rfl
theorem t118_s : siz Tryd.prog 118 = some 1 := by kernel_rfl
theorem t118_b : byt Tryd.prog 118 = some 8 := by kernel_rfl
theorem t118_g : tag Tryd.prog 118 = 0 := by kernel_rfl
theorem t118_e : elt Tryd.prog 118 = none := by kernel_rfl
theorem hb3 : hasB Tryd.prog 3 = true := by kernel_rfl
theorem hb4 : hasB Tryd.prog 4 = true := by kernel_rfl
theorem hb5 : hasB Tryd.prog 5 = true := by kernel_rfl
theorem hb6 : hasB Tryd.prog 6 = true := by kernel_rfl
theorem hb7 : hasB Tryd.prog 7 = true := by kernel_rfl
theorem hb8 : hasB Tryd.prog 8 = true := by kernel_rfl
theorem hb9 : hasB Tryd.prog 9 = true := by kernel_rfl
theorem hb10 : hasB Tryd.prog 10 = true := by kernel_rfl
theorem hb11 : hasB Tryd.prog 11 = true := by kernel_rfl
theorem hb12 : hasB Tryd.prog 12 = true := by kernel_rfl
theorem hb13 : hasB Tryd.prog 13 = true := by kernel_rfl
theorem hb14 : hasB Tryd.prog 14 = true := by kernel_rfl
theorem hb15 : hasB Tryd.prog 15 = true := by kernel_rfl
theorem hb16 : hasB Tryd.prog 16 = true := by kernel_rfl
theorem hb17 : hasB Tryd.prog 17 = true := by kernel_rfl
theorem hb18 : hasB Tryd.prog 18 = true := by kernel_rfl
theorem hb19 : hasB Tryd.prog 19 = true := by kernel_rfl
theorem hb20 : hasB Tryd.prog 20 = true := by kernel_rfl
theorem hb21 : hasB Tryd.prog 21 = true := by kernel_rfl
theorem hb22 : hasB Tryd.prog 22 = true := by kernel_rfl
theorem hb23 : hasB Tryd.prog 23 = true := by kernel_rfl
theorem hb24 : hasB Tryd.prog 24 = true := by kernel_rfl
theorem hb25 : hasB Tryd.prog 25 = true := by kernel_rfl
theorem hb26 : hasB Tryd.prog 26 = true := by kernel_rfl
theorem hb27 : hasB Tryd.prog 27 = true := by kernel_rfl
theorem hb28 : hasB Tryd.prog 28 = true := by kernel_rfl
theorem hb29 : hasB Tryd.prog 29 = true := by kernel_rfl
theorem hb30 : hasB Tryd.prog 30 = true := by kernel_rfl
theorem hb31 : hasB Tryd.prog 31 = true := by kernel_rfl
theorem hb32 : hasB Tryd.prog 32 = true := by kernel_rfl
theorem hb33 : hasB Tryd.prog 33 = true := by kernel_rfl
theorem hb34 : hasB Tryd.prog 34 = true := by kernel_rfl
theorem hb35 : hasB Tryd.prog 35 = true := by kernel_rfl
theorem hb36 : hasB Tryd.prog 36 = true := by kernel_rfl
theorem hb37 : hasB Tryd.prog 37 = true := by kernel_rfl
theorem hb38 : hasB Tryd.prog 38 = true := by kernel_rfl
theorem hb39 : hasB Tryd.prog 39 = true := by kernel_rfl
theorem hb40 : hasB Tryd.prog 40 = true := by kernel_rfl
theorem hb41 : hasB Tryd.prog 41 = true := by kernel_rfl
theorem hb42 : hasB Tryd.prog 42 = true := by kernel_rfl
theorem hb43 : hasB Tryd.prog 43 = true := by kernel_rfl
theorem hb44 : hasB Tryd.prog 44 = true := by kernel_rfl
theorem hb45 : hasB Tryd.prog 45 = true := by kernel_rfl
theorem hb46 : hasB Tryd.prog 46 = true := by kernel_rfl
theorem hb47 : hasB Tryd.prog 47 = true := by kernel_rfl
theorem hb48 : hasB Tryd.prog 48 = true := by kernel_rfl
theorem hb49 : hasB Tryd.prog 49 = true := by kernel_rfl
theorem hb50 : hasB Tryd.prog 50 = true := by kernel_rfl
theorem hb51 : hasB Tryd.prog 51 = true := by kernel_rfl
theorem hb52 : hasB Tryd.prog 52 = true := by kernel_rfl
theorem hb53 : hasB Tryd.prog 53 = true := by kernel_rfl
theorem hb54 : hasB Tryd.prog 54 = true := by kernel_rfl
theorem hb55 : hasB Tryd.prog 55 = true := by kernel_rfl
theorem hb56 : hasB Tryd.prog 56 = true := by kernel_rfl
theorem hb57 : hasB Tryd.prog 57 = true := by kernel_rfl
theorem hb58 : hasB Tryd.prog 58 = true := by kernel_rfl
attribute [push_cast] t1_k t1_s t1_b t1_g t1_z t1_e t2_k t2_s t2_b t2_g t2_z t2_e t3_k t3_s t3_b t3_g t3_z t3_e t4_k t4_s t4_b t4_g t4_z t4_e t5_k t5_s t5_b t5_g t5_z t5_e t6_k t6_s t6_b t6_g t6_z t6_e t7_k t7_s t7_b t7_g
attribute [push_cast] t7_z t7_e t7_f0 t7_f1 t7_f2 t7_f3 t8_k t8_s t8_b t8_g t8_z t8_e t8_f0 t8_f1 t8_f2 t8_f3 t9_k t9_s t9_b t9_g t9_z t9_e t10_k t10_s t10_b t10_g t10_z t10_e t11_k t11_s t11_b t11_g t11_z t11_e t12_k t12_s t12_b t12_g t12_z t12_e
attribute [push_cast] t13_k t13_s t13_b t13_g t13_z t13_e t13_f0 t13_f1 t14_k t14_s t14_b t14_g t14_z t14_e t14_f0 t14_f1 t15_k t15_s t15_b t15_g t15_z t15_e t16_k t16_s t16_b t16_g t16_z t16_e t17_k t17_s t17_b t17_g t17_z t17_e t18_k t18_s t18_b t18_g t18_z t18_e
attribute [push_cast] t18_f0 t19_k t19_s t19_b t19_g t19_z t19_e t19_f0 t20_k t20_s t20_b t20_g t20_z t20_e t21_k t21_s t21_b t21_g t21_z t21_e t22_k t22_s t22_b t22_g t22_z t22_e t23_k t23_s t23_b t23_g t23_z t23_e t24_k t24_s t24_b t24_g t24_z t24_e t25_k t25_s
attribute [push_cast] t25_b t25_g t25_z t25_e t26_k t26_s t26_b t26_g t26_z t26_e t27_k t27_s t27_b t27_g t27_z t27_e t28_k t28_s t28_b t28_g t28_z t28_e t30_k t30_s t30_b t30_g t30_z t30_e t31_k t31_s t31_b t31_g t31_z t31_e t32_k t32_s t32_b t32_g t32_z t32_e
attribute [push_cast] t34_k t34_s t34_b t34_g t34_z t34_e t35_k t35_s t35_b t35_g t35_z t35_e t36_k t36_s t36_b t36_g t36_z t36_e t36_a t37_k t37_s t37_b t37_g t37_z t37_e t38_k t38_s t38_b t38_g t38_z t38_e t39_k t39_s t39_b t39_g t39_z t39_e t41_k t41_s t41_b
attribute [push_cast] t41_g t41_z t41_e t42_k t42_s t42_b t42_g t42_z t42_e t43_k t43_s t43_b t43_g t43_z t43_e t44_k t44_s t44_b t44_g t44_z t44_e t44_f0 t44_f1 t45_k t45_s t45_b t45_g t45_z t45_e t45_f0 t45_f1 t46_k t46_s t46_b t46_g t46_z t46_e t47_k t47_s t47_b
attribute [push_cast] t47_g t47_z t47_e t49_k t49_s t49_b t49_g t49_z t49_e t50_k t50_s t50_b t50_g t50_z t50_e t51_k t51_s t51_b t51_g t51_z t51_e t52_k t52_s t52_b t52_g t52_z t52_e t53_k t53_s t53_b t53_g t53_z t53_e t54_k t54_s t54_b t54_g t54_z t54_e t55_k
attribute [push_cast] t55_s t55_b t55_g t55_z t55_e t56_k t56_s t56_b t56_g t56_z t56_e t57_k t57_s t57_b t57_g t57_z t57_e t57_f0 t57_f1 t57_f2 t57_f3 t58_k t58_s t58_b t58_g t58_z t58_e t58_f0 t58_f1 t58_f2 t58_f3 t59_k t59_s t59_b t59_g t59_z t59_e t60_k t60_s t60_b
attribute [push_cast] t60_g t60_z t60_e t62_k t62_s t62_b t62_g t62_z t62_e t63_k t63_s t63_b t63_g t63_z t63_e t64_k t64_s t64_b t64_g t64_z t64_e t65_k t65_s t65_b t65_g t65_z t65_e t65_f0 t65_f1 t65_f2 t65_f3 t65_f4 t65_f5 t66_k t66_s t66_b t66_g t66_z t66_e t66_f0
attribute [push_cast] t66_f1 t66_f2 t66_f3 t66_f4 t66_f5 t67_k t67_s t67_b t67_g t67_z t67_e t67_f0 t67_f1 t67_f2 t67_f3 t67_f4 t67_f5 t67_f6 t68_k t68_s t68_b t68_g t68_z t68_e t68_f0 t68_f1 t68_f2 t68_f3 t68_f4 t68_f5 t68_f6 t70_k t70_s t70_b t70_g t70_z t70_e t71_k t71_s t71_b
attribute [push_cast] t71_g t71_z t71_e t72_k t72_s t72_b t72_g t72_z t72_e t72_f0 t72_f1 t73_k t73_s t73_b t73_g t73_z t73_e t74_k t74_s t74_b t74_g t74_z t74_e t75_k t75_s t75_b t75_g t75_z t75_e t76_k t76_s t76_b t76_g t76_z t76_e t77_k t77_s t77_b t77_g t77_z
attribute [push_cast] t77_e t78_k t78_s t78_b t78_g t78_z t78_e t79_k t79_s t79_b t79_g t79_z t79_e t79_f0 t79_f1 t80_k t80_s t80_b t80_g t80_z t80_e t80_f0 t80_f1 t81_k t81_s t81_b t81_g t81_z t81_e t82_k t82_s t82_b t82_g t82_z t82_e t83_k t83_s t83_b t83_g t83_z
attribute [push_cast] t83_e t84_k t84_s t84_b t84_g t84_z t84_e t85_k t85_s t85_b t85_g t85_z t85_e t86_k t86_s t86_b t86_g t86_z t86_e t86_a t87_k t87_s t87_b t87_g t87_z t87_e t87_a t88_k t88_s t88_b t88_g t88_z t88_e t89_k t89_s t89_b t89_g t89_z t89_e t90_k
attribute [push_cast] t90_s t90_b t90_g t90_z t90_e t91_k t91_s t91_b t91_g t91_z t91_e t91_a t92_k t92_s t92_b t92_g t92_z t92_e t93_k t93_s t93_b t93_g t93_z t93_e t93_a t94_k t94_s t94_b t94_g t94_z t94_e t95_k t95_s t95_b t95_g t95_z t95_e t96_k t96_s t96_b
attribute [push_cast] t96_g t96_z t96_e t97_k t97_s t97_b t97_g t97_z t97_e t98_k t98_s t98_b t98_g t98_z t98_e t99_k t99_s t99_b t99_g t99_z t99_e t100_k t100_s t100_b t100_g t100_z t100_e t100_a t101_k t101_s t101_b t101_g t101_z t101_e t102_k t102_s t102_b t102_g t102_e t102_f0
attribute [push_cast] t102_f1 t102_f2 t103_k t103_s t103_b t103_g t103_e t103_f0 t103_f1 t103_f2 t104_k t104_s t104_b t104_g t104_z t104_e t105_k t105_s t105_b t105_g t105_z t105_e t105_f0 t105_f1 t105_f2 t105_f3 t106_k t106_s t106_b t106_g t106_z t106_e t106_f0 t106_f1 t106_f2 t106_f3 t107_k t107_s t107_b t107_g
attribute [push_cast] t107_z t107_e t107_a t108_k t108_s t108_b t108_g t108_e t109_k t109_s t109_b t109_g t109_e t110_k t110_s t110_b t110_g t110_z t110_e t111_k t111_s t111_b t111_g t111_z t111_e t112_k t112_s t112_b t112_g t112_z t112_e t113_k t113_s t113_b t113_g t113_z t113_e t114_k t114_s t114_b
attribute [push_cast] t114_g t114_z t114_e t115_k t115_s t115_b t115_g t115_z t115_e t116_k t116_s t116_b t116_g t116_z t116_e t116_f0 t116_f1 t116_f2 t116_f3 t116_f4 t116_f5 t116_f6 t116_f7 t116_f8 t116_f9 t116_f10 t117_k t117_s t117_b t117_g t117_z t117_e t117_f0 t117_f1 t117_f2 t117_f3 t117_f4 t117_f5 t117_f6 t117_f7
attribute [push_cast] t117_f8 t117_f9 t117_f10 t118_k t118_s t118_b t118_g t118_e hb3 hb4 hb5 hb6 hb7 hb8 hb9 hb10 hb11 hb12 hb13 hb14 hb15 hb16 hb17 hb18 hb19 hb20 hb21 hb22 hb23 hb24 hb25 hb26 hb27 hb28 hb29 hb30 hb31 hb32 hb33 hb34
attribute [push_cast] hb35 hb36 hb37 hb38 hb39 hb40 hb41 hb42 hb43 hb44 hb45 hb46 hb47 hb48 hb49 hb50 hb51 hb52 hb53 hb54 hb55 hb56 hb57 hb58
-- 3 plexus/plexuslaw27.CheckpointAlternates
abbrev pl3 : Plan := (.two (.reg []) (.two (.two (.reg [19]) (.two (.two (.reg [4]) .lf) .lf)) (.two (.reg [5]) (.two (.two (.reg [28]) (.two (.two (.reg [4]) .lf) .lf)) (.two (.reg [6]) (.two (.reg [7, 8]) (.two (.two (.reg [42]) (.two (.two (.reg [4]) .lf) .lf)) (.two (.two (.reg [9]) (.blk (.lop [9] (.two (.two (.reg [46]) (.two .lf .lf)) (.two (.blk (.two (.two (.drw [56] [6] [(6, [2, 3, 4])] []) (.two (.two (.reg [4]) .lf) .lf)) (.two (.two (.reg [63]) (.two (.two (.reg [4]) .lf) .lf)) (.two (.reg [10, 11]) (.two (.two (.reg [71]) (.two (.two (.reg [4]) .lf) .lf)) (.two (.reg [12, 13]) (.two (.two (.drw [90] [] [] []) (.two (.two (.reg [4]) .lf) .lf)) (.two (.reg [14, 15]) (.two (.two (.reg [110]) (.two (.two (.reg [4]) .lf) .lf)) (.two (.reg [112]) (.two (.two (.reg [16, 17]) (.two (.drw [137] [] [] []) (.two (.two (.reg [4]) .lf) .lf))) .lf))))))))))) (.reg [9])))))) (.two (.reg [4]) .lf)))))))))
theorem ok3 : okFn Tryd.f3 (Tryd.f3.body.getD .skip) pl3 2 = true := by kernel_rfl
abbrev rs3 : List Nat := [4]
theorem in3 : Tryd.prog.inits.idxOf? 3 = none := by kernel_rfl
-- 4 plexus/plexuslaw27.CheckpointFinds
abbrev pl4 : Plan := (.two (.reg []) (.two (.two (.reg [16]) (.two (.two (.reg [4]) .lf) .lf)) (.two (.reg [5]) (.two (.two (.reg [21]) (.two (.two (.reg [4]) .lf) .lf)) (.two (.reg [6]) (.two (.reg [7]) (.two (.reg [8, 9]) (.two (.two (.reg [37]) (.two (.two (.reg [4]) .lf) .lf)) (.two (.reg [10, 11]) (.two (.reg [12, 13]) (.two (.reg [4]) .lf)))))))))))
theorem ok4 : okFn Tryd.f4 (Tryd.f4.body.getD .skip) pl4 2 = true := by kernel_rfl
abbrev rs4 : List Nat := [4]
theorem in4 : Tryd.prog.inits.idxOf? 4 = none := by kernel_rfl
-- 5 plexus/plexuslaw27.CheckpointSaves
abbrev pl5 : Plan := (.two (.reg []) (.two (.two (.reg [23]) (.two (.two (.reg [6]) .lf) .lf)) (.two (.reg [7, 8]) (.two (.two (.reg [40]) (.two (.two (.reg [6]) .lf) .lf)) (.two (.reg [9]) (.two (.reg [10, 11]) (.two (.two (.reg [59]) (.two (.two (.reg [6]) .lf) .lf)) (.two (.reg [12, 13, 14]) (.two (.reg [15]) (.two (.two (.reg [79]) (.two (.two (.reg [16, 17]) (.two (.reg [6]) .lf)) .lf)) (.two (.reg [18]) (.two (.two (.reg [19]) (.blk (.lop [19] (.two (.two (.reg [121]) (.two .lf .lf)) (.two (.blk (.two (.reg [129]) (.two (.drw [] [11] [] []) .lf))) (.reg [19])))))) (.two (.reg [20, 21]) (.two (.reg [6]) .lf))))))))))))))
theorem ok5 : okFn Tryd.f5 (Tryd.f5.body.getD .skip) pl5 3 = true := by kernel_rfl
abbrev rs5 : List Nat := [6]
theorem in5 : Tryd.prog.inits.idxOf? 5 = none := by kernel_rfl
-- 6 plexus/plexuslaw27.CheckpointOpens
abbrev pl6 : Plan := (.two (.reg []) (.two (.two (.reg [18]) (.two (.two (.reg [10]) .lf) .lf)) (.two (.two (.reg [20]) (.two (.two (.reg [10]) .lf) .lf)) (.two (.reg [11, 12]) (.two (.two (.reg [28]) (.two (.two (.reg [10]) .lf) .lf)) (.two (.two (.reg [29]) (.two (.two (.reg []) (.reg [])) .lf)) (.two (.reg [13, 14]) (.two (.two (.reg [62]) (.two (.two (.reg [10]) .lf) .lf)) (.two (.two (.reg [65]) (.two (.two (.reg [10]) .lf) .lf)) (.two (.reg [15, 16]) (.two (.reg [10]) .lf)))))))))))
theorem ok6 : okFn Tryd.f6 (Tryd.f6.body.getD .skip) pl6 5 = true := by kernel_rfl
abbrev rs6 : List Nat := [10]
theorem in6 : Tryd.prog.inits.idxOf? 6 = none := by kernel_rfl
-- 7 plexus/plexuslaw27.CheckpointCounts
abbrev pl7 : Plan := (.two (.reg []) (.two (.two (.reg [22]) (.two (.two (.reg [8]) .lf) .lf)) (.two (.reg [9, 10]) (.two (.two (.reg [39]) (.two (.two (.reg [8]) .lf) .lf)) (.two (.reg [11]) (.two (.reg [12, 13]) (.two (.reg [15, 16]) (.two (.two (.reg [77]) (.two (.two (.reg [8]) .lf) .lf)) (.two (.reg [17]) (.two (.reg [18]) (.two (.reg []) (.two (.reg [19]) (.two (.two (.reg [20]) (.blk (.lop [20] (.two (.two (.reg [106]) (.two .lf .lf)) (.two (.blk (.two (.reg [114]) (.two (.reg []) (.drw [] [11] [] [])))) (.reg [20])))))) (.two (.two (.reg [132]) (.two (.two (.reg [8]) .lf) .lf)) (.two (.two (.reg [161]) (.two (.two (.reg [8]) .lf) .lf)) (.two (.reg []) (.two (.reg []) (.two (.reg [8]) .lf))))))))))))))))))
theorem ok7 : okFn Tryd.f7 (Tryd.f7.body.getD .skip) pl7 4 = true := by kernel_rfl
abbrev rs7 : List Nat := [8]
theorem in7 : Tryd.prog.inits.idxOf? 7 = none := by kernel_rfl
-- 8 plexus/plexuslaw27.CheckpointSurvives
abbrev pl8 : Plan := (.two (.reg []) (.two (.two (.reg [20]) (.two (.two (.reg [6]) .lf) .lf)) (.two (.reg [7]) (.two (.two (.reg [30]) (.two (.two (.reg [6]) .lf) .lf)) (.two (.reg [8, 9]) (.two (.two (.reg [48]) (.two (.two (.reg [6]) .lf) .lf)) (.two (.reg [10]) (.two (.reg [12]) (.two (.reg [13]) (.two (.two (.reg [14]) (.blk (.lop [8, 10, 12, 13, 14] (.two (.two (.reg [57]) (.two .lf .lf)) (.two (.blk (.two (.reg [15]) (.two (.reg [65]) (.blk (.two (.reg [66]) (.two (.two (.reg [16]) (.two (.reg [73]) (.two (.reg [10, 13]) (.two (.reg [81]) (.two (.drw [12, 13] [6] [(6, [0, 1, 2, 3, 4])] []) .lf))))) (.two (.reg [90]) (.two (.reg []) (.two (.reg [96]) (.two (.two (.reg []) (.two (.reg [8, 9]) (.two (.two (.reg [111]) (.two (.two (.reg [6]) .lf) .lf)) (.two (.reg [17]) (.two (.two (.reg [132]) (.two (.two (.reg [6]) .lf) .lf)) (.reg [10, 13])))))) .lf)))))))))) (.reg [14])))))) (.two (.reg [6]) .lf)))))))))))
theorem ok8 : okFn Tryd.f8 (Tryd.f8.body.getD .skip) pl8 3 = true := by kernel_rfl
abbrev rs8 : List Nat := [6]
theorem in8 : Tryd.prog.inits.idxOf? 8 = none := by kernel_rfl
-- 9 plexus/plexuslaw27.CheckpointEvery
abbrev pl9 : Plan := (.two (.reg []) (.two (.two (.reg [19]) (.two (.two (.reg [8]) .lf) .lf)) (.two (.two (.reg [9]) (.blk (.lop [9] (.two (.two (.reg [21]) (.two .lf .lf)) (.two (.blk (.two (.reg [10]) (.two (.two (.reg [27]) (.two (.two (.reg [8]) .lf) .lf)) (.two (.reg [11, 12]) (.two (.two (.reg [37]) (.two (.two (.reg [8]) .lf) .lf)) (.two (.two (.reg [49]) (.two (.two (.reg [8]) .lf) .lf)) (.two (.two (.reg [53]) (.two (.two (.reg [8]) .lf) .lf)) (.two (.reg []) (.two (.reg [13]) (.two (.reg []) (.two (.reg [14, 15]) (.two (.two (.reg [72]) (.two (.two (.reg [8]) .lf) .lf)) (.two (.reg [16, 17]) (.two (.two (.reg [99]) (.two (.two (.reg [8]) .lf) .lf)) (.two (.reg [101]) (.two (.two (.reg [8]) .lf) .lf)))))))))))))))) (.reg [9])))))) (.two (.reg [8]) .lf))))
theorem ok9 : okFn Tryd.f9 (Tryd.f9.body.getD .skip) pl9 4 = true := by kernel_rfl
abbrev rs9 : List Nat := [8]
theorem in9 : Tryd.prog.inits.idxOf? 9 = none := by kernel_rfl
-- 10 plexus/plexuslaw27.awake
abbrev pl10 : Plan := (.two (.reg []) (.two (.reg [1, 2]) (.two (.two (.reg [14]) (.two (.two (.reg [0]) .lf) .lf)) (.two (.reg [3, 4]) (.two (.two (.reg [36]) (.two (.two (.reg [0]) .lf) .lf)) (.two (.reg [5, 6]) (.two (.reg [7, 8]) (.two (.drw [0] [14, 15] [(14, [13]), (15, [13])] []) .lf))))))))
theorem ok10 : okFn Tryd.f10 (Tryd.f10.body.getD .skip) pl10 0 = true := by kernel_rfl
abbrev rs10 : List Nat := [0]
theorem in10 : Tryd.prog.inits.idxOf? 10 = none := by kernel_rfl
-- 11 plexus/plexuslaw27.make64
abbrev pl11 : Plan := (.two (.reg []) (.two (.reg [5, 6]) (.two (.two (.reg [28]) (.two (.two (.reg [4]) .lf) .lf)) (.two (.two (.reg [7]) (.blk (.lop [7] (.two (.two (.reg [38]) (.two .lf .lf)) (.two (.blk (.two (.reg [8]) (.two (.two (.reg [9]) (.blk (.lop [9] (.two (.two (.reg [56]) (.two .lf .lf)) (.two (.blk (.reg [])) (.reg [9])))))) (.two (.reg [73]) (.two (.two (.reg [4]) .lf) .lf))))) (.reg [7])))))) (.two (.two (.reg [76]) (.two (.two (.reg [4]) .lf) .lf)) (.two (.reg [4]) .lf))))))
theorem ok11 : okFn Tryd.f11 (Tryd.f11.body.getD .skip) pl11 2 = true := by kernel_rfl
abbrev rs11 : List Nat := [4]
theorem in11 : Tryd.prog.inits.idxOf? 11 = none := by kernel_rfl
-- 12 (*plexus/disk.Disk).Sectors
abbrev pl12 : Plan := (.two (.reg []) (.two (.reg [2]) .lf))
theorem ok12 : okFn Tryd.f12 (Tryd.f12.body.getD .skip) pl12 1 = true := by kernel_rfl
abbrev rs12 : List Nat := [2]
theorem in12 : Tryd.prog.inits.idxOf? 12 = none := by kernel_rfl
-- 13 plexus/checkpoint.Open
abbrev pl13 : Plan := (.two (.reg []) (.two (.two (.reg [38]) (.two (.two (.reg [6, 7]) .lf) .lf)) (.two (.two (.reg [40]) (.two (.two (.reg [6, 7]) .lf) .lf)) (.two (.reg [8]) (.two (.two (.reg [47]) (.blk (.lop [47] (.two (.reg [48]) (.two (.two .lf .lf) (.two (.blk (.two (.reg [9]) (.two (.reg [10, 11, 12, 13]) (.two (.two (.reg [59]) (.two (.two (.reg [6, 7]) .lf) .lf)) (.two (.reg [69]) (.two (.reg []) .lf)))))) (.reg [47]))))))) (.two (.reg [6, 7]) .lf))))))
theorem ok13 : okFn Tryd.f13 (Tryd.f13.body.getD .skip) pl13 3 = true := by kernel_rfl
abbrev rs13 : List Nat := [6, 7]
theorem in13 : Tryd.prog.inits.idxOf? 13 = none := by kernel_rfl
-- 14 (*plexus/checkpoint.Store).Room
abbrev pl14 : Plan := (.two (.reg []) (.two (.drw [2] [9] [(9, [1, 2, 3, 4])] []) .lf))
theorem ok14 : okFn Tryd.f14 (Tryd.f14.body.getD .skip) pl14 1 = true := by kernel_rfl
abbrev rs14 : List Nat := [2]
theorem in14 : Tryd.prog.inits.idxOf? 14 = none := by kernel_rfl
-- 15 (*plexus/checkpoint.Store).Save
abbrev pl15 : Plan := (.two (.reg []) (.two (.blk (.two (.reg [9]) (.two (.two (.reg [4]) .lf) (.two (.reg [14]) (.two (.two (.reg [4]) .lf) .lf))))) (.two (.reg [5]) (.two (.two (.reg [38]) (.two (.reg [5]) .lf)) (.two (.reg [6]) (.two (.two (.alt 15 6 20 [64, 65, 66]
   ⟨#[{ dst := some 42, op := Go.Op.move (Go.Operand.tmp 6), type := 3, pos := "checkpoint.go:138", after := #[], guard := none },
    { dst := some 43, op := Go.Op.move (Go.Operand.tmp 0), type := 27, pos := "checkpoint.go:138", after := #[], guard := none },
    { dst := some 44, op := Go.Op.nilCheck (Go.Operand.tmp 43), type := 0, pos := "checkpoint.go:138", after := #[{ on := 1, ground := Go.Ground.data }], guard := none },
    { dst := some 45, op := Go.Op.fieldAddr 68 (Go.Operand.tmp 44) 0, type := 0, pos := "checkpoint.go:138", after := #[{ on := 2, ground := Go.Ground.data }], guard := none },
    { dst := some 46, op := Go.Op.load 24 (Go.Operand.tmp 45), type := 24, pos := "checkpoint.go:138", after := #[{ on := 3, ground := Go.Ground.data }], guard := none },
    { dst := some 47, op := Go.Op.call { callee := Go.Callee.value (Go.Operand.func 21), args := #[Go.Operand.tmp 46], argTypes := #[24] }, type := 3, pos := "checkpoint.go:141", after := #[{ on := 4, ground := Go.Ground.data }], guard := none },
    { dst := some 48, op := Go.Op.makeSlice 31 (Go.Operand.tmp 47) (Go.Operand.tmp 47), type := 31, pos := "checkpoint.go:138", after := #[{ on := 5, ground := Go.Ground.data }, { on := 5, ground := Go.Ground.data }], guard := none },
    { dst := some 49, op := Go.Op.build 72 #[(0, Go.Operand.tmp 42), (1, Go.Operand.tmp 48)], type := 72, pos := "checkpoint.go:138", after := #[{ on := 0, ground := Go.Ground.data }, { on := 6, ground := Go.Ground.data }], guard := none },
    { dst := some 50, op := Go.Op.move (Go.Operand.tmp 6), type := 3, pos := "checkpoint.go:138", after := #[], guard := none },
    { dst := some 51, op := Go.Op.binOp Go.BinOp.add 3 (Go.Operand.tmp 50) (Go.Operand.const (Go.Value.int Go.IntKind.i64 1)) 3, type := 3, pos := "checkpoint.go:138", after := #[{ on := 8, ground := Go.Ground.data }], guard := none },
    { dst := some 52, op := Go.Op.move (Go.Operand.tmp 1), type := 31, pos := "checkpoint.go:138", after := #[], guard := none },
    { dst := some 53, op := Go.Op.build 72 #[(0, Go.Operand.tmp 51), (1, Go.Operand.tmp 52)], type := 72, pos := "checkpoint.go:138", after := #[{ on := 9, ground := Go.Ground.data }, { on := 10, ground := Go.Ground.data }], guard := none },
    { dst := some 54, op := Go.Op.move (Go.Operand.tmp 6), type := 3, pos := "checkpoint.go:138", after := #[], guard := none },
    { dst := some 55, op := Go.Op.move (Go.Operand.tmp 0), type := 27, pos := "checkpoint.go:138", after := #[], guard := none },
    { dst := some 56, op := Go.Op.move (Go.Operand.tmp 1), type := 31, pos := "checkpoint.go:138", after := #[], guard := none },
    { dst := some 57, op := Go.Op.move (Go.Operand.tmp 0), type := 27, pos := "checkpoint.go:138", after := #[], guard := none },
    { dst := some 58, op := Go.Op.nilCheck (Go.Operand.tmp 57), type := 0, pos := "checkpoint.go:138", after := #[{ on := 15, ground := Go.Ground.data }], guard := none },
    { dst := some 59, op := Go.Op.fieldAddr 68 (Go.Operand.tmp 58) 5, type := 0, pos := "checkpoint.go:138", after := #[{ on := 16, ground := Go.Ground.data }], guard := none },
    { dst := some 60, op := Go.Op.load 2 (Go.Operand.tmp 59), type := 2, pos := "checkpoint.go:138", after := #[{ on := 17, ground := Go.Ground.data }], guard := none },
    { dst := some 61, op := Go.Op.binOp Go.BinOp.add 2 (Go.Operand.tmp 60) (Go.Operand.const (Go.Value.int Go.IntKind.i64 1)) 2, type := 2, pos := "checkpoint.go:138", after := #[{ on := 18, ground := Go.Ground.data }], guard := none },
    { dst := some 62, op := Go.Op.call { callee := Go.Callee.value (Go.Operand.func 35), args := #[Go.Operand.tmp 55, Go.Operand.tmp 56, Go.Operand.tmp 61], argTypes := #[27, 31, 2] }, type := 31, pos := "checkpoint.go:141", after := #[{ on := 13, ground := Go.Ground.data }, { on := 14, ground := Go.Ground.data }, { on := 19, ground := Go.Ground.data }, { on := 5, ground := Go.Ground.chain }, { on := 6, ground := Go.Ground.data }], guard := none },
    { dst := some 63, op := Go.Op.build 72 #[(0, Go.Operand.tmp 54), (1, Go.Operand.tmp 62)], type := 72, pos := "checkpoint.go:138", after := #[{ on := 12, ground := Go.Ground.data }, { on := 20, ground := Go.Ground.data }], guard := none },
    { dst := some 64, op := Go.Op.buildSlice 74 3 #[(0, Go.Operand.tmp 49), (1, Go.Operand.tmp 53), (2, Go.Operand.tmp 63)], type := 74, pos := "checkpoint.go:138", after := #[{ on := 7, ground := Go.Ground.data }, { on := 11, ground := Go.Ground.data }, { on := 21, ground := Go.Ground.data }], guard := none },
    { dst := some 65, op := Go.Op.call { callee := Go.Callee.builtin Go.Builtin.len, args := #[Go.Operand.tmp 64], argTypes := #[74] }, type := 3, pos := "checkpoint.go:138", after := #[{ on := 22, ground := Go.Ground.data }], guard := none },
    { dst := some 66, op := Go.Op.move (Go.Operand.const (Go.Value.int Go.IntKind.i64 0)), type := 3, pos := "checkpoint.go:138", after := #[], guard := none }],
    [0, 1, 2, 3, 4, 5, 6, 7, 8, 9, 10, 11, 12, 13, 14, 15, 16, 17, 18, 19, 20, 21, 22, 23, 24], [5, 6, 20, 22], [(20, [7, 9, 11])], [(9, [5, 6]), (11, [5, 6]), (16, [5, 6]), (17, [5, 6]), (18, [5, 6]), (19, [5, 6])]⟩
   ⟨#[{ dst := some 42, op := Go.Op.move (Go.Operand.tmp 6), type := 3, pos := "checkpoint.go:138", after := #[], guard := none },
    { dst := some 43, op := Go.Op.move (Go.Operand.tmp 0), type := 27, pos := "checkpoint.go:138", after := #[], guard := none },
    { dst := some 44, op := Go.Op.nilCheck (Go.Operand.tmp 43), type := 0, pos := "checkpoint.go:138", after := #[{ on := 1, ground := Go.Ground.data }], guard := none },
    { dst := some 45, op := Go.Op.fieldAddr 68 (Go.Operand.tmp 44) 0, type := 0, pos := "checkpoint.go:138", after := #[{ on := 2, ground := Go.Ground.data }], guard := none },
    { dst := some 46, op := Go.Op.load 24 (Go.Operand.tmp 45), type := 24, pos := "checkpoint.go:138", after := #[{ on := 3, ground := Go.Ground.data }], guard := none },
    { dst := some 47, op := Go.Op.call { callee := Go.Callee.value (Go.Operand.func 21), args := #[Go.Operand.tmp 46], argTypes := #[24] }, type := 3, pos := "checkpoint.go:141", after := #[{ on := 4, ground := Go.Ground.data }], guard := none },
    { dst := some 50, op := Go.Op.move (Go.Operand.tmp 6), type := 3, pos := "checkpoint.go:138", after := #[], guard := none },
    { dst := some 51, op := Go.Op.binOp Go.BinOp.add 3 (Go.Operand.tmp 50) (Go.Operand.const (Go.Value.int Go.IntKind.i64 1)) 3, type := 3, pos := "checkpoint.go:138", after := #[{ on := 6, ground := Go.Ground.data }], guard := none },
    { dst := some 52, op := Go.Op.move (Go.Operand.tmp 1), type := 31, pos := "checkpoint.go:138", after := #[], guard := none },
    { dst := some 53, op := Go.Op.build 72 #[(0, Go.Operand.tmp 51), (1, Go.Operand.tmp 52)], type := 72, pos := "checkpoint.go:138", after := #[{ on := 7, ground := Go.Ground.data }, { on := 8, ground := Go.Ground.data }], guard := none },
    { dst := some 54, op := Go.Op.move (Go.Operand.tmp 6), type := 3, pos := "checkpoint.go:138", after := #[], guard := none },
    { dst := some 55, op := Go.Op.move (Go.Operand.tmp 0), type := 27, pos := "checkpoint.go:138", after := #[], guard := none },
    { dst := some 56, op := Go.Op.move (Go.Operand.tmp 1), type := 31, pos := "checkpoint.go:138", after := #[], guard := none },
    { dst := some 57, op := Go.Op.move (Go.Operand.tmp 0), type := 27, pos := "checkpoint.go:138", after := #[], guard := none },
    { dst := some 58, op := Go.Op.nilCheck (Go.Operand.tmp 57), type := 0, pos := "checkpoint.go:138", after := #[{ on := 13, ground := Go.Ground.data }], guard := none },
    { dst := some 59, op := Go.Op.fieldAddr 68 (Go.Operand.tmp 58) 5, type := 0, pos := "checkpoint.go:138", after := #[{ on := 14, ground := Go.Ground.data }], guard := none },
    { dst := some 60, op := Go.Op.load 2 (Go.Operand.tmp 59), type := 2, pos := "checkpoint.go:138", after := #[{ on := 15, ground := Go.Ground.data }], guard := none },
    { dst := some 61, op := Go.Op.binOp Go.BinOp.add 2 (Go.Operand.tmp 60) (Go.Operand.const (Go.Value.int Go.IntKind.i64 1)) 2, type := 2, pos := "checkpoint.go:138", after := #[{ on := 16, ground := Go.Ground.data }], guard := none },
    { dst := some 62, op := Go.Op.call { callee := Go.Callee.value (Go.Operand.func 35), args := #[Go.Operand.tmp 55, Go.Operand.tmp 56, Go.Operand.tmp 61], argTypes := #[27, 31, 2] }, type := 31, pos := "checkpoint.go:141", after := #[{ on := 11, ground := Go.Ground.data }, { on := 12, ground := Go.Ground.data }, { on := 17, ground := Go.Ground.data }, { on := 5, ground := Go.Ground.chain }], guard := none },
    { dst := some 48, op := Go.Op.makeSlice 31 (Go.Operand.tmp 47) (Go.Operand.tmp 47), type := 31, pos := "checkpoint.go:138", after := #[{ on := 5, ground := Go.Ground.data }, { on := 5, ground := Go.Ground.data }, { on := 18, ground := Go.Ground.data }], guard := none },
    { dst := some 49, op := Go.Op.build 72 #[(0, Go.Operand.tmp 42), (1, Go.Operand.tmp 48)], type := 72, pos := "checkpoint.go:138", after := #[{ on := 0, ground := Go.Ground.data }, { on := 19, ground := Go.Ground.data }], guard := none },
    { dst := some 63, op := Go.Op.build 72 #[(0, Go.Operand.tmp 54), (1, Go.Operand.tmp 62)], type := 72, pos := "checkpoint.go:138", after := #[{ on := 10, ground := Go.Ground.data }, { on := 18, ground := Go.Ground.data }], guard := none },
    { dst := some 64, op := Go.Op.buildSlice 74 3 #[(0, Go.Operand.tmp 49), (1, Go.Operand.tmp 53), (2, Go.Operand.tmp 63)], type := 74, pos := "checkpoint.go:138", after := #[{ on := 20, ground := Go.Ground.data }, { on := 9, ground := Go.Ground.data }, { on := 21, ground := Go.Ground.data }], guard := none },
    { dst := some 65, op := Go.Op.call { callee := Go.Callee.builtin Go.Builtin.len, args := #[Go.Operand.tmp 64], argTypes := #[74] }, type := 3, pos := "checkpoint.go:138", after := #[{ on := 22, ground := Go.Ground.data }], guard := none },
    { dst := some 66, op := Go.Op.move (Go.Operand.const (Go.Value.int Go.IntKind.i64 0)), type := 3, pos := "checkpoint.go:138", after := #[], guard := none }],
    [0, 1, 2, 3, 4, 5, 8, 9, 10, 11, 12, 13, 14, 15, 16, 17, 18, 19, 20, 6, 7, 21, 22, 23, 24], [5, 18, 19, 22], [(18, [7, 9]), (19, [7, 9])], [(7, [5]), (9, [5]), (14, [5]), (15, [5]), (16, [5]), (17, [5]), (21, [19])]⟩) (.blk (.lop [66] (.two (.reg [67]) (.two (.two .lf .lf) (.two (.blk (.two (.reg [8]) (.two (.reg [76]) (.two (.two (.reg []) (.two (.reg [4]) .lf)) .lf)))) (.reg [66]))))))) (.two (.reg []) (.two (.reg []) (.two (.reg [4]) .lf)))))))))
theorem ok15 : okFnS 15 Tryd.f15 (Tryd.f15.body.getD .skip) pl15 2 = true := by kernel_rfl
theorem ae15 : altEq (Tryd.f15.body.getD .skip) pl15 := ⟨trivial, ⟨trivial, ⟨trivial, ⟨⟨trivial, trivial⟩, ⟨trivial, ⟨⟨⟨by kernel_rfl, by kernel_rfl⟩, trivial⟩, ⟨trivial, ⟨trivial, ⟨trivial, trivial⟩⟩⟩⟩⟩⟩⟩⟩⟩
abbrev rs15 : List Nat := [4]
theorem in15 : Tryd.prog.inits.idxOf? 15 = none := by kernel_rfl
-- 16 (*plexus/checkpoint.Store).Load
abbrev pl16 : Plan := (.two (.reg []) (.two (.two (.reg [8]) (.two (.two (.reg [2, 3]) .lf) .lf)) (.two (.drw [2, 3] [0, 5] [] [(2, [0]), (3, [0]), (4, [0]), (7, [0, 5]), (8, [0, 5]), (9, [0, 5])]) .lf)))
theorem ok16 : okFn Tryd.f16 (Tryd.f16.body.getD .skip) pl16 1 = true := by kernel_rfl
abbrev rs16 : List Nat := [2, 3]
theorem in16 : Tryd.prog.inits.idxOf? 16 = none := by kernel_rfl
-- 17 plexus/plexusref27.Slot
abbrev pl17 : Plan := (.two (.reg []) (.two (.two (.reg [19]) (.two (.two (.reg [2, 3]) .lf) .lf)) (.two (.reg [4]) (.two (.two (.reg [5]) (.blk (.lop [4, 5] (.two (.two (.reg [23]) (.two .lf .lf)) (.two (.blk (.reg [4])) (.reg [5])))))) (.two (.reg [6]) (.two (.drw [7, 8] [2, 5] [] [(4, [2])]) (.two (.two (.reg [53]) (.two (.two (.reg [2, 3]) .lf) .lf)) (.two (.reg [9]) (.two (.two (.drw [69] [5] [] [(8, [5])]) (.two (.two (.reg [2, 3]) .lf) .lf)) (.two (.reg [2, 3]) .lf))))))))))
theorem ok17 : okFn Tryd.f17 (Tryd.f17.body.getD .skip) pl17 1 = true := by kernel_rfl
abbrev rs17 : List Nat := [2, 3]
theorem in17 : Tryd.prog.inits.idxOf? 17 = none := by kernel_rfl
-- 18 plexus/plexuslaw27.slots
abbrev pl18 : Plan := (.two (.reg [4]) (.two (.reg [5]) (.two (.reg [6]) (.two (.two (.reg [7]) (.blk (.lop [7] (.two (.two (.reg [15]) (.two .lf .lf)) (.two (.blk (.two (.reg [8]) (.drw [] [9, 10, 12] [(9, [2, 5, 6, 7]), (10, [2])] []))) (.reg [7])))))) (.two (.reg []) .lf)))))
theorem ok18 : okFn Tryd.f18 (Tryd.f18.body.getD .skip) pl18 2 = true := by kernel_rfl
abbrev rs18 : List Nat := [4]
theorem in18 : Tryd.prog.inits.idxOf? 18 = none := by kernel_rfl
-- 19 plexus/plexuslaw27.all
abbrev pl19 : Plan := (.two (.reg []) (.two (.reg [3]) (.two (.two (.reg [4]) (.blk (.lop [3, 4] (.two (.two (.reg [10]) (.two .lf .lf)) (.two (.blk (.two (.reg [5]) (.reg [3]))) (.reg [4])))))) (.two (.reg [2]) .lf))))
theorem ok19 : okFn Tryd.f19 (Tryd.f19.body.getD .skip) pl19 1 = true := by kernel_rfl
abbrev rs19 : List Nat := [2]
theorem in19 : Tryd.prog.inits.idxOf? 19 = none := by kernel_rfl
-- 20 plexus/plexusref27.Newest
abbrev pl20 : Plan := (.two (.reg [1]) (.two (.reg [5, 6]) (.two (.reg [7, 8]) (.two (.two (.reg [26]) (.two (.two (.reg [2, 3, 4]) .lf) .lf)) (.two (.two (.reg [29]) (.two (.two (.reg [2, 3, 4]) .lf) .lf)) (.two (.reg [2, 3, 4]) .lf))))))
theorem ok20 : okFn Tryd.f20 (Tryd.f20.body.getD .skip) pl20 1 = true := by kernel_rfl
abbrev rs20 : List Nat := [2, 3, 4]
theorem in20 : Tryd.prog.inits.idxOf? 20 = none := by kernel_rfl
-- 21 (*plexus/disk.Disk).Size
abbrev pl21 : Plan := (.two (.reg []) (.two (.reg [2]) .lf))
theorem ok21 : okFn Tryd.f21 (Tryd.f21.body.getD .skip) pl21 1 = true := by kernel_rfl
abbrev rs21 : List Nat := [2]
theorem in21 : Tryd.prog.inits.idxOf? 21 = none := by kernel_rfl
-- 22 (*plexus/disk.Disk).Cached
abbrev pl22 : Plan := (.two (.reg []) (.two (.reg [2]) .lf))
theorem ok22 : okFn Tryd.f22 (Tryd.f22.body.getD .skip) pl22 1 = true := by kernel_rfl
abbrev rs22 : List Nat := [2]
theorem in22 : Tryd.prog.inits.idxOf? 22 = none := by kernel_rfl
-- 23 (*plexus/checkpoint.Store).Down
abbrev pl23 : Plan := (.two (.reg []) (.two (.reg [2]) .lf))
theorem ok23 : okFn Tryd.f23 (Tryd.f23.body.getD .skip) pl23 1 = true := by kernel_rfl
abbrev rs23 : List Nat := [2]
theorem in23 : Tryd.prog.inits.idxOf? 23 = none := by kernel_rfl
-- 24 plexus/plexusref27.Saves
abbrev pl24 : Plan := (.two (.reg []) (.two (.reg [9]) (.two (.drw [10] [2, 5] [] [(4, [2])]) (.two (.two (.reg [11]) (.blk (.lop [10, 11] (.two (.two (.reg [26]) (.two .lf .lf)) (.two (.blk (.two (.reg [12]) (.two (.two (.reg [13]) (.blk (.lop [13] (.two (.two (.reg [43]) (.two .lf .lf)) (.two (.blk (.reg [])) (.reg [13])))))) (.reg [10])))) (.reg [11])))))) (.two (.drw [8] [6, 9, 10] [(6, [1])] [(8, [6])]) .lf)))))
theorem ok24 : okFn Tryd.f24 (Tryd.f24.body.getD .skip) pl24 4 = true := by kernel_rfl
abbrev rs24 : List Nat := [8]
theorem in24 : Tryd.prog.inits.idxOf? 24 = none := by kernel_rfl
-- 25 (*plexus/disk.Disk).Write
abbrev pl25 : Plan := (.two (.reg []) (.two (.two (.reg [19]) (.two (.two (.reg [6]) .lf) .lf)) (.two (.two (.reg [22]) (.two (.two (.reg [6]) .lf) .lf)) (.two (.drw [] [8, 10, 11, 14] [(8, [2, 3, 4]), (10, [2, 3, 4])] []) (.two (.reg [6]) .lf)))))
theorem ok25 : okFn Tryd.f25 (Tryd.f25.body.getD .skip) pl25 3 = true := by kernel_rfl
abbrev rs25 : List Nat := [6]
theorem in25 : Tryd.prog.inits.idxOf? 25 = none := by kernel_rfl
-- 26 plexus/disk.New
abbrev pl26 : Plan := (.two (.reg []) (.two (.two (.reg [21]) (.two (.two (.reg [4, 5]) .lf) .lf)) (.two (.reg [6]) (.two (.two (.reg [31, 32]) (.blk (.lop [32] (.two (.reg [33]) (.two (.two .lf .lf) (.two (.blk (.two (.reg [7]) (.drw [] [6, 8] [(6, [1, 2, 3])] []))) (.reg [32]))))))) (.two (.reg [4, 5]) .lf)))))
theorem ok26 : okFn Tryd.f26 (Tryd.f26.body.getD .skip) pl26 2 = true := by kernel_rfl
abbrev rs26 : List Nat := [4, 5]
theorem in26 : Tryd.prog.inits.idxOf? 26 = none := by kernel_rfl
-- 27 (*plexus/disk.Disk).Fail
abbrev pl27 : Plan := (.two (.reg [8]) (.two (.reg []) .lf))
theorem ok27 : okFn Tryd.f27 (Tryd.f27.body.getD .skip) pl27 2 = true := by kernel_rfl
abbrev rs27 : List Nat := []
theorem in27 : Tryd.prog.inits.idxOf? 27 = none := by kernel_rfl
-- 28 (*plexus/disk.Disk).Sync
abbrev pl28 : Plan := (.two (.reg []) (.two (.two (.reg [5]) (.two (.two (.reg [2]) .lf) .lf)) (.two (.reg []) (.two (.reg [2]) .lf))))
theorem ok28 : okFn Tryd.f28 (Tryd.f28.body.getD .skip) pl28 1 = true := by kernel_rfl
abbrev rs28 : List Nat := [2]
theorem in28 : Tryd.prog.inits.idxOf? 28 = none := by kernel_rfl
-- 29 (*plexus/disk.Disk).Down
abbrev pl29 : Plan := (.two (.reg []) (.two (.reg [2]) .lf))
theorem ok29 : okFn Tryd.f29 (Tryd.f29.body.getD .skip) pl29 1 = true := by kernel_rfl
abbrev rs29 : List Nat := [2]
theorem in29 : Tryd.prog.inits.idxOf? 29 = none := by kernel_rfl
-- 30 (*plexus/disk.Disk).Crash
abbrev pl30 : Plan := (.two (.reg [3]) (.two (.reg []) (.reg [])))
theorem ok30 : okFn Tryd.f30 (Tryd.f30.body.getD .skip) pl30 2 = true := by kernel_rfl
abbrev rs30 : List Nat := []
theorem in30 : Tryd.prog.inits.idxOf? 30 = none := by kernel_rfl
-- 31 (*plexus/disk.Disk).Read
abbrev pl31 : Plan := (.two (.reg []) (.two (.two (.reg [10]) (.two (.two (.reg [4, 5]) .lf) .lf)) (.two (.two (.reg [14]) (.two (.two (.reg [4, 5]) .lf) .lf)) (.two (.two (.reg [6]) (.blk (.lop [6] (.two (.two (.reg [22]) (.two .lf .lf)) (.two (.blk (.two (.reg [34]) (.two (.two (.reg [4, 5]) .lf) .lf))) (.reg [6])))))) (.two (.reg [4, 5]) .lf)))))
theorem ok31 : okFn Tryd.f31 (Tryd.f31.body.getD .skip) pl31 2 = true := by kernel_rfl
abbrev rs31 : List Nat := [4, 5]
theorem in31 : Tryd.prog.inits.idxOf? 31 = none := by kernel_rfl
-- 32 plexus/plexusref27.Header
abbrev pl32 : Plan := (.two (.reg []) (.two (.reg [7]) (.two (.reg [8]) (.two (.reg [7]) (.two (.blk (.lop [7] (.two (.two (.reg [28]) (.two .lf .lf)) (.blk (.reg [7]))))) (.two (.reg [6]) .lf))))))
theorem ok32 : okFn Tryd.f32 (Tryd.f32.body.getD .skip) pl32 3 = true := by kernel_rfl
abbrev rs32 : List Nat := [6]
theorem in32 : Tryd.prog.inits.idxOf? 32 = none := by kernel_rfl
-- 33 (*plexus/checkpoint.Store).read
abbrev pl33 : Plan := (.two (.reg []) (.two (.drw [8, 9] [6, 7] [(6, [1, 2, 3])] []) (.two (.two (.reg [32]) (.two (.two (.reg [4, 5, 6, 7]) .lf) .lf)) (.two (.reg [10, 11]) (.two (.two (.reg [35, 36, 37]) (.blk (.lop [10, 37] (.two (.reg [38]) (.two (.two .lf .lf) (.two (.blk (.two (.reg [13]) (.reg [10]))) (.reg [37]))))))) (.two (.two (.reg [48, 49, 50]) (.blk (.lop [11, 50] (.two (.reg [51]) (.two (.two .lf .lf) (.two (.blk (.two (.reg [15]) (.reg [11]))) (.reg [50]))))))) (.two (.two (.reg [71]) (.two (.two (.reg [4, 5, 6, 7]) .lf) .lf)) (.two (.reg [16]) (.two (.two (.reg [17]) (.blk (.lop [16, 17] (.two (.two (.reg [75]) (.two .lf .lf)) (.two (.blk (.two (.drw [18, 19] [6, 9] [(6, [1, 2, 3])] []) (.two (.two (.reg [92]) (.two (.two (.reg [4, 5, 6, 7]) .lf) .lf)) (.reg [16])))) (.reg [17])))))) (.two (.reg [16]) (.two (.reg [4, 5, 6, 7]) .lf)))))))))))
theorem ok33 : okFn Tryd.f33 (Tryd.f33.body.getD .skip) pl33 2 = true := by kernel_rfl
abbrev rs33 : List Nat := [4, 5, 6, 7]
theorem in33 : Tryd.prog.inits.idxOf? 33 = none := by kernel_rfl
-- 34 (*plexus/checkpoint.Store).start
abbrev pl34 : Plan := (.two (.reg []) (.two (.drw [4] [] [] []) .lf))
theorem ok34 : okFn Tryd.f34 (Tryd.f34.body.getD .skip) pl34 2 = true := by kernel_rfl
abbrev rs34 : List Nat := [4]
theorem in34 : Tryd.prog.inits.idxOf? 34 = none := by kernel_rfl
-- 35 (*plexus/checkpoint.Store).header
abbrev pl35 : Plan := (.two (.reg []) (.two (.reg [7]) (.two (.reg [8]) (.two (.reg []) (.two (.reg [6]) .lf)))))
theorem ok35 : okFn Tryd.f35 (Tryd.f35.body.getD .skip) pl35 3 = true := by kernel_rfl
abbrev rs35 : List Nat := [6]
theorem in35 : Tryd.prog.inits.idxOf? 35 = none := by kernel_rfl
-- 36 (*plexus/checkpoint.Store).put
abbrev pl36 : Plan := (.two (.reg []) (.two (.blk (.lop [1, 2] (.two (.two (.reg [11]) (.two .lf .lf)) (.blk (.two (.reg [7]) (.two (.reg [2]) (.two (.two (.reg [8]) (.two (.reg [31]) (.two (.two (.reg [6]) .lf) .lf))) (.reg [1])))))))) (.two (.reg [6]) .lf)))
theorem ok36 : okFn Tryd.f36 (Tryd.f36.body.getD .skip) pl36 3 = true := by kernel_rfl
abbrev rs36 : List Nat := [6]
theorem in36 : Tryd.prog.inits.idxOf? 36 = none := by kernel_rfl
-- 37 plexus/plexusref27.number
abbrev pl37 : Plan := (.two (.reg []) (.two (.reg [3]) (.two (.two (.reg [4]) (.blk (.lop [3, 4] (.two (.two (.reg [8]) (.two .lf .lf)) (.two (.blk (.reg [3])) (.reg [4])))))) (.two (.reg [2]) .lf))))
theorem ok37 : okFn Tryd.f37 (Tryd.f37.body.getD .skip) pl37 1 = true := by kernel_rfl
abbrev rs37 : List Nat := [2]
theorem in37 : Tryd.prog.inits.idxOf? 37 = none := by kernel_rfl
-- 38 (*plexus/disk.Disk).has
abbrev pl38 : Plan := (.two (.reg []) (.two (.reg [4]) .lf))
theorem ok38 : okFn Tryd.f38 (Tryd.f38.body.getD .skip) pl38 2 = true := by kernel_rfl
abbrev rs38 : List Nat := [4]
theorem in38 : Tryd.prog.inits.idxOf? 38 = none := by kernel_rfl
-- 39 (*plexus/disk.Disk).operate
abbrev pl39 : Plan := (.two (.reg []) (.two (.two (.reg [13]) (.two (.reg []) .lf)) (.two (.two (.reg [20]) (.two (.two (.reg [2]) .lf) .lf)) (.two (.two (.reg [24]) (.two (.reg []) .lf)) (.two (.reg [2]) .lf)))))
theorem ok39 : okFn Tryd.f39 (Tryd.f39.body.getD .skip) pl39 1 = true := by kernel_rfl
abbrev rs39 : List Nat := [2]
theorem in39 : Tryd.prog.inits.idxOf? 39 = none := by kernel_rfl
-- 40 (*plexus/disk.Disk).clone
abbrev pl40 : Plan := (.two (.reg []) (.two (.reg [5]) (.two (.reg []) (.two (.reg [4]) .lf))))
theorem ok40 : okFn Tryd.f40 (Tryd.f40.body.getD .skip) pl40 2 = true := by kernel_rfl
abbrev rs40 : List Nat := [4]
theorem in40 : Tryd.prog.inits.idxOf? 40 = none := by kernel_rfl
-- 41 (*plexus/disk.Disk).settle
abbrev pl41 : Plan := (.two (.reg [4]) (.two (.two (.reg [13, 14, 15]) (.blk (.lop [15] (.two (.reg [16]) (.two (.two .lf .lf) (.two (.blk (.two (.reg [5, 6]) (.two (.reg [22]) (.two (.reg []) .lf)))) (.reg [15]))))))) (.two (.two (.reg [30]) (.blk (.lop [] (.two (.reg [32]) (.two (.two .lf .lf) (.blk (.two (.reg [7, 8]) (.reg [])))))))) (.reg []))))
theorem ok41 : okFn Tryd.f41 (Tryd.f41.body.getD .skip) pl41 2 = true := by kernel_rfl
abbrev rs41 : List Nat := []
theorem in41 : Tryd.prog.inits.idxOf? 41 = none := by kernel_rfl
-- 42 (*plexus/disk.Disk).Sync$1
abbrev pl42 : Plan := (.two (.reg []) (.two (.reg [2]) .lf))
theorem ok42 : okFn Tryd.f42 (Tryd.f42.body.getD .skip) pl42 1 = true := by kernel_rfl
abbrev rs42 : List Nat := [2]
theorem in42 : Tryd.prog.inits.idxOf? 42 = none := by kernel_rfl
-- 43 (*plexus/disk.Disk).Crash$1
abbrev pl43 : Plan := (.two (.reg []) (.two (.reg [3]) .lf))
theorem ok43 : okFn Tryd.f43 (Tryd.f43.body.getD .skip) pl43 2 = true := by kernel_rfl
abbrev rs43 : List Nat := [3]
theorem in43 : Tryd.prog.inits.idxOf? 43 = none := by kernel_rfl
-- 44 plexus/plexusref27.big
abbrev pl44 : Plan := (.two (.reg []) (.two (.two (.reg [7]) (.blk (.lop [0, 7] (.two (.two (.reg [11]) (.two .lf .lf)) (.two (.blk (.reg [0])) (.reg [7])))))) (.two (.reg [6]) .lf)))
theorem ok44 : okFn Tryd.f44 (Tryd.f44.body.getD .skip) pl44 3 = true := by kernel_rfl
abbrev rs44 : List Nat := [6]
theorem in44 : Tryd.prog.inits.idxOf? 44 = none := by kernel_rfl
-- 45 plexus/plexusref03.Sum
abbrev pl45 : Plan := (.two (.reg []) (.two (.reg [3]) (.two (.reg [4]) (.two (.two (.reg [5]) (.blk (.lop [5] (.two (.two (.reg [15]) (.two .lf .lf)) (.two (.blk (.drw [] [6, 7] [] [])) (.reg [5])))))) (.two (.reg [6]) (.two (.two (.reg [7]) (.blk (.lop [6, 7] (.two (.two (.reg [26]) (.two .lf .lf)) (.two (.blk (.two (.reg [8]) (.reg [6]))) (.reg [7])))))) (.two (.reg [2]) .lf)))))))
theorem ok45 : okFn Tryd.f45 (Tryd.f45.body.getD .skip) pl45 1 = true := by kernel_rfl
abbrev rs45 : List Nat := [2]
theorem in45 : Tryd.prog.inits.idxOf? 45 = none := by kernel_rfl
-- 46 bytes.Equal
abbrev pl46 : Plan := (.two (.reg []) (.two (.reg [4]) .lf))
theorem ok46 : okFn Tryd.f46 (Tryd.f46.body.getD .skip) pl46 2 = true := by kernel_rfl
abbrev rs46 : List Nat := [4]
theorem in46 : Tryd.prog.inits.idxOf? 46 = none := by kernel_rfl
-- 47 plexus/checkpoint.headOf
abbrev pl47 : Plan := (.two (.reg [4]) (.two (.reg [5]) (.two (.two (.reg [8]) (.blk (.lop [8] (.two (.reg [9]) (.two (.two .lf .lf) (.two (.blk (.two (.reg [6]) (.reg []))) (.reg [8]))))))) (.two (.two (.reg [20]) (.blk (.lop [20] (.two (.reg [21]) (.two (.two .lf .lf) (.two (.blk (.two (.reg [7]) (.reg []))) (.reg [20]))))))) (.two (.drw [] [1, 3, 5, 6, 7] [(1, [0]), (3, [0]), (5, [0]), (6, [0])] [(2, [1])]) (.two (.reg []) .lf))))))
theorem ok47 : okFn Tryd.f47 (Tryd.f47.body.getD .skip) pl47 2 = true := by kernel_rfl
abbrev rs47 : List Nat := [4]
theorem in47 : Tryd.prog.inits.idxOf? 47 = none := by kernel_rfl
-- 48 plexus/plexusref03.Padded
abbrev pl48 : Plan := (.two (.reg []) (.two (.reg [3]) (.two (.blk (.lop [3] (.two (.two (.reg [14]) (.two .lf .lf)) (.blk (.reg [3]))))) (.two (.reg [4]) (.two (.two (.reg [5]) (.blk (.lop [3, 5] (.two (.two (.reg [23]) (.two .lf .lf)) (.two (.blk (.reg [3])) (.reg [5])))))) (.two (.reg [2]) .lf))))))
theorem ok48 : okFn Tryd.f48 (Tryd.f48.body.getD .skip) pl48 1 = true := by kernel_rfl
abbrev rs48 : List Nat := [2]
theorem in48 : Tryd.prog.inits.idxOf? 48 = none := by kernel_rfl
-- 49 plexus/plexusref03.block
abbrev pl49 : Plan := (.two (.reg [2, 4]) (.two (.reg [5]) (.two (.two (.reg [6]) (.blk (.lop [6] (.two (.two (.reg [24]) (.two .lf .lf)) (.two (.blk (.drw [] [35] [] [])) (.reg [6])))))) (.two (.two (.reg [7]) (.blk (.lop [7] (.two (.two (.reg [63]) (.two .lf .lf)) (.two (.blk (.two (.drw [8, 9] [] [] []) (.two (.reg [10]) (.two (.reg [11]) (.drw [] [15] [] []))))) (.reg [7])))))) (.two (.reg [12]) (.two (.reg [13]) (.two (.two (.reg [14]) (.blk (.lop [14] (.two (.two (.reg [108]) (.two .lf .lf)) (.two (.blk (.two (.drw [15, 16] [] [] []) (.two (.reg [17]) (.two (.reg [18]) (.two (.drw [19] [] [] []) (.two (.reg [20]) (.two (.reg [21]) (.reg [])))))))) (.reg [14])))))) (.two (.two (.reg [22]) (.blk (.lop [22] (.two (.two (.reg [191]) (.two .lf .lf)) (.two (.blk (.drw [] [8] [] [])) (.reg [22])))))) (.two (.reg []) .lf)))))))))
theorem ok49 : okFn Tryd.f49 (Tryd.f49.body.getD .skip) pl49 2 = true := by kernel_rfl
abbrev rs49 : List Nat := [4]
theorem in49 : Tryd.prog.inits.idxOf? 49 = none := by kernel_rfl
-- 50 plexus/sha256.Sum
abbrev pl50 : Plan := (.two (.reg []) (.two (.reg [3]) (.two (.reg []) (.two (.reg [2]) .lf))))
theorem ok50 : okFn Tryd.f50 (Tryd.f50.body.getD .skip) pl50 1 = true := by kernel_rfl
abbrev rs50 : List Nat := [2]
theorem in50 : Tryd.prog.inits.idxOf? 50 = none := by kernel_rfl
-- 51 plexus/plexusref03.rotr
abbrev pl51 : Plan := (.two (.reg []) (.two (.reg [4]) .lf))
theorem ok51 : okFn Tryd.f51 (Tryd.f51.body.getD .skip) pl51 2 = true := by kernel_rfl
abbrev rs51 : List Nat := [4]
theorem in51 : Tryd.prog.inits.idxOf? 51 = none := by kernel_rfl
-- 52 plexus/plexusref03.constants
abbrev pl52 : Plan := (.two (.reg [0]) (.two (.reg []) .lf))
theorem ok52 : okFn Tryd.f52 (Tryd.f52.body.getD .skip) pl52 0 = true := by kernel_rfl
abbrev rs52 : List Nat := [0]
theorem in52 : Tryd.prog.inits.idxOf? 52 = none := by kernel_rfl
-- 53 plexus/sha256.New
abbrev pl53 : Plan := (.two (.reg []) (.two (.reg [0]) .lf))
theorem ok53 : okFn Tryd.f53 (Tryd.f53.body.getD .skip) pl53 0 = true := by kernel_rfl
abbrev rs53 : List Nat := [0]
theorem in53 : Tryd.prog.inits.idxOf? 53 = none := by kernel_rfl
-- 54 (*plexus/sha256.State).Write
abbrev pl54 : Plan := (.two (.reg []) (.two (.two (.reg [19]) (.two (.two (.reg [4]) (.two (.drw [] [8, 11] [] []) (.two (.reg [1]) (.two (.two (.reg [48]) (.two .lf .lf)) (.two (.drw [] [9, 12] [] []) (.reg [])))))) .lf)) (.two (.blk (.lop [1] (.two (.two (.reg [66]) (.two .lf .lf)) (.blk (.two (.drw [] [7, 10] [] []) (.reg [1])))))) (.reg []))))
theorem ok54 : okFn Tryd.f54 (Tryd.f54.body.getD .skip) pl54 2 = true := by kernel_rfl
abbrev rs54 : List Nat := []
theorem in54 : Tryd.prog.inits.idxOf? 54 = none := by kernel_rfl
-- 55 (*plexus/sha256.State).Sum
abbrev pl55 : Plan := (.two (.reg []) (.two (.reg [3]) (.two (.blk (.lop [3] (.two (.two (.reg [21]) (.two .lf .lf)) (.blk (.reg [3]))))) (.two (.reg [4]) (.two (.two (.reg [5]) (.blk (.lop [3, 5] (.two (.two (.reg [32]) (.two .lf .lf)) (.two (.blk (.reg [3])) (.reg [5])))))) (.two (.reg [6]) (.two (.blk (.lop [3] (.two (.two (.reg [48]) (.two .lf .lf)) (.two (.blk (.drw [] [3, 4] [] [])) (.reg [3]))))) (.two (.reg [7]) (.two (.two (.reg [56, 57]) (.blk (.lop [7, 57] (.two (.reg [58]) (.two (.two .lf .lf) (.two (.blk (.two (.reg [9]) (.reg [7]))) (.reg [57]))))))) (.two (.reg [2]) .lf))))))))))
theorem ok55 : okFn Tryd.f55 (Tryd.f55.body.getD .skip) pl55 1 = true := by kernel_rfl
abbrev rs55 : List Nat := [2]
theorem in55 : Tryd.prog.inits.idxOf? 55 = none := by kernel_rfl
-- 56 plexus/sha256.initial
abbrev pl56 : Plan := (.two (.reg [0]) (.two (.reg []) .lf))
theorem ok56 : okFn Tryd.f56 (Tryd.f56.body.getD .skip) pl56 0 = true := by kernel_rfl
abbrev rs56 : List Nat := [0]
theorem in56 : Tryd.prog.inits.idxOf? 56 = none := by kernel_rfl
-- 57 (plexus/sha256.words).block
abbrev pl57 : Plan := (.two (.reg [2, 4]) (.two (.reg [5]) (.two (.two (.reg [23]) (.blk (.lop [23] (.two (.reg [24]) (.two (.two .lf .lf) (.two (.blk (.two (.reg [6]) (.drw [] [35] [] []))) (.reg [23]))))))) (.two (.two (.reg [7]) (.blk (.lop [7] (.two (.two (.reg [63]) (.two .lf .lf)) (.two (.blk (.two (.drw [8, 9] [] [] []) (.two (.reg [10]) (.two (.reg [11]) (.drw [] [15] [] []))))) (.reg [7])))))) (.two (.reg [12]) (.two (.two (.reg [106]) (.blk (.lop [106] (.two (.reg [107]) (.two (.two .lf .lf) (.two (.blk (.two (.reg [13]) (.two (.drw [14, 15, 16, 17, 18, 19] [] [] []) (.two (.drw [20] [3, 5, 8] [(3, [0, 1]), (5, [0, 1]), (8, [0, 1, 6])] [(13, [3, 5, 8]), (15, [3, 5, 8]), (17, [3, 5, 8]), (18, [3, 5, 8]), (21, [3, 5, 8]), (22, [3, 5, 8]), (25, [3, 5, 8]), (26, [3, 5, 8])]) (.two (.reg [21]) (.reg [])))))) (.reg [106]))))))) (.two (.two (.reg [184]) (.blk (.lop [184] (.two (.reg [185]) (.two (.two .lf .lf) (.two (.blk (.two (.reg [22]) (.drw [] [8] [] []))) (.reg [184]))))))) (.two (.reg []) .lf))))))))
theorem ok57 : okFn Tryd.f57 (Tryd.f57.body.getD .skip) pl57 2 = true := by kernel_rfl
abbrev rs57 : List Nat := [4]
theorem in57 : Tryd.prog.inits.idxOf? 57 = none := by kernel_rfl
-- 58 plexus/sha256.rotr
abbrev pl58 : Plan := (.two (.reg []) (.two (.reg [4]) .lf))
theorem ok58 : okFn Tryd.f58 (Tryd.f58.body.getD .skip) pl58 2 = true := by kernel_rfl
abbrev rs58 : List Nat := [4]
theorem in58 : Tryd.prog.inits.idxOf? 58 = none := by kernel_rfl
end Go.Proofs.YtkceoefmhppddaaDoor.Fd
