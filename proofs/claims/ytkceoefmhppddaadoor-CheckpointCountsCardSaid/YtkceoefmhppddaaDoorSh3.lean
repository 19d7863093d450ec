/-
  The specification's block function.
-/
import Derived.Test.YtkceoefmhppddaaDoorSh2
namespace Go.Proofs.YtkceoefmhppddaaDoor.Fd
set_option linter.unusedSimpArgs false
set_option linter.unusedVariables false
open Go
set_option maxRecDepth 100000
def kRow : List Value := (List.range 64).map fun i => vW (kV i)
theorem kRow_len : kRow.length = 64 := by simp [kRow]
theorem kRow_one : ∀ u ∈ kRow, u.oneCell' = true := by
  intro u hu
  obtain ⟨i, _, rfl⟩ := List.mem_map.1 hu
  rfl
theorem kRow_at {i : Nat} (h : i < 64) : kRow[i]? = some (vW (kV i)) := by simp [kRow, h]
theorem bld_k (w : World) : bldS Tryd.prog 93 #[(0, .int .u32 1116352408), (1, .int .u32 1899447441), (2, .int .u32 3049323471), (3, .int .u32 3921009573), (4, .int .u32 961987163), (5, .int .u32 1508970993), (6, .int .u32 2453635748), (7, .int .u32 2870763221), (8, .int .u32 3624381080), (9, .int .u32 310598401), (10, .int .u32 607225278), (11, .int .u32 1426881987), (12, .int .u32 1925078388), (13, .int .u32 2162078206), (14, .int .u32 2614888103), (15, .int .u32 3248222580), (16, .int .u32 3835390401), (17, .int .u32 4022224774), (18, .int .u32 264347078), (19, .int .u32 604807628), (20, .int .u32 770255983), (21, .int .u32 1249150122), (22, .int .u32 1555081692), (23, .int .u32 1996064986), (24, .int .u32 2554220882), (25, .int .u32 2821834349), (26, .int .u32 2952996808), (27, .int .u32 3210313671), (28, .int .u32 3336571891), (29, .int .u32 3584528711), (30, .int .u32 113926993), (31, .int .u32 338241895), (32, .int .u32 666307205), (33, .int .u32 773529912), (34, .int .u32 1294757372), (35, .int .u32 1396182291), (36, .int .u32 1695183700), (37, .int .u32 1986661051), (38, .int .u32 2177026350), (39, .int .u32 2456956037), (40, .int .u32 2730485921), (41, .int .u32 2820302411), (42, .int .u32 3259730800), (43, .int .u32 3345764771), (44, .int .u32 3516065817), (45, .int .u32 3600352804), (46, .int .u32 4094571909), (47, .int .u32 275423344), (48, .int .u32 430227734), (49, .int .u32 506948616), (50, .int .u32 659060556), (51, .int .u32 883997877), (52, .int .u32 958139571), (53, .int .u32 1322822218), (54, .int .u32 1537002063), (55, .int .u32 1747873779), (56, .int .u32 1955562222), (57, .int .u32 2024104815), (58, .int .u32 2227730452), (59, .int .u32 2361852424), (60, .int .u32 2428436474), (61, .int .u32 2756734187), (62, .int .u32 3204031479), (63, .int .u32 3329325298)] w = some (.agg kRow.toArray, w) := by kernel_rfl
set_option maxHeartbeats 4000000 in
theorem constants_ok {w : World} : Ok (den Tryd.prog 52 #[] w) fun v w' => v = .agg kRow.toArray ∧ Upd (fun _ => False) w w' := by
  refine den_okC1 (args := []) 0 93 Tryd.func52 rfl mixed in52 ok52 rfl ?_
  have hb : Blk (w.alloc (.cells (List.replicate 64 (Value.int .u32 0)).toArray 93 (0, 0))) w.heap.size (List.replicate 64 (Value.int .u32 0)) 93 := Blk.new
  have hst := st_blk (t := 93) (cs' := kRow) hb (by rw [kRow_len]; exact t93_s) (by rw [kRow_len, List.length_replicate]) kRow_one
  have hld := ld_blk (t := 93) (hb.setRow (cs' := kRow)) t93_k (by rw [kRow_len]; exact t93_s)
  simp (config := { maxSteps := 3000000 }) (disch := omega) only [push_cast, Nat.reduceBEq, Nat.reduceEqDiff, Nat.reduceAdd, Nat.reduceMul, Nat.reduceSub, Nat.reduceLT, Int.reduceToNat, Int.reduceLT, Int.reduceLE, Int.reduceEq, Int.reduceAdd, Int.reduceSub, Int.reduceNeg, Int.reduceMul, bld_k, hst, hld]
  exact Upd.alloc.trans (Upd.setRow (F := fun b => b = w.heap.size) rfl) fun b hb e => by omega
end Go.Proofs.YtkceoefmhppddaaDoor.Fd
