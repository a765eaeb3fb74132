/-
  The table of the program's types.
  Conditions: none.
-/
import Derived.Test.YtecpiplfjmmccaaCn4
import Derived.Test.YtecpiplfjmmccaaProg
namespace Go.Proofs.Ytecpiplfjmmccaa.AM
open Go
namespace Ty
@[reducible] def t2 : TI := ⟨1, 8, false, some (.int .i64 0), .int .i64⟩
@[reducible] def t3 : TI := ⟨1, 8, false, some (.int .i64 0), .int .i64⟩
@[reducible] def t4 : TI := ⟨1, 1, false, some (.bool false), .bool⟩
@[reducible] def t5 : TI := ⟨1, 1, false, some (.int .u8 0), .int .u8⟩
@[reducible] def t6 : TI := ⟨1, 1, false, some (.int .u8 0), .int .u8⟩
@[reducible] def t7 : TI := ⟨4, 24, true, some (.agg [.int .i64 0, .int .i64 0, .bool false, .int .u8 0]), .strct [(0, 1, 2), (1, 1, 3), (2, 1, 4), (3, 1, 6)]⟩
@[reducible] def t8 : TI := ⟨4, 24, true, some (.agg [.int .i64 0, .int .i64 0, .bool false, .int .u8 0]), .strct [(0, 1, 2), (1, 1, 3), (2, 1, 4), (3, 1, 6)]⟩
@[reducible] def t9 : TI := ⟨1, 16, false, some (.str ⟨⟨[]⟩⟩), .str⟩
@[reducible] def t10 : TI := ⟨1, 16, false, some (.str ⟨⟨[]⟩⟩), .str⟩
@[reducible] def t11 : TI := ⟨1, 16, false, some (.str ⟨⟨[]⟩⟩), .str⟩
@[reducible] def t12 : TI := ⟨1, 8, false, some (.int .u64 0), .int .u64⟩
@[reducible] def t15 : TI := ⟨1, 8, false, some .nilptr, .ptr 184⟩
@[reducible] def t16 : TI := ⟨1, 8, false, some .nilptr, .ptr 187⟩
@[reducible] def t17 : TI := ⟨1, 8, false, some .nilptr, .ptr 196⟩
@[reducible] def t20 : TI := ⟨1, 16, false, some .nilif, .iface⟩
@[reducible] def t21 : TI := ⟨1, 4, false, some (.int .i32 0), .int .i32⟩
@[reducible] def t22 : TI := ⟨1, 24, false, some .nils, .slice 5⟩
@[reducible] def t23 : TI := ⟨1, 8, false, some .nilptr, .ptr 94⟩
@[reducible] def t26 : TI := ⟨1, 24, false, some .nils, .slice 30⟩
@[reducible] def t27 : TI := ⟨1, 2, false, some (.int .u16 0), .int .u16⟩
@[reducible] def t28 : TI := ⟨1, 2, false, some (.int .u16 0), .int .u16⟩
@[reducible] def t30 : TI := ⟨1, 4, false, some (.int .u32 0), .int .u32⟩
@[reducible] def t32 : TI := ⟨1, 24, false, some .nils, .slice 3⟩
@[reducible] def t33 : TI := ⟨1, 24, false, some .nils, .slice 68⟩
@[reducible] def t34 : TI := ⟨1, 24, false, some .nils, .slice 51⟩
@[reducible] def t35 : TI := ⟨2, 32, true, some (.agg [.int .u32 0, .nils]), .strct [(0, 1, 30), (1, 1, 34)]⟩
@[reducible] def t36 : TI := ⟨2, 32, true, some (.agg [.int .u32 0, .nils]), .strct [(0, 1, 30), (1, 1, 34)]⟩
@[reducible] def t37 : TI := ⟨1, 24, false, some .nils, .slice 142⟩
@[reducible] def t38 : TI := ⟨10, 136, true, some (.agg [.int .u8 0, .int .u32 0, .int .u32 0, .nils, .nils, .int .u32 0, .nils, .int .i64 0, .int .i64 0, .nils]), .strct [(0, 1, 5), (1, 1, 30), (2, 1, 30), (3, 1, 32), (4, 1, 33), (5, 2, 36), (7, 1, 3), (8, 1, 3), (9, 1, 37)]⟩
@[reducible] def t39 : TI := ⟨10, 136, true, some (.agg [.int .u8 0, .int .u32 0, .int .u32 0, .nils, .nils, .int .u32 0, .nils, .int .i64 0, .int .i64 0, .nils]), .strct [(0, 1, 5), (1, 1, 30), (2, 1, 30), (3, 1, 32), (4, 1, 33), (5, 2, 36), (7, 1, 3), (8, 1, 3), (9, 1, 37)]⟩
@[reducible] def t43 : TI := ⟨1, 24, false, some .nils, .slice 45⟩
@[reducible] def t44 : TI := ⟨3, 6, true, some (.agg [.int .u16 0, .int .u16 0, .int .u8 0]), .strct [(0, 1, 27), (1, 1, 27), (2, 1, 5)]⟩
@[reducible] def t45 : TI := ⟨3, 6, true, some (.agg [.int .u16 0, .int .u16 0, .int .u8 0]), .strct [(0, 1, 27), (1, 1, 27), (2, 1, 5)]⟩
@[reducible] def t50 : TI := ⟨2, 16, true, some (.agg [.int .i64 0, .int .i64 0]), .strct [(0, 1, 3), (1, 1, 3)]⟩
@[reducible] def t51 : TI := ⟨2, 16, true, some (.agg [.int .i64 0, .int .i64 0]), .strct [(0, 1, 3), (1, 1, 3)]⟩
@[reducible] def t67 : TI := ⟨2, 32, true, some (.agg [.nils, .int .i64 0]), .strct [(0, 1, 32), (1, 1, 2)]⟩
@[reducible] def t68 : TI := ⟨2, 32, true, some (.agg [.nils, .int .i64 0]), .strct [(0, 1, 32), (1, 1, 2)]⟩
@[reducible] def t70 : TI := ⟨1, 24, false, some .nils, .slice 83⟩
@[reducible] def t72 : TI := ⟨1, 8, false, some .nilptr, .ptr 76⟩
@[reducible] def t73 : TI := ⟨1, 8, false, some .nilptr, .ptr 116⟩
@[reducible] def t75 : TI := ⟨3, 40, true, some (.agg [.nilptr, .nilptr, .nils]), .strct [(0, 1, 23), (1, 1, 73), (2, 1, 26)]⟩
@[reducible] def t76 : TI := ⟨3, 40, true, some (.agg [.nilptr, .nilptr, .nils]), .strct [(0, 1, 23), (1, 1, 73), (2, 1, 26)]⟩
@[reducible] def t77 : TI := ⟨1, 24, false, some .nils, .slice 79⟩
@[reducible] def t78 : TI := ⟨2, 8, true, some (.agg [.int .u8 0, .int .u32 0]), .strct [(0, 1, 5), (1, 1, 30)]⟩
@[reducible] def t79 : TI := ⟨2, 8, true, some (.agg [.int .u8 0, .int .u32 0]), .strct [(0, 1, 5), (1, 1, 30)]⟩
@[reducible] def t82 : TI := ⟨7, 64, true, some (.agg [.int .u8 0, .int .u8 0, .int .u32 0, .int .u8 0, .int .u8 0, .nils, .nils]), .strct [(0, 1, 5), (1, 1, 5), (2, 1, 30), (3, 1, 5), (4, 1, 5), (5, 1, 43), (6, 1, 32)]⟩
@[reducible] def t83 : TI := ⟨7, 64, true, some (.agg [.int .u8 0, .int .u8 0, .int .u32 0, .int .u8 0, .int .u8 0, .nils, .nils]), .strct [(0, 1, 5), (1, 1, 5), (2, 1, 30), (3, 1, 5), (4, 1, 5), (5, 1, 43), (6, 1, 32)]⟩
@[reducible] def t91 : TI := ⟨1, 8, false, some .nilmap, .map 30 95⟩
@[reducible] def t93 : TI := ⟨6, 56, true, some (.agg [.nilmap, .int .u32 0, .int .u32 0, .int .u32 0, .int .u32 0, .nils]), .strct [(0, 1, 91), (1, 1, 30), (2, 1, 30), (3, 1, 30), (4, 2, 36)]⟩
@[reducible] def t94 : TI := ⟨6, 56, true, some (.agg [.nilmap, .int .u32 0, .int .u32 0, .int .u32 0, .int .u32 0, .nils]), .strct [(0, 1, 91), (1, 1, 30), (2, 1, 30), (3, 1, 30), (4, 2, 36)]⟩
@[reducible] def t95 : TI := ⟨1, 8, false, some .nilptr, .ptr 99⟩
@[reducible] def t97 : TI := ⟨1, 8, false, some .nilmap, .map 3 3⟩
@[reducible] def t98 : TI := ⟨5, 48, true, some (.agg [.int .u8 0, .int .u32 0, .nils, .nilmap, .bool false]), .strct [(0, 2, 79), (2, 1, 32), (3, 1, 97), (4, 1, 4)]⟩
@[reducible] def t99 : TI := ⟨5, 48, true, some (.agg [.int .u8 0, .int .u32 0, .nils, .nilmap, .bool false]), .strct [(0, 2, 79), (2, 1, 32), (3, 1, 97), (4, 1, 4)]⟩
@[reducible] def t114 : TI := ⟨1, 24, false, some .nils, .slice 134⟩
@[reducible] def t115 : TI := ⟨6, 72, true, some (.agg [.nils, .int .u32 0, .int .u32 0, .int .u32 0, .int .u32 0, .nils]), .strct [(0, 1, 114), (1, 1, 30), (2, 1, 30), (3, 1, 30), (4, 2, 36)]⟩
@[reducible] def t116 : TI := ⟨6, 72, true, some (.agg [.nils, .int .u32 0, .int .u32 0, .int .u32 0, .int .u32 0, .nils]), .strct [(0, 1, 114), (1, 1, 30), (2, 1, 30), (3, 1, 30), (4, 2, 36)]⟩
@[reducible] def t131 : TI := ⟨1, 8, false, some (.int .u64 0), .int .u64⟩
@[reducible] def t133 : TI := ⟨6, 72, true, some (.agg [.int .u32 0, .int .u8 0, .int .u32 0, .nils, .nils, .bool false]), .strct [(0, 1, 30), (1, 2, 79), (3, 1, 32), (4, 1, 32), (5, 1, 4)]⟩
@[reducible] def t134 : TI := ⟨6, 72, true, some (.agg [.int .u32 0, .int .u8 0, .int .u32 0, .nils, .nils, .bool false]), .strct [(0, 1, 30), (1, 2, 79), (3, 1, 32), (4, 1, 32), (5, 1, 4)]⟩
@[reducible] def t139 : TI := ⟨1, 24, false, some .nils, .slice 27⟩
@[reducible] def t140 : TI := ⟨1, 8, false, some (.int .u64 0), .int .u64⟩
@[reducible] def t141 : TI := ⟨2, 32, true, some (.agg [.int .u32 0, .nils]), .strct [(0, 1, 30), (1, 1, 33)]⟩
@[reducible] def t142 : TI := ⟨2, 32, true, some (.agg [.int .u32 0, .nils]), .strct [(0, 1, 30), (1, 1, 33)]⟩
@[reducible] def t154 : TI := ⟨1, 8, false, some (.int .i64 0), .int .i64⟩
@[reducible] def t164 : TI := ⟨1, 8, false, some (.int .u64 0), .int .u64⟩
@[reducible] def t168 : TI := ⟨1, 8, false, some .nilptr, .ptr 3⟩
@[reducible] def t176 : TI := ⟨1, 8, false, some .nilptr, .ptr 164⟩
@[reducible] def t189 : TI := ⟨1, 1, false, some (.int .u8 0), .int .u8⟩
@[reducible] def t190 : TI := ⟨1, 1, false, some (.int .u8 0), .int .u8⟩
@[reducible] def t192 : TI := ⟨1, 8, false, some .nilptr, .ptr 5⟩
@[reducible] def t193 : TI := ⟨1, 4, false, some (.int .i32 0), .int .i32⟩
@[reducible] def t194 : TI := ⟨1, 4, false, some (.int .i32 0), .int .i32⟩
theorem h2 : tiOf Try.prog 2 = some t2 := by kernel_rfl
theorem h3 : tiOf Try.prog 3 = some t3 := by kernel_rfl
theorem h4 : tiOf Try.prog 4 = some t4 := by kernel_rfl
theorem h5 : tiOf Try.prog 5 = some t5 := by kernel_rfl
theorem h6 : tiOf Try.prog 6 = some t6 := by kernel_rfl
theorem h7 : tiOf Try.prog 7 = some t7 := by kernel_rfl
theorem h8 : tiOf Try.prog 8 = some t8 := by kernel_rfl
theorem h9 : tiOf Try.prog 9 = some t9 := by kernel_rfl
theorem h10 : tiOf Try.prog 10 = some t10 := by kernel_rfl
theorem h11 : tiOf Try.prog 11 = some t11 := by kernel_rfl
theorem h12 : tiOf Try.prog 12 = some t12 := by kernel_rfl
theorem h15 : tiOf Try.prog 15 = some t15 := by kernel_rfl
theorem h16 : tiOf Try.prog 16 = some t16 := by kernel_rfl
theorem h17 : tiOf Try.prog 17 = some t17 := by kernel_rfl
theorem h20 : tiOf Try.prog 20 = some t20 := by kernel_rfl
theorem h21 : tiOf Try.prog 21 = some t21 := by kernel_rfl
theorem h22 : tiOf Try.prog 22 = some t22 := by kernel_rfl
theorem h23 : tiOf Try.prog 23 = some t23 := by kernel_rfl
theorem h26 : tiOf Try.prog 26 = some t26 := by kernel_rfl
theorem h27 : tiOf Try.prog 27 = some t27 := by kernel_rfl
theorem h28 : tiOf Try.prog 28 = some t28 := by kernel_rfl
theorem h30 : tiOf Try.prog 30 = some t30 := by kernel_rfl
theorem h32 : tiOf Try.prog 32 = some t32 := by kernel_rfl
theorem h33 : tiOf Try.prog 33 = some t33 := by kernel_rfl
theorem h34 : tiOf Try.prog 34 = some t34 := by kernel_rfl
theorem h35 : tiOf Try.prog 35 = some t35 := by kernel_rfl
theorem h36 : tiOf Try.prog 36 = some t36 := by kernel_rfl
theorem h37 : tiOf Try.prog 37 = some t37 := by kernel_rfl
theorem h38 : tiOf Try.prog 38 = some t38 := by kernel_rfl
theorem h39 : tiOf Try.prog 39 = some t39 := by kernel_rfl
theorem h43 : tiOf Try.prog 43 = some t43 := by kernel_rfl
theorem h44 : tiOf Try.prog 44 = some t44 := by kernel_rfl
theorem h45 : tiOf Try.prog 45 = some t45 := by kernel_rfl
theorem h50 : tiOf Try.prog 50 = some t50 := by kernel_rfl
theorem h51 : tiOf Try.prog 51 = some t51 := by kernel_rfl
theorem h67 : tiOf Try.prog 67 = some t67 := by kernel_rfl
theorem h68 : tiOf Try.prog 68 = some t68 := by kernel_rfl
theorem h70 : tiOf Try.prog 70 = some t70 := by kernel_rfl
theorem h72 : tiOf Try.prog 72 = some t72 := by kernel_rfl
theorem h73 : tiOf Try.prog 73 = some t73 := by kernel_rfl
theorem h75 : tiOf Try.prog 75 = some t75 := by kernel_rfl
theorem h76 : tiOf Try.prog 76 = some t76 := by kernel_rfl
theorem h77 : tiOf Try.prog 77 = some t77 := by kernel_rfl
theorem h78 : tiOf Try.prog 78 = some t78 := by kernel_rfl
theorem h79 : tiOf Try.prog 79 = some t79 := by kernel_rfl
theorem h82 : tiOf Try.prog 82 = some t82 := by kernel_rfl
theorem h83 : tiOf Try.prog 83 = some t83 := by kernel_rfl
theorem h91 : tiOf Try.prog 91 = some t91 := by kernel_rfl
theorem h93 : tiOf Try.prog 93 = some t93 := by kernel_rfl
theorem h94 : tiOf Try.prog 94 = some t94 := by kernel_rfl
theorem h95 : tiOf Try.prog 95 = some t95 := by kernel_rfl
theorem h97 : tiOf Try.prog 97 = some t97 := by kernel_rfl
theorem h98 : tiOf Try.prog 98 = some t98 := by kernel_rfl
theorem h99 : tiOf Try.prog 99 = some t99 := by kernel_rfl
theorem h114 : tiOf Try.prog 114 = some t114 := by kernel_rfl
theorem h115 : tiOf Try.prog 115 = some t115 := by kernel_rfl
theorem h116 : tiOf Try.prog 116 = some t116 := by kernel_rfl
theorem h131 : tiOf Try.prog 131 = some t131 := by kernel_rfl
theorem h133 : tiOf Try.prog 133 = some t133 := by kernel_rfl
theorem h134 : tiOf Try.prog 134 = some t134 := by kernel_rfl
theorem h139 : tiOf Try.prog 139 = some t139 := by kernel_rfl
theorem h140 : tiOf Try.prog 140 = some t140 := by kernel_rfl
theorem h141 : tiOf Try.prog 141 = some t141 := by kernel_rfl
theorem h142 : tiOf Try.prog 142 = some t142 := by kernel_rfl
theorem h154 : tiOf Try.prog 154 = some t154 := by kernel_rfl
theorem h164 : tiOf Try.prog 164 = some t164 := by kernel_rfl
theorem h168 : tiOf Try.prog 168 = some t168 := by kernel_rfl
theorem h176 : tiOf Try.prog 176 = some t176 := by kernel_rfl
theorem h189 : tiOf Try.prog 189 = some t189 := by kernel_rfl
theorem h190 : tiOf Try.prog 190 = some t190 := by kernel_rfl
theorem h192 : tiOf Try.prog 192 = some t192 := by kernel_rfl
theorem h193 : tiOf Try.prog 193 = some t193 := by kernel_rfl
theorem h194 : tiOf Try.prog 194 = some t194 := by kernel_rfl
end Ty
open Ty in
def ty : Tr := (.node (.node (.node (.node (.node (.node (.node .leaf 2 t2 .leaf) 3 t3 .leaf) 4 t4 (.node .leaf 5 t5 .leaf)) 6 t6 (.node (.node (.node .leaf 7 t7 .leaf) 8 t8 .leaf) 9 t9 (.node .leaf 10 t10 .leaf))) 11 t11 (.node (.node (.node (.node .leaf 12 t12 .leaf) 15 t15 .leaf) 16 t16 (.node .leaf 17 t17 .leaf)) 20 t20 (.node (.node .leaf 21 t21 .leaf) 22 t22 (.node .leaf 23 t23 .leaf)))) 26 t26 (.node (.node (.node (.node (.node .leaf 27 t27 .leaf) 28 t28 .leaf) 30 t30 (.node .leaf 32 t32 .leaf)) 33 t33 (.node (.node .leaf 34 t34 .leaf) 35 t35 (.node .leaf 36 t36 .leaf))) 37 t37 (.node (.node (.node (.node .leaf 38 t38 .leaf) 39 t39 .leaf) 43 t43 (.node .leaf 44 t44 .leaf)) 45 t45 (.node (.node .leaf 50 t50 .leaf) 51 t51 (.node .leaf 67 t67 .leaf))))) 68 t68 (.node (.node (.node (.node (.node (.node .leaf 70 t70 .leaf) 72 t72 .leaf) 73 t73 (.node .leaf 75 t75 .leaf)) 76 t76 (.node (.node (.node .leaf 77 t77 .leaf) 78 t78 .leaf) 79 t79 (.node .leaf 82 t82 .leaf))) 83 t83 (.node (.node (.node (.node .leaf 91 t91 .leaf) 93 t93 .leaf) 94 t94 (.node .leaf 95 t95 .leaf)) 97 t97 (.node (.node .leaf 98 t98 .leaf) 99 t99 (.node .leaf 114 t114 .leaf)))) 115 t115 (.node (.node (.node (.node (.node .leaf 116 t116 .leaf) 131 t131 .leaf) 133 t133 (.node .leaf 134 t134 .leaf)) 139 t139 (.node (.node .leaf 140 t140 .leaf) 141 t141 (.node .leaf 142 t142 .leaf))) 154 t154 (.node (.node (.node (.node .leaf 164 t164 .leaf) 168 t168 .leaf) 176 t176 (.node .leaf 189 t189 .leaf)) 190 t190 (.node (.node .leaf 192 t192 .leaf) 193 t193 (.node .leaf 194 t194 .leaf))))))
def c0 : List (Nat × TI) := [(2, Ty.t2), (3, Ty.t3), (4, Ty.t4), (5, Ty.t5), (6, Ty.t6), (7, Ty.t7), (8, Ty.t8), (9, Ty.t9), (10, Ty.t10), (11, Ty.t11)]
theorem c0_ok : ∀ p ∈ c0, tiOf Try.prog p.1 = some p.2 := List.forall_mem_cons.2 ⟨Ty.h2, List.forall_mem_cons.2 ⟨Ty.h3, List.forall_mem_cons.2 ⟨Ty.h4, List.forall_mem_cons.2 ⟨Ty.h5, List.forall_mem_cons.2 ⟨Ty.h6, List.forall_mem_cons.2 ⟨Ty.h7, List.forall_mem_cons.2 ⟨Ty.h8, List.forall_mem_cons.2 ⟨Ty.h9, List.forall_mem_cons.2 ⟨Ty.h10, List.forall_mem_cons.2 ⟨Ty.h11, fun _ h => nomatch h⟩⟩⟩⟩⟩⟩⟩⟩⟩⟩
def c1 : List (Nat × TI) := [(12, Ty.t12), (15, Ty.t15), (16, Ty.t16), (17, Ty.t17), (20, Ty.t20), (21, Ty.t21), (22, Ty.t22), (23, Ty.t23), (26, Ty.t26), (27, Ty.t27)]
theorem c1_ok : ∀ p ∈ c1, tiOf Try.prog p.1 = some p.2 := List.forall_mem_cons.2 ⟨Ty.h12, List.forall_mem_cons.2 ⟨Ty.h15, List.forall_mem_cons.2 ⟨Ty.h16, List.forall_mem_cons.2 ⟨Ty.h17, List.forall_mem_cons.2 ⟨Ty.h20, List.forall_mem_cons.2 ⟨Ty.h21, List.forall_mem_cons.2 ⟨Ty.h22, List.forall_mem_cons.2 ⟨Ty.h23, List.forall_mem_cons.2 ⟨Ty.h26, List.forall_mem_cons.2 ⟨Ty.h27, fun _ h => nomatch h⟩⟩⟩⟩⟩⟩⟩⟩⟩⟩
def c2 : List (Nat × TI) := [(28, Ty.t28), (30, Ty.t30), (32, Ty.t32), (33, Ty.t33), (34, Ty.t34), (35, Ty.t35), (36, Ty.t36), (37, Ty.t37), (38, Ty.t38), (39, Ty.t39)]
theorem c2_ok : ∀ p ∈ c2, tiOf Try.prog p.1 = some p.2 := List.forall_mem_cons.2 ⟨Ty.h28, List.forall_mem_cons.2 ⟨Ty.h30, List.forall_mem_cons.2 ⟨Ty.h32, List.forall_mem_cons.2 ⟨Ty.h33, List.forall_mem_cons.2 ⟨Ty.h34, List.forall_mem_cons.2 ⟨Ty.h35, List.forall_mem_cons.2 ⟨Ty.h36, List.forall_mem_cons.2 ⟨Ty.h37, List.forall_mem_cons.2 ⟨Ty.h38, List.forall_mem_cons.2 ⟨Ty.h39, fun _ h => nomatch h⟩⟩⟩⟩⟩⟩⟩⟩⟩⟩
def c3 : List (Nat × TI) := [(43, Ty.t43), (44, Ty.t44), (45, Ty.t45), (50, Ty.t50), (51, Ty.t51), (67, Ty.t67), (68, Ty.t68), (70, Ty.t70), (72, Ty.t72), (73, Ty.t73)]
theorem c3_ok : ∀ p ∈ c3, tiOf Try.prog p.1 = some p.2 := List.forall_mem_cons.2 ⟨Ty.h43, List.forall_mem_cons.2 ⟨Ty.h44, List.forall_mem_cons.2 ⟨Ty.h45, List.forall_mem_cons.2 ⟨Ty.h50, List.forall_mem_cons.2 ⟨Ty.h51, List.forall_mem_cons.2 ⟨Ty.h67, List.forall_mem_cons.2 ⟨Ty.h68, List.forall_mem_cons.2 ⟨Ty.h70, List.forall_mem_cons.2 ⟨Ty.h72, List.forall_mem_cons.2 ⟨Ty.h73, fun _ h => nomatch h⟩⟩⟩⟩⟩⟩⟩⟩⟩⟩
def c4 : List (Nat × TI) := [(75, Ty.t75), (76, Ty.t76), (77, Ty.t77), (78, Ty.t78), (79, Ty.t79), (82, Ty.t82), (83, Ty.t83), (91, Ty.t91), (93, Ty.t93), (94, Ty.t94)]
theorem c4_ok : ∀ p ∈ c4, tiOf Try.prog p.1 = some p.2 := List.forall_mem_cons.2 ⟨Ty.h75, List.forall_mem_cons.2 ⟨Ty.h76, List.forall_mem_cons.2 ⟨Ty.h77, List.forall_mem_cons.2 ⟨Ty.h78, List.forall_mem_cons.2 ⟨Ty.h79, List.forall_mem_cons.2 ⟨Ty.h82, List.forall_mem_cons.2 ⟨Ty.h83, List.forall_mem_cons.2 ⟨Ty.h91, List.forall_mem_cons.2 ⟨Ty.h93, List.forall_mem_cons.2 ⟨Ty.h94, fun _ h => nomatch h⟩⟩⟩⟩⟩⟩⟩⟩⟩⟩
def c5 : List (Nat × TI) := [(95, Ty.t95), (97, Ty.t97), (98, Ty.t98), (99, Ty.t99), (114, Ty.t114), (115, Ty.t115), (116, Ty.t116), (131, Ty.t131), (133, Ty.t133), (134, Ty.t134)]
theorem c5_ok : ∀ p ∈ c5, tiOf Try.prog p.1 = some p.2 := List.forall_mem_cons.2 ⟨Ty.h95, List.forall_mem_cons.2 ⟨Ty.h97, List.forall_mem_cons.2 ⟨Ty.h98, List.forall_mem_cons.2 ⟨Ty.h99, List.forall_mem_cons.2 ⟨Ty.h114, List.forall_mem_cons.2 ⟨Ty.h115, List.forall_mem_cons.2 ⟨Ty.h116, List.forall_mem_cons.2 ⟨Ty.h131, List.forall_mem_cons.2 ⟨Ty.h133, List.forall_mem_cons.2 ⟨Ty.h134, fun _ h => nomatch h⟩⟩⟩⟩⟩⟩⟩⟩⟩⟩
def c6 : List (Nat × TI) := [(139, Ty.t139), (140, Ty.t140), (141, Ty.t141), (142, Ty.t142), (154, Ty.t154), (164, Ty.t164), (168, Ty.t168), (176, Ty.t176), (189, Ty.t189), (190, Ty.t190)]
theorem c6_ok : ∀ p ∈ c6, tiOf Try.prog p.1 = some p.2 := List.forall_mem_cons.2 ⟨Ty.h139, List.forall_mem_cons.2 ⟨Ty.h140, List.forall_mem_cons.2 ⟨Ty.h141, List.forall_mem_cons.2 ⟨Ty.h142, List.forall_mem_cons.2 ⟨Ty.h154, List.forall_mem_cons.2 ⟨Ty.h164, List.forall_mem_cons.2 ⟨Ty.h168, List.forall_mem_cons.2 ⟨Ty.h176, List.forall_mem_cons.2 ⟨Ty.h189, List.forall_mem_cons.2 ⟨Ty.h190, fun _ h => nomatch h⟩⟩⟩⟩⟩⟩⟩⟩⟩⟩
def c7 : List (Nat × TI) := [(192, Ty.t192), (193, Ty.t193), (194, Ty.t194)]
theorem c7_ok : ∀ p ∈ c7, tiOf Try.prog p.1 = some p.2 := List.forall_mem_cons.2 ⟨Ty.h192, List.forall_mem_cons.2 ⟨Ty.h193, List.forall_mem_cons.2 ⟨Ty.h194, fun _ h => nomatch h⟩⟩⟩
def tyL : List (Nat × TI) := c0 ++ (c1 ++ (c2 ++ (c3 ++ (c4 ++ (c5 ++ (c6 ++ (c7 ++ ([]))))))))
theorem ty_list : ty.list = tyL := by kernel_rfl
theorem tyL_ok : ∀ p ∈ tyL, tiOf Try.prog p.1 = some p.2 := List.forall_mem_append.2 ⟨c0_ok, List.forall_mem_append.2 ⟨c1_ok, List.forall_mem_append.2 ⟨c2_ok, List.forall_mem_append.2 ⟨c3_ok, List.forall_mem_append.2 ⟨c4_ok, List.forall_mem_append.2 ⟨c5_ok, List.forall_mem_append.2 ⟨c6_ok, List.forall_mem_append.2 ⟨c7_ok, fun _ h => nomatch h⟩⟩⟩⟩⟩⟩⟩⟩
theorem ty_ok : TyOK Try.prog ty.get := by
  intro k v h
  have h1 := Tr.get_mem h
  rw [ty_list] at h1
  exact tyL_ok (k, v) h1
end Go.Proofs.Ytecpiplfjmmccaa.AM
