/-
  What the executor asks of each type of the program. Conditions: none. (Printed by a program of mine.)
-/
import Derived.Test.YtfddpcmlmcohjaaSymTy
import Derived.Test.YtfddpcmlmcohjaaProg
namespace Go.Proofs.Ytfddpcmlmcohjaa.Sym
open Go.RowKit
set_option maxRecDepth 100000
theorem TabOK.nil {P : Program} : TabOK P [] := fun e he => by cases he
theorem TabOK.cons {P : Program} {t : Nat} {i : TI} {T : List (Nat × TI)} (h : TyOK P t i) (h' : TabOK P T) : TabOK P ((t, i) :: T) := fun e he => by
  rcases List.mem_cons.1 he with rfl | he
  · exact h
  · exact h' e he

def ti1 : TI := ⟨1, false, [.raw .nilFunc], [], none, false, false, 0, none⟩
theorem t1 : TyOK Try.prog 1 ti1 := tyB_ok (by kernel_rfl) (by kernel_rfl)
def ti2 : TI := ⟨1, false, [.int .i64 0], [], none, false, false, 0, some .i64⟩
theorem t2 : TyOK Try.prog 2 ti2 := tyB_ok (by kernel_rfl) (by kernel_rfl)
def ti3 : TI := ⟨1, false, [.int .i64 0], [], none, false, false, 0, some .i64⟩
theorem t3 : TyOK Try.prog 3 ti3 := tyB_ok (by kernel_rfl) (by kernel_rfl)
def ti4 : TI := ⟨1, false, [.bool .ff], [], none, false, true, 0, none⟩
theorem t4 : TyOK Try.prog 4 ti4 := tyB_ok (by kernel_rfl) (by kernel_rfl)
def ti5 : TI := ⟨1, false, [.int .u8 0], [], none, false, false, 0, some .u8⟩
theorem t5 : TyOK Try.prog 5 ti5 := tyB_ok (by kernel_rfl) (by kernel_rfl)
def ti6 : TI := ⟨1, false, [.int .u8 0], [], none, false, false, 0, some .u8⟩
theorem t6 : TyOK Try.prog 6 ti6 := tyB_ok (by kernel_rfl) (by kernel_rfl)
def ti7 : TI := ⟨4, true, [.int .i64 0, .int .i64 0, .bool .ff, .int .u8 0], [(0, 1, false), (1, 1, false), (2, 1, false), (3, 1, false)], none, false, false, 0, none⟩
theorem t7 : TyOK Try.prog 7 ti7 := tyB_ok (by kernel_rfl) (by kernel_rfl)
def ti8 : TI := ⟨4, true, [.int .i64 0, .int .i64 0, .bool .ff, .int .u8 0], [(0, 1, false), (1, 1, false), (2, 1, false), (3, 1, false)], none, false, false, 0, none⟩
theorem t8 : TyOK Try.prog 8 ti8 := tyB_ok (by kernel_rfl) (by kernel_rfl)
def ti9 : TI := ⟨1, false, [.str ⟨#[]⟩], [], none, true, false, 0, none⟩
theorem t9 : TyOK Try.prog 9 ti9 := tyB_ok (by kernel_rfl) (by kernel_rfl)
def ti10 : TI := ⟨1, false, [.str ⟨#[]⟩], [], none, true, false, 0, none⟩
theorem t10 : TyOK Try.prog 10 ti10 := tyB_ok (by kernel_rfl) (by kernel_rfl)
def ti11 : TI := ⟨1, false, [.str ⟨#[]⟩], [], none, true, false, 0, none⟩
theorem t11 : TyOK Try.prog 11 ti11 := tyB_ok (by kernel_rfl) (by kernel_rfl)
def ti12 : TI := ⟨1, false, [.int .u64 0], [], none, false, false, 0, some .u64⟩
theorem t12 : TyOK Try.prog 12 ti12 := tyB_ok (by kernel_rfl) (by kernel_rfl)
def ti13 : TI := ⟨2, true, [.str ⟨#[]⟩, .int .u64 0], [(0, 1, false), (1, 1, false)], none, false, false, 0, none⟩
theorem t13 : TyOK Try.prog 13 ti13 := tyB_ok (by kernel_rfl) (by kernel_rfl)
def ti14 : TI := ⟨2, true, [.str ⟨#[]⟩, .int .u64 0], [(0, 1, false), (1, 1, false)], none, false, false, 0, none⟩
theorem t14 : TyOK Try.prog 14 ti14 := tyB_ok (by kernel_rfl) (by kernel_rfl)
def ti15 : TI := ⟨1, false, [.nilp], [], none, false, false, 0, none⟩
theorem t15 : TyOK Try.prog 15 ti15 := tyB_ok (by kernel_rfl) (by kernel_rfl)
def ti16 : TI := ⟨1, false, [.nilp], [], none, false, false, 0, none⟩
theorem t16 : TyOK Try.prog 16 ti16 := tyB_ok (by kernel_rfl) (by kernel_rfl)
def ti17 : TI := ⟨1, false, [.nilp], [], none, false, false, 0, none⟩
theorem t17 : TyOK Try.prog 17 ti17 := tyB_ok (by kernel_rfl) (by kernel_rfl)
def ti18 : TI := ⟨1, true, [.nilp], [(0, 1, false)], none, false, false, 0, none⟩
theorem t18 : TyOK Try.prog 18 ti18 := tyB_ok (by kernel_rfl) (by kernel_rfl)
def ti19 : TI := ⟨1, true, [.nilp], [(0, 1, false)], none, false, false, 0, none⟩
theorem t19 : TyOK Try.prog 19 ti19 := tyB_ok (by kernel_rfl) (by kernel_rfl)
def ti20 : TI := ⟨1, false, [.raw .nilIface], [], none, false, false, 0, none⟩
theorem t20 : TyOK Try.prog 20 ti20 := tyB_ok (by kernel_rfl) (by kernel_rfl)
def ti21 : TI := ⟨1, false, [.int .i32 0], [], none, false, false, 0, some .i32⟩
theorem t21 : TyOK Try.prog 21 ti21 := tyB_ok (by kernel_rfl) (by kernel_rfl)
def ti22 : TI := ⟨1, false, [.sl none none 0 0 2 (fun _ => [])], [], some (31, 2), false, false, 24, none⟩
theorem t22 : TyOK Try.prog 22 ti22 := tyB_ok (by kernel_rfl) (by kernel_rfl)
def ti23 : TI := ⟨1, false, [.int .u64 0], [], none, false, false, 0, some .u64⟩
theorem t23 : TyOK Try.prog 23 ti23 := tyB_ok (by kernel_rfl) (by kernel_rfl)
def ti24 : TI := ⟨1, false, [.nilp], [], none, false, false, 0, none⟩
theorem t24 : TyOK Try.prog 24 ti24 := tyB_ok (by kernel_rfl) (by kernel_rfl)
def ti25 : TI := ⟨1, false, [.raw .nilFunc], [], none, false, false, 0, none⟩
theorem t25 : TyOK Try.prog 25 ti25 := tyB_ok (by kernel_rfl) (by kernel_rfl)
def ti26 : TI := ⟨1, false, [.int .i64 0], [], none, false, false, 0, some .i64⟩
theorem t26 : TyOK Try.prog 26 ti26 := tyB_ok (by kernel_rfl) (by kernel_rfl)
def ti28 : TI := ⟨1, false, [.raw .nilFunc], [], none, false, false, 0, none⟩
theorem t28 : TyOK Try.prog 28 ti28 := tyB_ok (by kernel_rfl) (by kernel_rfl)
def ti29 : TI := ⟨1, false, [.raw .nilFunc], [], none, false, false, 0, none⟩
theorem t29 : TyOK Try.prog 29 ti29 := tyB_ok (by kernel_rfl) (by kernel_rfl)
def ti30 : TI := ⟨2, true, [.int .u64 0, .str ⟨#[]⟩], [(0, 1, false), (1, 1, false)], none, false, false, 0, none⟩
theorem t30 : TyOK Try.prog 30 ti30 := tyB_ok (by kernel_rfl) (by kernel_rfl)
def ti31 : TI := ⟨2, true, [.int .u64 0, .str ⟨#[]⟩], [(0, 1, false), (1, 1, false)], none, false, false, 0, none⟩
theorem t31 : TyOK Try.prog 31 ti31 := tyB_ok (by kernel_rfl) (by kernel_rfl)
def ti32 : TI := ⟨1, false, [.raw .nilFunc], [], none, false, false, 0, none⟩
theorem t32 : TyOK Try.prog 32 ti32 := tyB_ok (by kernel_rfl) (by kernel_rfl)
def ti33 : TI := ⟨1, false, [.raw .nilFunc], [], none, false, false, 0, none⟩
theorem t33 : TyOK Try.prog 33 ti33 := tyB_ok (by kernel_rfl) (by kernel_rfl)
def ti34 : TI := ⟨1, false, [.raw .nilFunc], [], none, false, false, 0, none⟩
theorem t34 : TyOK Try.prog 34 ti34 := tyB_ok (by kernel_rfl) (by kernel_rfl)
def ti36 : TI := ⟨1, false, [.raw .nilFunc], [], none, false, false, 0, none⟩
theorem t36 : TyOK Try.prog 36 ti36 := tyB_ok (by kernel_rfl) (by kernel_rfl)
def ti37 : TI := ⟨1, false, [.raw .nilFunc], [], none, false, false, 0, none⟩
theorem t37 : TyOK Try.prog 37 ti37 := tyB_ok (by kernel_rfl) (by kernel_rfl)
def ti38 : TI := ⟨1, false, [.raw .nilFunc], [], none, false, false, 0, none⟩
theorem t38 : TyOK Try.prog 38 ti38 := tyB_ok (by kernel_rfl) (by kernel_rfl)
def ti39 : TI := ⟨1, false, [.sl none none 0 0 6 (fun _ => [])], [], some (55, 6), false, false, 56, none⟩
theorem t39 : TyOK Try.prog 39 ti39 := tyB_ok (by kernel_rfl) (by kernel_rfl)
def ti40 : TI := ⟨4, true, [.int .u64 0, .bool .ff, .str ⟨#[]⟩, .sl none none 0 0 6 (fun _ => [])], [(0, 1, false), (1, 1, false), (2, 1, false), (3, 1, false)], none, false, false, 0, none⟩
theorem t40 : TyOK Try.prog 40 ti40 := tyB_ok (by kernel_rfl) (by kernel_rfl)
def ti41 : TI := ⟨4, true, [.int .u64 0, .bool .ff, .str ⟨#[]⟩, .sl none none 0 0 6 (fun _ => [])], [(0, 1, false), (1, 1, false), (2, 1, false), (3, 1, false)], none, false, false, 0, none⟩
theorem t41 : TyOK Try.prog 41 ti41 := tyB_ok (by kernel_rfl) (by kernel_rfl)
def ti42 : TI := ⟨5, true, [.int .i64 0, .int .u64 0, .int .i64 0, .int .u64 0, .str ⟨#[]⟩], [(0, 1, false), (1, 1, false), (2, 1, false), (3, 1, false), (4, 1, false)], none, false, false, 0, none⟩
theorem t42 : TyOK Try.prog 42 ti42 := tyB_ok (by kernel_rfl) (by kernel_rfl)
def ti43 : TI := ⟨5, true, [.int .i64 0, .int .u64 0, .int .i64 0, .int .u64 0, .str ⟨#[]⟩], [(0, 1, false), (1, 1, false), (2, 1, false), (3, 1, false), (4, 1, false)], none, false, false, 0, none⟩
theorem t43 : TyOK Try.prog 43 ti43 := tyB_ok (by kernel_rfl) (by kernel_rfl)
def ti44 : TI := ⟨1, false, [.raw .nilFunc], [], none, false, false, 0, none⟩
theorem t44 : TyOK Try.prog 44 ti44 := tyB_ok (by kernel_rfl) (by kernel_rfl)
def ti45 : TI := ⟨1, false, [.raw .nilFunc], [], none, false, false, 0, none⟩
theorem t45 : TyOK Try.prog 45 ti45 := tyB_ok (by kernel_rfl) (by kernel_rfl)
def ti46 : TI := ⟨4, true, [.int .i64 0, .int .u64 0, .bool .ff, .str ⟨#[]⟩], [(0, 1, false), (1, 1, false), (2, 1, false), (3, 1, false)], none, false, false, 0, none⟩
theorem t46 : TyOK Try.prog 46 ti46 := tyB_ok (by kernel_rfl) (by kernel_rfl)
def ti47 : TI := ⟨4, true, [.int .i64 0, .int .u64 0, .bool .ff, .str ⟨#[]⟩], [(0, 1, false), (1, 1, false), (2, 1, false), (3, 1, false)], none, false, false, 0, none⟩
theorem t47 : TyOK Try.prog 47 ti47 := tyB_ok (by kernel_rfl) (by kernel_rfl)
def ti49 : TI := ⟨1, false, [.raw .nilFunc], [], none, false, false, 0, none⟩
theorem t49 : TyOK Try.prog 49 ti49 := tyB_ok (by kernel_rfl) (by kernel_rfl)
def ti50 : TI := ⟨1, false, [.raw .nilFunc], [], none, false, false, 0, none⟩
theorem t50 : TyOK Try.prog 50 ti50 := tyB_ok (by kernel_rfl) (by kernel_rfl)
def ti51 : TI := ⟨1, false, [.raw .nilFunc], [], none, false, false, 0, none⟩
theorem t51 : TyOK Try.prog 51 ti51 := tyB_ok (by kernel_rfl) (by kernel_rfl)
def ti52 : TI := ⟨1, false, [.raw .nilFunc], [], none, false, false, 0, none⟩
theorem t52 : TyOK Try.prog 52 ti52 := tyB_ok (by kernel_rfl) (by kernel_rfl)
def ti53 : TI := ⟨1, false, [.raw .nilFunc], [], none, false, false, 0, none⟩
theorem t53 : TyOK Try.prog 53 ti53 := tyB_ok (by kernel_rfl) (by kernel_rfl)
def ti54 : TI := ⟨6, true, [.int .i64 0, .int .u64 0, .int .i64 0, .int .u64 0, .bool .ff, .str ⟨#[]⟩], [(0, 1, false), (1, 1, false), (2, 4, true)], none, false, false, 0, none⟩
theorem t54 : TyOK Try.prog 54 ti54 := tyB_ok (by kernel_rfl) (by kernel_rfl)
def ti55 : TI := ⟨6, true, [.int .i64 0, .int .u64 0, .int .i64 0, .int .u64 0, .bool .ff, .str ⟨#[]⟩], [(0, 1, false), (1, 1, false), (2, 4, true)], none, false, false, 0, none⟩
theorem t55 : TyOK Try.prog 55 ti55 := tyB_ok (by kernel_rfl) (by kernel_rfl)
def ti57 : TI := ⟨1, false, [.raw .nilFunc], [], none, false, false, 0, none⟩
theorem t57 : TyOK Try.prog 57 ti57 := tyB_ok (by kernel_rfl) (by kernel_rfl)
def ti59 : TI := ⟨1, false, [.raw .nilFunc], [], none, false, false, 0, none⟩
theorem t59 : TyOK Try.prog 59 ti59 := tyB_ok (by kernel_rfl) (by kernel_rfl)
def ti61 : TI := ⟨1, false, [.raw .nilFunc], [], none, false, false, 0, none⟩
theorem t61 : TyOK Try.prog 61 ti61 := tyB_ok (by kernel_rfl) (by kernel_rfl)
def ti62 : TI := ⟨1, false, [.raw .nilFunc], [], none, false, false, 0, none⟩
theorem t62 : TyOK Try.prog 62 ti62 := tyB_ok (by kernel_rfl) (by kernel_rfl)
def ti63 : TI := ⟨1, false, [.sl none none 0 0 5 (fun _ => [])], [], some (71, 5), false, false, 48, none⟩
theorem t63 : TyOK Try.prog 63 ti63 := tyB_ok (by kernel_rfl) (by kernel_rfl)
def ti64 : TI := ⟨1, false, [.raw .nilFunc], [], none, false, false, 0, none⟩
theorem t64 : TyOK Try.prog 64 ti64 := tyB_ok (by kernel_rfl) (by kernel_rfl)
def ti65 : TI := ⟨1, false, [.raw .nilFunc], [], none, false, false, 0, none⟩
theorem t65 : TyOK Try.prog 65 ti65 := tyB_ok (by kernel_rfl) (by kernel_rfl)
def ti66 : TI := ⟨1, false, [.nilp], [], none, false, false, 0, none⟩
theorem t66 : TyOK Try.prog 66 ti66 := tyB_ok (by kernel_rfl) (by kernel_rfl)
def ti67 : TI := ⟨1, true, [.sl none none 0 0 2 (fun _ => [])], [(0, 1, false)], none, false, false, 0, none⟩
theorem t67 : TyOK Try.prog 67 ti67 := tyB_ok (by kernel_rfl) (by kernel_rfl)
def ti68 : TI := ⟨1, true, [.sl none none 0 0 2 (fun _ => [])], [(0, 1, false)], none, false, false, 0, none⟩
theorem t68 : TyOK Try.prog 68 ti68 := tyB_ok (by kernel_rfl) (by kernel_rfl)
def ti69 : TI := ⟨1, false, [.raw .nilFunc], [], none, false, false, 0, none⟩
theorem t69 : TyOK Try.prog 69 ti69 := tyB_ok (by kernel_rfl) (by kernel_rfl)
def ti70 : TI := ⟨5, true, [.int .i64 0, .int .u64 0, .str ⟨#[]⟩, .int .u64 0, .int .i64 0], [(0, 1, false), (1, 1, false), (2, 1, false), (3, 1, false), (4, 1, false)], none, false, false, 0, none⟩
theorem t70 : TyOK Try.prog 70 ti70 := tyB_ok (by kernel_rfl) (by kernel_rfl)
def ti71 : TI := ⟨5, true, [.int .i64 0, .int .u64 0, .str ⟨#[]⟩, .int .u64 0, .int .i64 0], [(0, 1, false), (1, 1, false), (2, 1, false), (3, 1, false), (4, 1, false)], none, false, false, 0, none⟩
theorem t71 : TyOK Try.prog 71 ti71 := tyB_ok (by kernel_rfl) (by kernel_rfl)
def ti72 : TI := ⟨1, false, [.raw .nilFunc], [], none, false, false, 0, none⟩
theorem t72 : TyOK Try.prog 72 ti72 := tyB_ok (by kernel_rfl) (by kernel_rfl)
def ti74 : TI := ⟨1, false, [.raw .nilFunc], [], none, false, false, 0, none⟩
theorem t74 : TyOK Try.prog 74 ti74 := tyB_ok (by kernel_rfl) (by kernel_rfl)
def ti75 : TI := ⟨1, false, [.sl none none 0 0 2 (fun _ => [])], [], some (81, 2), false, false, 24, none⟩
theorem t75 : TyOK Try.prog 75 ti75 := tyB_ok (by kernel_rfl) (by kernel_rfl)
def ti76 : TI := ⟨1, true, [.sl none none 0 0 2 (fun _ => [])], [(0, 1, false)], none, false, false, 0, none⟩
theorem t76 : TyOK Try.prog 76 ti76 := tyB_ok (by kernel_rfl) (by kernel_rfl)
def ti77 : TI := ⟨1, true, [.sl none none 0 0 2 (fun _ => [])], [(0, 1, false)], none, false, false, 0, none⟩
theorem t77 : TyOK Try.prog 77 ti77 := tyB_ok (by kernel_rfl) (by kernel_rfl)
def ti78 : TI := ⟨1, true, [.sl none none 0 0 2 (fun _ => [])], [(0, 1, true)], none, false, false, 0, none⟩
theorem t78 : TyOK Try.prog 78 ti78 := tyB_ok (by kernel_rfl) (by kernel_rfl)
def ti79 : TI := ⟨1, true, [.sl none none 0 0 2 (fun _ => [])], [(0, 1, true)], none, false, false, 0, none⟩
theorem t79 : TyOK Try.prog 79 ti79 := tyB_ok (by kernel_rfl) (by kernel_rfl)
def ti80 : TI := ⟨2, true, [.int .u64 0, .str ⟨#[]⟩], [(0, 2, true)], none, false, false, 0, none⟩
theorem t80 : TyOK Try.prog 80 ti80 := tyB_ok (by kernel_rfl) (by kernel_rfl)
def ti81 : TI := ⟨2, true, [.int .u64 0, .str ⟨#[]⟩], [(0, 2, true)], none, false, false, 0, none⟩
theorem t81 : TyOK Try.prog 81 ti81 := tyB_ok (by kernel_rfl) (by kernel_rfl)
def ti82 : TI := ⟨1, false, [.raw .nilFunc], [], none, false, false, 0, none⟩
theorem t82 : TyOK Try.prog 82 ti82 := tyB_ok (by kernel_rfl) (by kernel_rfl)
def ti83 : TI := ⟨1, false, [.raw .nilFunc], [], none, false, false, 0, none⟩
theorem t83 : TyOK Try.prog 83 ti83 := tyB_ok (by kernel_rfl) (by kernel_rfl)
def ti84 : TI := ⟨1, false, [.raw .nilFunc], [], none, false, false, 0, none⟩
theorem t84 : TyOK Try.prog 84 ti84 := tyB_ok (by kernel_rfl) (by kernel_rfl)
def ti85 : TI := ⟨1, false, [.raw .nilFunc], [], none, false, false, 0, none⟩
theorem t85 : TyOK Try.prog 85 ti85 := tyB_ok (by kernel_rfl) (by kernel_rfl)
def ti87 : TI := ⟨1, false, [.raw .nilFunc], [], none, false, false, 0, none⟩
theorem t87 : TyOK Try.prog 87 ti87 := tyB_ok (by kernel_rfl) (by kernel_rfl)
def ti88 : TI := ⟨1, false, [.raw .nilFunc], [], none, false, false, 0, none⟩
theorem t88 : TyOK Try.prog 88 ti88 := tyB_ok (by kernel_rfl) (by kernel_rfl)
def ti89 : TI := ⟨1, false, [.raw .nilFunc], [], none, false, false, 0, none⟩
theorem t89 : TyOK Try.prog 89 ti89 := tyB_ok (by kernel_rfl) (by kernel_rfl)
def ti90 : TI := ⟨1, false, [.raw .nilFunc], [], none, false, false, 0, none⟩
theorem t90 : TyOK Try.prog 90 ti90 := tyB_ok (by kernel_rfl) (by kernel_rfl)
def ti91 : TI := ⟨1, false, [.raw .nilFunc], [], none, false, false, 0, none⟩
theorem t91 : TyOK Try.prog 91 ti91 := tyB_ok (by kernel_rfl) (by kernel_rfl)
def ti92 : TI := ⟨1, false, [.raw .nilFunc], [], none, false, false, 0, none⟩
theorem t92 : TyOK Try.prog 92 ti92 := tyB_ok (by kernel_rfl) (by kernel_rfl)
def ti93 : TI := ⟨1, false, [.raw .nilFunc], [], none, false, false, 0, none⟩
theorem t93 : TyOK Try.prog 93 ti93 := tyB_ok (by kernel_rfl) (by kernel_rfl)
def ti94 : TI := ⟨1, false, [.raw .nilFunc], [], none, false, false, 0, none⟩
theorem t94 : TyOK Try.prog 94 ti94 := tyB_ok (by kernel_rfl) (by kernel_rfl)
def ti95 : TI := ⟨1, false, [.raw .nilFunc], [], none, false, false, 0, none⟩
theorem t95 : TyOK Try.prog 95 ti95 := tyB_ok (by kernel_rfl) (by kernel_rfl)
def ti96 : TI := ⟨1, false, [.raw .nilFunc], [], none, false, false, 0, none⟩
theorem t96 : TyOK Try.prog 96 ti96 := tyB_ok (by kernel_rfl) (by kernel_rfl)
def ti97 : TI := ⟨1, false, [.raw .nilFunc], [], none, false, false, 0, none⟩
theorem t97 : TyOK Try.prog 97 ti97 := tyB_ok (by kernel_rfl) (by kernel_rfl)
def ti98 : TI := ⟨1, false, [.nilp], [], none, false, false, 0, none⟩
theorem t98 : TyOK Try.prog 98 ti98 := tyB_ok (by kernel_rfl) (by kernel_rfl)
def ti99 : TI := ⟨1, false, [.raw .nilFunc], [], none, false, false, 0, none⟩
theorem t99 : TyOK Try.prog 99 ti99 := tyB_ok (by kernel_rfl) (by kernel_rfl)
def ti100 : TI := ⟨1, false, [.raw .nilFunc], [], none, false, false, 0, none⟩
theorem t100 : TyOK Try.prog 100 ti100 := tyB_ok (by kernel_rfl) (by kernel_rfl)
def ti101 : TI := ⟨1, false, [.raw .nilFunc], [], none, false, false, 0, none⟩
theorem t101 : TyOK Try.prog 101 ti101 := tyB_ok (by kernel_rfl) (by kernel_rfl)
def ti102 : TI := ⟨1, false, [.int .u64 0], [], none, false, false, 0, some .u64⟩
theorem t102 : TyOK Try.prog 102 ti102 := tyB_ok (by kernel_rfl) (by kernel_rfl)
def ti103 : TI := ⟨1, false, [.raw .nilFunc], [], none, false, false, 0, none⟩
theorem t103 : TyOK Try.prog 103 ti103 := tyB_ok (by kernel_rfl) (by kernel_rfl)
def ti104 : TI := ⟨1, false, [.raw .nilFunc], [], none, false, false, 0, none⟩
theorem t104 : TyOK Try.prog 104 ti104 := tyB_ok (by kernel_rfl) (by kernel_rfl)
def ti105 : TI := ⟨1, false, [.raw .nilFunc], [], none, false, false, 0, none⟩
theorem t105 : TyOK Try.prog 105 ti105 := tyB_ok (by kernel_rfl) (by kernel_rfl)
def ti106 : TI := ⟨1, false, [.raw .nilFunc], [], none, false, false, 0, none⟩
theorem t106 : TyOK Try.prog 106 ti106 := tyB_ok (by kernel_rfl) (by kernel_rfl)
def ti107 : TI := ⟨1, false, [.raw .nilFunc], [], none, false, false, 0, none⟩
theorem t107 : TyOK Try.prog 107 ti107 := tyB_ok (by kernel_rfl) (by kernel_rfl)
def ti108 : TI := ⟨1, false, [.raw .nilFunc], [], none, false, false, 0, none⟩
theorem t108 : TyOK Try.prog 108 ti108 := tyB_ok (by kernel_rfl) (by kernel_rfl)
def ti109 : TI := ⟨1, false, [.raw .nilFunc], [], none, false, false, 0, none⟩
theorem t109 : TyOK Try.prog 109 ti109 := tyB_ok (by kernel_rfl) (by kernel_rfl)
def ti110 : TI := ⟨1, false, [.raw .nilFunc], [], none, false, false, 0, none⟩
theorem t110 : TyOK Try.prog 110 ti110 := tyB_ok (by kernel_rfl) (by kernel_rfl)
def ti111 : TI := ⟨1, false, [.raw .nilFunc], [], none, false, false, 0, none⟩
theorem t111 : TyOK Try.prog 111 ti111 := tyB_ok (by kernel_rfl) (by kernel_rfl)
def ti112 : TI := ⟨4, true, [.nilp, .nilp, .nilp, .str ⟨#[]⟩], [(0, 1, false), (1, 1, false), (2, 1, false), (3, 1, false)], none, false, false, 0, none⟩
theorem t112 : TyOK Try.prog 112 ti112 := tyB_ok (by kernel_rfl) (by kernel_rfl)
def ti113 : TI := ⟨4, true, [.nilp, .nilp, .nilp, .str ⟨#[]⟩], [(0, 1, false), (1, 1, false), (2, 1, false), (3, 1, false)], none, false, false, 0, none⟩
theorem t113 : TyOK Try.prog 113 ti113 := tyB_ok (by kernel_rfl) (by kernel_rfl)
def ti114 : TI := ⟨0, true, [], [], none, false, false, 0, none⟩
theorem t114 : TyOK Try.prog 114 ti114 := tyB_ok (by kernel_rfl) (by kernel_rfl)
def ti117 : TI := ⟨1, false, [.int .u32 0], [], none, false, false, 0, some .u32⟩
theorem t117 : TyOK Try.prog 117 ti117 := tyB_ok (by kernel_rfl) (by kernel_rfl)
def ti118 : TI := ⟨1, false, [.int .u8 0], [], none, false, false, 0, some .u8⟩
theorem t118 : TyOK Try.prog 118 ti118 := tyB_ok (by kernel_rfl) (by kernel_rfl)
def ti119 : TI := ⟨1, false, [.int .u8 0], [], none, false, false, 0, some .u8⟩
theorem t119 : TyOK Try.prog 119 ti119 := tyB_ok (by kernel_rfl) (by kernel_rfl)
def ti120 : TI := ⟨1, false, [.raw .nilFunc], [], none, false, false, 0, none⟩
theorem t120 : TyOK Try.prog 120 ti120 := tyB_ok (by kernel_rfl) (by kernel_rfl)
def ti121 : TI := ⟨1, false, [.nilp], [], none, false, false, 0, none⟩
theorem t121 : TyOK Try.prog 121 ti121 := tyB_ok (by kernel_rfl) (by kernel_rfl)
def ti122 : TI := ⟨1, false, [.int .i32 0], [], none, false, false, 0, some .i32⟩
theorem t122 : TyOK Try.prog 122 ti122 := tyB_ok (by kernel_rfl) (by kernel_rfl)
def ti123 : TI := ⟨1, false, [.int .i32 0], [], none, false, false, 0, some .i32⟩
theorem t123 : TyOK Try.prog 123 ti123 := tyB_ok (by kernel_rfl) (by kernel_rfl)
def ti124 : TI := ⟨11, true, [.int .u64 0, .int .u64 0, .int .u32 0, .int .u8 0, .int .u8 0, .int .u8 0, .int .u8 0, .raw .nilFunc, .nilp, .int .i32 0, .int .i32 0], [(0, 1, false), (1, 1, false), (2, 1, false), (3, 1, false), (4, 1, false), (5, 1, false), (6, 1, false), (7, 1, false), (8, 1, false), (9, 1, false), (10, 1, false)], none, false, false, 0, none⟩
theorem t124 : TyOK Try.prog 124 ti124 := tyB_ok (by kernel_rfl) (by kernel_rfl)
def ti125 : TI := ⟨11, true, [.int .u64 0, .int .u64 0, .int .u32 0, .int .u8 0, .int .u8 0, .int .u8 0, .int .u8 0, .raw .nilFunc, .nilp, .int .i32 0, .int .i32 0], [(0, 1, false), (1, 1, false), (2, 1, false), (3, 1, false), (4, 1, false), (5, 1, false), (6, 1, false), (7, 1, false), (8, 1, false), (9, 1, false), (10, 1, false)], none, false, false, 0, none⟩
theorem t125 : TyOK Try.prog 125 ti125 := tyB_ok (by kernel_rfl) (by kernel_rfl)
end Go.Proofs.Ytfddpcmlmcohjaa.Sym
