/- The code of the functions that this seat reaches, for the abstract machine, and the look at each by the kernel (printed by a program of ours). -/
import Derived.Test.YtpcopgdkcoiljaaAmAll4
import Derived.Test.YtpcopgdkcoiljaaAmAll3
import Derived.Test.YtpcopgdkcoiljaaProg
set_option maxRecDepth 100000
set_option linter.unusedVariables false
namespace Go.Am.Ef
open Go.Am
def bodies : List Nat := [2, 3, 4, 5, 6, 7, 8, 9, 10, 11, 12, 13, 14, 15, 16, 17, 18, 19, 20, 21, 22, 23, 24, 25, 26, 27, 28, 29, 30, 31, 32, 33, 34, 35, 36, 37, 38, 39, 40, 41, 42, 43, 44, 45, 46, 47, 48, 49, 50, 51, 52, 53, 54, 55, 56, 57, 58, 59, 60, 61, 62, 63, 64, 65, 66, 67, 68, 69, 70, 71, 72, 73, 74, 75, 76, 77, 78, 79, 80, 81, 82, 83, 84, 85, 86, 87, 88, 89, 90, 91, 92, 93, 94, 95, 96, 97, 98, 99, 100, 101, 102, 103, 104, 105, 106, 107]
def fnum (n : Nat) : Nat := bif Nat.beq n 119 then 19 else bif memN n bodies then n else 3
noncomputable def L : Link := { P := Go.Proofs.Try.prog, fn := fnum, ty := fun n => n }
theorem bodies_ok : bodies.all (fun n => FnOk L.P n) = true := by decide +kernel
theorem allFn : AllFn L := fun n => by
 show FnOk L.P (fnum n) = true
 unfold fnum
 cases Nat.beq n 119 with
 | true => exact List.all_eq_true.1 bodies_ok 19 (by decide)
 | false =>
 cases h : memN n bodies with
 | true => exact List.all_eq_true.1 bodies_ok n (memN_spec.1 h)
 | false => exact List.all_eq_true.1 bodies_ok 3 (by decide)
theorem mixed : L.P.follows .mixedOrders = true := by decide +kernel
noncomputable def fnOkB (n : Nat) (fn : AFn) : Bool := match L.P.funcs[L.fn n]? with | some F => (match F.body with | some c => chkCode L F.ntmps c fn.code && ressOk L F.results.toList fn.results | none => false) | none => false
abbrev mv (d s : Nat) : AOper := ⟨some d, .mov (.s s), none⟩
abbrev nk (d s : Nat) : AOper := ⟨some d, .nilck (.s s), none⟩
abbrev ld (d s : Nat) : AOper := ⟨some d, .load none (.s s), none⟩
abbrev fd (d s k : Nat) : AOper := ⟨some d, .fadr (.s s) k, none⟩
abbrev ex (d s k : Nat) : AOper := ⟨some d, .ext (.s s) k, none⟩
abbrev ia (d n s k : Nat) : AOper := ⟨some d, .idxa none n (.s s) (.s k), none⟩
abbrev lo (d n s : Nat) : AOper := ⟨some d, .load (some n) (.s s), none⟩
abbrev bn (d : Nat) (o : BinOp) (s k : Nat) : AOper := ⟨some d, .bin o (.s s) (.s k), none⟩
abbrev bi (d : Nat) (o : BinOp) (s : Nat) (k : IntKind) (n : Int) : AOper := ⟨some d, .bin o (.s s) (.k (.int k n)), none⟩
abbrev mi (d : Nat) (n : Int) : AOper := ⟨some d, .mov (.k (.int .i64 n)), none⟩
abbrev mb (d : Nat) (b : Bool) : AOper := ⟨some d, .mov (.k (.bool b)), none⟩
abbrev le (d s : Nat) : AOper := ⟨some d, .len 1 (.s s), none⟩
abbrev mg (d s g : Nat) (b : Bool) : AOper := ⟨some d, .mov (.s s), some (g, b)⟩
abbrev LA := List AOper
abbrev LD := List DItem
def a6r0 : LA := [⟨some 2, .box true (.s 0) 0, none⟩, mb 4 false]
def a6r1 : LA := [lo 18 2 2, ⟨some 19, .call 8 [(.s 18), (.k (.int .i64 400))] false, none⟩, mv 20 19, ⟨some 21, .load (some 2) (.s 2), (some (20, false))⟩, ⟨some 22, .call 12 [(.s 21)] false, (some (20, false))⟩, ⟨some 23, .un .not (.s 22), (some (20, false))⟩, ⟨some 24, .pick (.s 20) (.k (.bool true)) (.s 23), none⟩, mv 25 24, ⟨some 26, .fadr (.s 2) 1, (some (25, false))⟩, ⟨some 27, .load none (.s 26), (some (25, false))⟩, ⟨some 28, .len 1 (.s 27), (some (25, false))⟩, ⟨some 29, .bin .eql (.s 28) (.k (.int .i64 0)), (some (25, false))⟩, ⟨some 30, .pick (.s 25) (.k (.bool true)) (.s 29), none⟩]
def a6r2 : LA := [⟨some 31, .call 9 [] false, none⟩, mv 4 31]
def a6r3 : LA := [⟨some 33, .build [(strv []), .int .i64 0] [(0, 1, (.k ((strv [110, 101, 116]))))], none⟩, ⟨some 34, .build [(strv []), .int .i64 0] [(0, 1, (.k ((strv [108, 111, 103]))))], none⟩, ⟨some 35, .lits 2 2 [(strv []), .int .i64 0] [(0, 2, (.s 33)), (2, 2, (.s 34))], none⟩, ⟨some 36, .call 16 [(.s 35)] false, none⟩, mv 32 36, ex 37 32 0, ex 38 32 1, ex 39 32 2, mv 5 37, mv 6 38, mv 7 39]
def a6r4 : LA := [lo 41 2 2, mv 42 5, ⟨some 43, .call 19 [(.s 41), (.s 42)] false, none⟩, mv 40 43, ex 44 40 0, ex 45 40 1, ex 46 40 2, mv 8 44, mv 9 45, mv 10 46]
def a6r5 : LA := [mv 47 1, fd 48 2 1, ld 49 48, le 50 49, ⟨some 51, .call 25 [(.s 47), (.s 50)] false, none⟩, mv 11 51]
def a6r6 : LA := [fd 52 2 1, ld 53 52, mv 54 11, ia 55 16 53 54, lo 56 16 55, ⟨some 12, .alloc true [(strv []), .int .i64 0, .int .i64 0, .nils, .int .i64 0, .int .i64 0, .bool false, .nils, .nils, .int .i64 0, .int .i64 0, .int .i64 0, .int .i64 0, .int .i64 0, (strv []), .nils] 0, none⟩, ⟨none, .store 16 (.s 12) (.s 56), none⟩]
def a6r7 : LA := [mv 57 10, bi 58 .neq 57 .i64 0, mv 59 58, mg 60 10 59 true, ⟨some 61, .bin .neq (.s 60) (.k (.int .i64 20)), (some (59, true))⟩, ⟨some 62, .pick (.s 59) (.s 61) (.k (.bool false)), none⟩, mv 63 62, mg 64 10 63 false, ⟨some 65, .bin .eql (.s 64) (.k (.int .i64 20)), (some (63, false))⟩, mg 66 65 63 false, mg 67 8 66 true, mg 68 11 66 true, ⟨some 69, .bin .leq (.s 67) (.s 68), (some (66, true))⟩, ⟨some 70, .pick (.s 66) (.s 69) (.k (.bool false)), (some (63, false))⟩, ⟨some 71, .pick (.s 63) (.k (.bool true)) (.s 70), none⟩, mv 72 71, ⟨some 73, .fadr (.s 12) 6, (some (72, false))⟩, ⟨some 74, .fadr (.s 73) 0, (some (72, false))⟩, ⟨some 75, .load none (.s 74), (some (72, false))⟩, ⟨some 76, .un .not (.s 75), (some (72, false))⟩, ⟨some 77, .pick (.s 72) (.k (.bool true)) (.s 76), none⟩]
def a6r8 : LA := [⟨some 78, .call 9 [] false, none⟩, mv 4 78]
def a6r9 : LA := [⟨some 79, .buildsl 2 0 [(strv []), .int .i64 0] [] 0, none⟩, fd 80 12 6, fd 81 80 1, ld 82 81, ⟨some 83, .app 2 24 (.s 79) (.s 82) 1, none⟩, ⟨some 84, .build [(strv []), .int .i64 0] [(0, 1, (.k ((strv [108, 111, 103]))))], none⟩, ⟨some 85, .lits 2 1 [(strv []), .int .i64 0] [(0, 2, (.s 84))], none⟩, ⟨some 86, .app 2 24 (.s 83) (.s 85) 2, none⟩, fd 87 12 6, fd 88 87 1, ⟨none, .store 1 (.s 88) (.s 86), none⟩]
def a6r10 : LA := [⟨some 89, .buildsl 16 0 [(strv []), .int .i64 0, .int .i64 0, .nils, .int .i64 0, .int .i64 0, .bool false, .nils, .nils, .int .i64 0, .int .i64 0, .int .i64 0, .int .i64 0, .int .i64 0, (strv []), .nils] [] 0, none⟩, fd 90 2 1, ld 91 90, mv 92 11, ⟨some 93, .slice (some 16) (.s 91) none (some (.s 92)) none, none⟩, ⟨some 94, .app 16 208 (.s 89) (.s 93) 1, none⟩, mv 13 94]
def a6r11 : LA := [mv 95 13, lo 96 16 12, ⟨some 97, .lits 16 1 [(strv []), .int .i64 0, .int .i64 0, .nils, .int .i64 0, .int .i64 0, .bool false, .nils, .nils, .int .i64 0, .int .i64 0, .int .i64 0, .int .i64 0, .int .i64 0, (strv []), .nils] [(0, 16, (.s 96))], none⟩, ⟨some 98, .app 16 208 (.s 95) (.s 97) 0, none⟩, mv 13 98]
def a6d12 : LD := [⟨fd 99 2 0, 0, [2], 0, [], []⟩, ⟨ld 100 99, 1, [2, 99], 1, [], [0]⟩, ⟨mv 101 13, 2, [13], 0, [], []⟩, ⟨fd 102 2 1, 3, [2], 0, [], []⟩, ⟨ld 103 102, 4, [2, 102], 1, [], [3]⟩, ⟨mv 104 11, 5, [11], 0, [], []⟩, ⟨bi 105 .add 104 .i64 1, 6, [104], 0, [], [5]⟩, ⟨⟨some 106, .slice (some 16) (.s 103) (some (.s 105)) none none, none⟩, 7, [103, 105], 0, [], [3, 4, 5, 6]⟩, ⟨⟨some 14, .alloc true [.nils, .nils] 0, none⟩, 10, [], 2, [], []⟩, ⟨⟨some 107, .app 16 208 (.s 101) (.s 106) 0, none⟩, 8, [101, 106], 4, [1, 8], [2, 3, 4, 5, 6, 7]⟩, ⟨⟨some 108, .build [.nils, .nils] [(0, 1, (.s 100)), (1, 1, (.s 107))], none⟩, 9, [100, 107], 0, [], [0, 1, 2, 3, 4, 5, 6, 7, 9]⟩, ⟨⟨none, .store 2 (.s 14) (.s 108), none⟩, 11, [14, 108], 4, [], (List.range 11)⟩]
def a6r13 : LA := [lo 110 2 14, mv 111 5, ⟨some 112, .call 119 [(.s 110), (.s 111)] false, none⟩, mv 109 112, ex 113 109 0, ex 114 109 1, ex 115 109 2, mv 15 113, mv 16 114, mv 17 115]
def a6r14 : LA := [lo 116 2 2, mv 117 11, mv 118 11, ⟨some 119, .call 13 [(.s 116), (.s 117), (.s 118)] false, none⟩]
def a6r15 : LA := [⟨some 120, .call 9 [] false, none⟩, mv 4 120]
def a6r16 : LA := [mv 121 17, bi 122 .eql 121 .i64 0, mv 123 122, mg 124 17 123 false, ⟨some 125, .bin .eql (.s 124) (.k (.int .i64 20)), (some (123, false))⟩, mg 126 125 123 false, mg 127 15 126 true, mg 128 11 126 true, ⟨some 129, .bin .neq (.s 127) (.s 128), (some (126, true))⟩, ⟨some 130, .pick (.s 126) (.s 129) (.k (.bool false)), (some (123, false))⟩, ⟨some 131, .pick (.s 123) (.k (.bool true)) (.s 130), none⟩, mv 132 131, ⟨some 133, .call 9 [] false, (some (132, true))⟩, ⟨some 134, .pick (.s 132) (.s 133) (.k (.bool false)), none⟩, mv 4 134]
def a6c : ACode := (.seq (.reg 0 a6r0 [1, 2]) (.seq (.seq (.reg 0 a6r1 [1, 2, 30]) (.cond (.s 30) (.seq (.reg 0 a6r2 [4]) .ret) .skip)) (.seq (.reg 0 a6r3 [1, 2, 5]) (.seq (.reg 0 a6r4 [1, 2, 5, 8, 10]) (.seq (.reg 0 a6r5 [2, 5, 8, 10, 11]) (.seq (.reg 0 a6r6 [2, 5, 8, 10, 11, 12]) (.seq (.seq (.reg 0 a6r7 [2, 5, 11, 12, 77]) (.cond (.s 77) (.seq (.reg 0 a6r8 [4]) .ret) .skip)) (.seq (.reg 3 a6r9 [2, 5, 11, 12]) (.seq (.reg 2 a6r10 [2, 5, 11, 12, 13]) (.seq (.reg 1 a6r11 [2, 5, 11, 13]) (.seq (.dreg 1 a6d12 [2, 5, 11, 14]) (.seq (.reg 0 a6r13 [2, 11, 15, 17]) (.seq (.seq (.reg 0 a6r14 [11, 15, 17, 119]) (.cond (.s 119) (.seq (.reg 0 a6r15 [4]) .ret) .skip)) (.seq (.reg 0 a6r16 [4]) .ret))))))))))))))
def a6 : AFn := ⟨[.slot 4], a6c⟩
theorem ok6 : fnOkB 6 a6 = true := by decide +kernel
def a8r0 : LA := [⟨some 2, .box true (.s 0) 0, none⟩, mb 4 false]
def a8r1 : LA := [mv 7 1, fd 8 2 0, ld 9 8, le 10 9, mv 11 1, bi 12 .add 11 .i64 1, ⟨some 13, .mm false (.s 10) (.s 12), none⟩, bn 14 .sub 7 13, mv 5 14]
def a8r2 : LA := [mi 6 0]
def a8r3 : LA := [mv 15 6, fd 16 2 1, ld 17 16, le 18 17, bn 19 .lss 15 18, mv 20 19, mg 21 5 20 true, ⟨some 22, .bin .geq (.s 21) (.k (.int .i64 0)), (some (20, true))⟩, ⟨some 23, .pick (.s 20) (.s 22) (.k (.bool false)), none⟩]
def a8d4 : LD := [⟨fd 26 2 1, 0, [2], 0, [], []⟩, ⟨ld 27 26, 1, [2, 26], 1, [], [0]⟩, ⟨mv 28 6, 2, [6], 0, [], []⟩, ⟨ia 29 16 27 28, 3, [27, 28], 0, [], [0, 1, 2]⟩, ⟨fd 30 29 8, 4, [29], 0, [], [0, 1, 2, 3]⟩, ⟨ld 31 30, 5, [30], 1, [], [0, 1, 2, 3, 4]⟩, ⟨mv 32 5, 6, [5], 0, [], []⟩, ⟨bi 33 .sub 32 .i64 1, 7, [32], 0, [], [6]⟩, ⟨fd 34 2 1, 8, [2], 0, [], []⟩, ⟨ld 35 34, 9, [2, 34], 1, [], [8]⟩, ⟨mv 36 6, 10, [6], 0, [], []⟩, ⟨ia 37 16 35 36, 11, [35, 36], 0, [], [8, 9, 10]⟩, ⟨fd 38 37 3, 12, [37], 0, [], [8, 9, 10, 11]⟩, ⟨ld 39 38, 13, [38], 1, [], [8, 9, 10, 11, 12]⟩, ⟨le 40 39, 14, [39], 0, [], [8, 9, 10, 11, 12, 13]⟩, ⟨mv 41 1, 15, [1], 0, [], []⟩, ⟨bi 42 .add 41 .i64 1, 16, [41], 0, [], [15]⟩, ⟨⟨some 43, .mm false (.s 40) (.s 42), none⟩, 17, [40, 42], 0, [], [8, 9, 10, 11, 12, 13, 14, 15, 16]⟩, ⟨bn 44 .sub 33 43, 18, [33, 43], 0, [], [6, 7, 8, 9, 10, 11, 12, 13, 14, 15, 16, 17]⟩, ⟨fd 45 2 1, 19, [2], 0, [], []⟩, ⟨ld 46 45, 20, [2, 45], 1, [], [19]⟩, ⟨mv 47 6, 21, [6], 0, [], []⟩, ⟨ia 48 16 46 47, 22, [46, 47], 0, [], [19, 20, 21]⟩, ⟨fd 49 48 6, 23, [48], 0, [], [19, 20, 21, 22]⟩, ⟨fd 50 49 1, 24, [49], 0, [], [19, 20, 21, 22, 23]⟩, ⟨ld 51 50, 25, [50], 1, [], [19, 20, 21, 22, 23, 24]⟩, ⟨le 52 51, 26, [51], 0, [], [19, 20, 21, 22, 23, 24, 25]⟩, ⟨mv 53 1, 27, [1], 0, [], []⟩, ⟨bi 54 .add 53 .i64 1, 28, [53], 0, [], [27]⟩, ⟨⟨some 55, .mm false (.s 52) (.s 54), none⟩, 29, [52, 54], 0, [], [19, 20, 21, 22, 23, 24, 25, 26, 27, 28]⟩, ⟨bn 56 .sub 44 55, 30, [44, 55], 0, [], [6, 7, 8, 9, 10, 11, 12, 13, 14, 15, 16, 17, 18, 19, 20, 21, 22, 23, 24, 25, 26, 27, 28, 29]⟩, ⟨⟨some 57, .call 27 [(.s 31), (.s 56)] false, none⟩, 31, [31, 56], 4, [], (List.range 31)⟩, ⟨mv 5 57, 32, [57], 3, [], (List.range 32)⟩]
def a8r5 : LA := [fd 58 2 1, ld 59 58, mv 60 6, ia 61 16 59 60, fd 62 61 9, lo 63 7 62, mv 64 5, ⟨some 65, .call 28 [(.s 63), (.s 64)] false, none⟩, mv 5 65]
def a8r6 : LA := [mv 24 6, bi 25 .add 24 .i64 1, mv 6 25]
def a8l0 : ACode := (.seq (.seq (.reg 0 a8r3 [1, 2, 5, 6, 23]) (.cond (.s 23) .skip (.exit 0))) (.seq (.block 1 (.seq (.dreg 0 a8d4 [1, 2, 5, 6]) (.reg 0 a8r5 [1, 2, 5, 6]))) (.reg 0 a8r6 [1, 2, 5, 6])))
def a8r7 : LA := [mv 66 5, bi 67 .lss 66 .i64 0, mv 4 67]
def a8c : ACode := (.seq (.reg 0 a8r0 [1, 2]) (.seq (.reg 0 a8r1 [1, 2, 5]) (.seq (.seq (.reg 0 a8r2 [1, 2, 5, 6]) (.block 0 (.loop a8l0))) (.seq (.reg 0 a8r7 [4]) .ret))))
def a8 : AFn := ⟨[.slot 4], a8c⟩
theorem ok8 : fnOkB 8 a8 = true := by decide +kernel
def a9r0 : LA := [mb 0 false]
def a9r1 : LA := [⟨some 12, .build [(strv []), .int .i64 0] [(0, 1, (.k ((strv [110, 101, 116]))))], none⟩, ⟨some 13, .lits 2 1 [(strv []), .int .i64 0] [(0, 2, (.s 12))], none⟩, ⟨some 14, .call 16 [(.s 13)] false, none⟩, mv 11 14, ex 15 11 0, ex 16 11 1, ex 17 11 2, mv 1 15, mv 2 16, mv 3 17]
def a9r2 : LA := [⟨some 19, .call 29 [(.k (.bool false))] false, none⟩, mv 20 1, ⟨some 21, .call 18 [(.s 19), (.s 20)] false, none⟩, mv 18 21, ex 22 18 0, ex 23 18 1, ex 24 18 2, ex 25 18 3, mv 4 22, mv 5 23, mv 6 24, mv 7 25]
def a9r3 : LA := [⟨some 27, .call 29 [(.k (.bool true))] false, none⟩, mv 28 1, ⟨some 29, .call 19 [(.s 27), (.s 28)] false, none⟩, mv 26 29, ex 30 26 0, ex 31 26 1, ex 32 26 2, mv 8 30, mv 9 31, mv 10 32]
def a9r4 : LA := [mv 33 7, bi 34 .eql 33 .i64 0, mv 35 34, mg 36 4 35 true, ⟨some 37, .len 1 (.s 36), (some (35, true))⟩, ⟨some 38, .bin .eql (.s 37) (.k (.int .i64 2)), (some (35, true))⟩, ⟨some 39, .pick (.s 35) (.s 38) (.k (.bool false)), none⟩, mv 40 39, mg 41 4 40 true, ⟨some 42, .idxa none 1 (.s 41) (.k (.int .i64 0)), (some (40, true))⟩, ⟨some 43, .load none (.s 42), (some (40, true))⟩, ⟨some 44, .bin .eql (.s 43) (.k (.int .u64 1)), (some (40, true))⟩, ⟨some 45, .pick (.s 40) (.s 44) (.k (.bool false)), none⟩, mv 46 45, mg 47 4 46 true, ⟨some 48, .idxa none 1 (.s 47) (.k (.int .i64 1)), (some (46, true))⟩, ⟨some 49, .load none (.s 48), (some (46, true))⟩, ⟨some 50, .bin .eql (.s 49) (.k (.int .u64 1)), (some (46, true))⟩, ⟨some 51, .pick (.s 46) (.s 50) (.k (.bool false)), none⟩, mv 52 51, mg 53 9 52 true, ⟨some 54, .bin .eql (.s 53) (.k (.int .i64 7)), (some (52, true))⟩, ⟨some 55, .pick (.s 52) (.s 54) (.k (.bool false)), none⟩, mv 56 55, mg 57 10 56 true, ⟨some 58, .bin .eql (.s 57) (.k (.int .i64 20)), (some (56, true))⟩, ⟨some 59, .pick (.s 56) (.s 58) (.k (.bool false)), none⟩, mv 0 59]
def a9c : ACode := (.seq (.reg 0 a9r0 []) (.seq (.reg 0 a9r1 [1]) (.seq (.reg 0 a9r2 [1, 4, 7]) (.seq (.reg 0 a9r3 [4, 7, 9, 10]) (.seq (.reg 0 a9r4 [0]) .ret)))))
def a9 : AFn := ⟨[.slot 0], a9c⟩
theorem ok9 : fnOkB 9 a9 = true := by decide +kernel
def a10r0 : LA := [⟨some 1, .box true (.s 0) 0, none⟩, ⟨some 2, .mov (.k (.nils)), none⟩, mi 3 0]
def a10r1 : LA := [lo 10 2 1, ⟨some 11, .call 30 [(.s 10)] false, none⟩, ⟨some 12, .un .not (.s 11), none⟩]
def a10r2 : LA := [⟨some 2, .mov (.k (.nils)), none⟩, mi 3 1]
def a10r3 : LA := [⟨some 4, .mov (.k (.nils)), none⟩]
def a10r4 : LA := [fd 13 1 1, ld 14 13, le 15 14, mi 16 0]
def a10r5 : LA := [bn 17 .lss 16 15]
def a10r6 : LA := [ia 18 16 14 16, lo 19 16 18, ⟨some 6, .alloc true [(strv []), .int .i64 0, .int .i64 0, .nils, .int .i64 0, .int .i64 0, .bool false, .nils, .nils, .int .i64 0, .int .i64 0, .int .i64 0, .int .i64 0, .int .i64 0, (strv []), .nils] 0, none⟩, ⟨none, .store 16 (.s 6) (.s 19), none⟩]
def a10r7 : LA := [⟨some 7, .mov (.k (.nils)), none⟩]
def a10r8 : LA := [lo 20 16 6, ⟨some 21, .call 31 [(.s 20)] false, none⟩, le 22 21, mi 23 0]
def a10r9 : LA := [bn 24 .lss 23 22]
def a10r10 : LA := [ia 25 3 21 23, lo 26 3 25, ⟨some 9, .alloc true [.int .i64 0, (strv []), .int .i64 0] 0, none⟩, ⟨none, .store 3 (.s 9) (.s 26), none⟩]
def a10r11 : LA := [fd 27 9 2, ld 28 27, bi 29 .geq 28 .i64 0]
def a10r12 : LA := [mv 30 7, fd 31 9 2, ld 32 31, ⟨some 33, .lits 1 1 [.int .i64 0] [(0, 1, (.s 32))], none⟩, ⟨some 34, .app 1 8 (.s 30) (.s 33) 0, none⟩, mv 7 34]
def a10r13 : LA := [bi 35 .add 23 .i64 1, mv 23 35]
def a10l0 : ACode := (.seq (.reg 0 a10r9 [4, 7, 14, 15, 16, 21, 22, 23, 24]) (.seq (.cond (.s 24) .skip (.exit 2)) (.seq (.block 3 (.seq (.reg 0 a10r10 [4, 7, 9, 14, 15, 16, 21, 22, 23]) (.seq (.reg 0 a10r11 [4, 7, 9, 14, 15, 16, 21, 22, 23, 29]) (.cond (.s 29) (.reg 1 a10r12 [4, 7, 14, 15, 16, 21, 22, 23]) .skip)))) (.reg 0 a10r13 [4, 7, 14, 15, 16, 21, 22, 23]))))
def a10r14 : LA := [mv 36 7, ⟨some 37, .call 32 [(.s 36)] false, none⟩]
def a10r15 : LA := [mv 38 4, mv 39 7, ⟨some 40, .call 33 [(.s 39)] false, none⟩, ⟨some 41, .lits 1 1 [.nils] [(0, 1, (.s 40))], none⟩, ⟨some 42, .app 1 24 (.s 38) (.s 41) 0, none⟩, mv 4 42]
def a10r16 : LA := [bi 43 .add 16 .i64 1, mv 16 43]
def a10l1 : ACode := (.seq (.reg 0 a10r5 [4, 14, 15, 16, 17]) (.seq (.cond (.s 17) .skip (.exit 0)) (.seq (.block 1 (.seq (.reg 0 a10r6 [4, 6, 14, 15, 16]) (.seq (.reg 0 a10r7 [4, 6, 7, 14, 15, 16]) (.seq (.seq (.reg 0 a10r8 [4, 7, 14, 15, 16, 21, 22, 23]) (.block 2 (.loop a10l0))) (.seq (.reg 0 a10r14 [4, 7, 14, 15, 16]) (.reg 1 a10r15 [4, 14, 15, 16])))))) (.reg 0 a10r16 [4, 14, 15, 16]))))
def a10r17 : LA := [mv 44 4, mv 2 44, mi 3 0]
def a10c : ACode := (.seq (.reg 0 a10r0 [1]) (.seq (.seq (.reg 0 a10r1 [1, 12]) (.cond (.s 12) (.seq (.reg 0 a10r2 [2, 3]) .ret) .skip)) (.seq (.reg 0 a10r3 [1, 4]) (.seq (.seq (.reg 0 a10r4 [4, 14, 15, 16]) (.block 0 (.loop a10l1))) (.seq (.reg 0 a10r17 [2, 3]) .ret)))))
def a10 : AFn := ⟨[.slot 2, .slot 3], a10c⟩
theorem ok10 : fnOkB 10 a10 = true := by decide +kernel
def a11r0 : LA := [⟨some 1, .box true (.s 0) 0, none⟩, ⟨some 2, .mov (.k (.nils)), none⟩, mi 3 0]
def a11r1 : LA := [lo 13 2 1, ⟨some 14, .call 10 [(.s 13)] false, none⟩, mv 12 14, ex 15 12 0, ex 16 12 1, mv 4 15, mv 5 16]
def a11r2 : LA := [mv 17 5, bi 18 .neq 17 .i64 0]
def a11r3 : LA := [mv 19 5, ⟨some 2, .mov (.k (.nils)), none⟩, mv 3 19]
def a11r4 : LA := [mv 20 4, le 21 20, mv 6 21]
def a11d5 : LD := [⟨mv 22 4, 0, [4], 0, [], []⟩, ⟨mv 23 6, 1, [6], 0, [], []⟩, ⟨mv 25 6, 3, [6], 0, [], []⟩, ⟨mv 27 6, 5, [6], 0, [], []⟩, ⟨mv 29 6, 7, [6], 0, [], []⟩, ⟨⟨some 24, .mksl 1 8 [.int .i64 0] (.s 23) (.s 23) 0, none⟩, 2, [23], 4, [], [1]⟩, ⟨⟨some 26, .mksl 1 8 [.int .i64 0] (.s 25) (.s 25) 1, none⟩, 4, [25], 4, [], [2]⟩, ⟨⟨some 28, .mksl 1 1 [.bool false] (.s 27) (.s 27) 2, none⟩, 6, [27], 4, [], [3]⟩, ⟨⟨some 30, .mksl 1 8 [.int .i64 0] (.s 29) (.s 29) 3, none⟩, 8, [29], 4, [], [4]⟩, ⟨⟨some 31, .build [.nils, .nils, .nils, .nils, .nils, .nils, .int .i64 0, .int .i64 0] [(0, 1, (.s 22)), (1, 1, (.s 24)), (2, 1, (.s 26)), (3, 1, (.s 28)), (5, 1, (.s 30))], none⟩, 9, [22, 24, 26, 28, 30], 0, [], (List.range 9)⟩, ⟨⟨some 32, .box false (.s 31) 4, none⟩, 10, [31], 4, [], (List.range 10)⟩, ⟨mv 7 32, 11, [32], 3, [], (List.range 11)⟩]
def a11r6 : LA := [mv 33 6, mi 34 0]
def a11r7 : LA := [bn 35 .lss 34 33]
def a11r8 : LA := [mv 36 34, mv 8 36]
def a11r9 : LA := [mv 37 7, nk 38 37, fd 39 38 1, ld 40 39, mv 41 8, ia 42 1 40 41, ld 43 42, bi 44 .eql 43 .i64 0]
def a11r10 : LA := [mv 45 7, mv 46 8, ⟨some 47, .call 34 [(.s 45), (.s 46)] false, none⟩]
def a11r11 : LA := [bi 48 .add 34 .i64 1, mv 34 48]
def a11l0 : ACode := (.seq (.reg 0 a11r7 [7, 33, 34, 35]) (.seq (.cond (.s 35) .skip (.exit 0)) (.seq (.block 1 (.seq (.reg 0 a11r8 [7, 8, 33, 34]) (.seq (.reg 0 a11r9 [7, 8, 33, 34, 44]) (.cond (.s 44) (.reg 0 a11r10 [7, 33, 34]) .skip)))) (.reg 0 a11r11 [7, 33, 34]))))
def a11r12 : LA := [mv 49 7, nk 50 49, fd 51 50 6, ld 52 51, ⟨some 53, .mksl 1 24 [.nils] (.s 52) (.s 52) 0, none⟩, mv 9 53]
def a11r13 : LA := [mv 54 7, nk 55 54, fd 56 55 5, ld 57 56, le 58 57, mi 59 0]
def a11r14 : LA := [bn 60 .lss 59 58]
def a11r15 : LA := [mv 61 59, ia 62 1 57 59, ld 63 62, mv 10 61, mv 11 63]
def a11r16 : LA := [mv 64 9, mv 65 11, mv 66 9, mv 67 11, ia 68 1 66 67, ld 69 68, mv 70 10, ⟨some 71, .lits 1 1 [.int .i64 0] [(0, 1, (.s 70))], none⟩, ⟨some 72, .app 1 8 (.s 69) (.s 71) 0, none⟩, ia 73 1 64 65, ⟨none, .store 1 (.s 73) (.s 72), none⟩]
def a11r17 : LA := [bi 74 .add 59 .i64 1, mv 59 74]
def a11l1 : ACode := (.seq (.reg 0 a11r14 [7, 9, 57, 58, 59, 60]) (.seq (.cond (.s 60) .skip (.exit 2)) (.seq (.block 3 (.seq (.reg 0 a11r15 [7, 9, 10, 11, 57, 58, 59]) (.reg 1 a11r16 [7, 9, 57, 58, 59]))) (.reg 0 a11r17 [7, 9, 57, 58, 59]))))
def a11r18 : LA := [mv 75 7, mv 76 9, ⟨some 77, .call 35 [(.s 75), (.s 76)] false, none⟩, mv 2 77, mi 3 0]
def a11c : ACode := (.seq (.reg 0 a11r0 [1, 7]) (.seq (.reg 0 a11r1 [4, 5, 7]) (.seq (.seq (.reg 0 a11r2 [4, 5, 7, 18]) (.cond (.s 18) (.seq (.reg 0 a11r3 [2, 3]) .ret) .skip)) (.seq (.reg 0 a11r4 [4, 6, 7]) (.seq (.dreg 5 a11d5 [6, 7]) (.seq (.seq (.reg 0 a11r6 [7, 33, 34]) (.block 0 (.loop a11l0))) (.seq (.reg 1 a11r12 [7, 9]) (.seq (.seq (.reg 0 a11r13 [7, 9, 57, 58, 59]) (.block 2 (.loop a11l1))) (.seq (.reg 0 a11r18 [2, 3]) .ret)))))))))
def a11 : AFn := ⟨[.slot 2, .slot 3], a11c⟩
theorem ok11 : fnOkB 11 a11 = true := by decide +kernel
def a12r0 : LA := [⟨some 1, .box true (.s 0) 0, none⟩, mb 2 false]
def a12r1 : LA := [mi 3 0]
def a12r2 : LA := [mv 6 3, fd 7 1 1, ld 8 7, le 9 8, bn 10 .lss 6 9]
def a12r3 : LA := [fd 13 1 1, ld 14 13, mv 15 3, ia 16 16 14 15, lo 17 16 16, ⟨some 4, .alloc true [(strv []), .int .i64 0, .int .i64 0, .nils, .int .i64 0, .int .i64 0, .bool false, .nils, .nils, .int .i64 0, .int .i64 0, .int .i64 0, .int .i64 0, .int .i64 0, (strv []), .nils] 0, none⟩, ⟨none, .store 16 (.s 4) (.s 17), none⟩]
def a12r4 : LA := [mi 5 0]
def a12r5 : LA := [mv 18 5, fd 19 4 3, ld 20 19, le 21 20, bn 22 .lss 18 21]
def a12d6 : LD := [⟨lo 25 2 1, 0, [1], 1, [], []⟩, ⟨fd 26 4 3, 1, [4], 0, [], []⟩, ⟨ld 27 26, 2, [4, 26], 1, [], [1]⟩, ⟨mv 28 5, 3, [5], 0, [], []⟩, ⟨ia 29 1 27 28, 4, [27, 28], 0, [], [1, 2, 3]⟩, ⟨ld 30 29, 5, [29], 1, [], [1, 2, 3, 4]⟩, ⟨⟨some 31, .call 36 [(.s 25), (.s 30)] false, none⟩, 6, [25, 30], 4, [], (List.range 6)⟩, ⟨⟨some 32, .un .not (.s 31), none⟩, 7, [31], 0, [], (List.range 7)⟩]
def a12r7 : LA := [mb 2 false]
def a12r8 : LA := [mv 23 5, bi 24 .add 23 .i64 1, mv 5 24]
def a12l0 : ACode := (.seq (.seq (.reg 0 a12r5 [1, 3, 4, 5, 22]) (.cond (.s 22) .skip (.exit 2))) (.seq (.block 3 (.seq (.dreg 0 a12d6 [1, 3, 4, 5, 32]) (.cond (.s 32) (.seq (.reg 0 a12r7 [2]) .ret) .skip))) (.reg 0 a12r8 [1, 3, 4, 5])))
def a12r9 : LA := [lo 33 2 1, fd 34 4 4, ld 35 34, ⟨some 36, .call 36 [(.s 33), (.s 35)] false, none⟩, ⟨some 37, .un .not (.s 36), none⟩, mv 38 37, ⟨some 39, .load (some 2) (.s 1), (some (38, false))⟩, ⟨some 40, .fadr (.s 4) 5, (some (38, false))⟩, ⟨some 41, .load none (.s 40), (some (38, false))⟩, ⟨some 42, .call 36 [(.s 39), (.s 41)] false, (some (38, false))⟩, ⟨some 43, .un .not (.s 42), (some (38, false))⟩, ⟨some 44, .pick (.s 38) (.k (.bool true)) (.s 43), none⟩, mv 45 44, ⟨some 46, .load (some 2) (.s 1), (some (45, false))⟩, ⟨some 47, .fadr (.s 4) 8, (some (45, false))⟩, ⟨some 48, .load none (.s 47), (some (45, false))⟩, ⟨some 49, .call 37 [(.s 46), (.s 48), (.k (.int .i64 1))] false, (some (45, false))⟩, ⟨some 50, .un .not (.s 49), (some (45, false))⟩, ⟨some 51, .pick (.s 45) (.k (.bool true)) (.s 50), none⟩, mv 52 51, ⟨some 53, .load (some 2) (.s 1), (some (52, false))⟩, ⟨some 54, .fadr (.s 4) 9, (some (52, false))⟩, ⟨some 55, .load (some 7) (.s 54), (some (52, false))⟩, ⟨some 56, .call 38 [(.s 53), (.s 55), (.k (.int .i64 1))] false, (some (52, false))⟩, ⟨some 57, .un .not (.s 56), (some (52, false))⟩, ⟨some 58, .pick (.s 52) (.k (.bool true)) (.s 57), none⟩]
def a12r10 : LA := [mb 2 false]
def a12r11 : LA := [mv 11 3, bi 12 .add 11 .i64 1, mv 3 12]
def a12l1 : ACode := (.seq (.seq (.reg 0 a12r2 [1, 3, 10]) (.cond (.s 10) .skip (.exit 0))) (.seq (.block 1 (.seq (.reg 0 a12r3 [1, 3, 4]) (.seq (.seq (.reg 0 a12r4 [1, 3, 4, 5]) (.block 2 (.loop a12l0))) (.seq (.reg 0 a12r9 [1, 3, 58]) (.cond (.s 58) (.seq (.reg 0 a12r10 [2]) .ret) .skip))))) (.reg 0 a12r11 [1, 3])))
def a12r12 : LA := [fd 59 1 0, ld 60 59, le 61 60, bi 62 .leq 61 .i64 512, mv 2 62]
def a12c : ACode := (.seq (.reg 0 a12r0 [1]) (.seq (.seq (.reg 0 a12r1 [1, 3]) (.block 0 (.loop a12l1))) (.seq (.reg 0 a12r12 [2]) .ret)))
def a12 : AFn := ⟨[.slot 2], a12c⟩
theorem ok12 : fnOkB 12 a12 = true := by decide +kernel
def a13r0 : LA := [⟨some 3, .box true (.s 0) 0, none⟩, mb 6 false]
def a13r1 : LA := [fd 9 3 1, ld 10 9, mv 11 1, ia 12 16 10 11, lo 13 16 12, ⟨some 14, .call 23 [(.s 13)] false, none⟩, mv 7 14]
def a13r2 : LA := [mi 8 0]
def a13r3 : LA := [mv 15 8, mv 16 7, le 17 16, bn 18 .lss 15 17]
def a13r4 : LA := [mv 21 7, mv 22 8, ia 23 3 21 22, fd 24 23 2, ld 25 24, mv 26 2, bn 27 .eql 25 26]
def a13r5 : LA := [mb 6 true]
def a13r6 : LA := [mv 19 8, bi 20 .add 19 .i64 1, mv 8 20]
def a13l0 : ACode := (.seq (.seq (.reg 0 a13r3 [2, 7, 8, 18]) (.cond (.s 18) .skip (.exit 0))) (.seq (.block 1 (.seq (.reg 0 a13r4 [2, 7, 8, 27]) (.cond (.s 27) (.seq (.reg 0 a13r5 [6]) .ret) .skip))) (.reg 0 a13r6 [2, 7, 8])))
def a13r7 : LA := [mb 6 false]
def a13c : ACode := (.seq (.reg 0 a13r0 [1, 2, 3]) (.seq (.reg 0 a13r1 [2, 7]) (.seq (.seq (.reg 0 a13r2 [2, 7, 8]) (.block 0 (.loop a13l0))) (.seq (.reg 0 a13r7 [6]) .ret))))
def a13 : AFn := ⟨[.slot 6], a13c⟩
theorem ok13 : fnOkB 13 a13 = true := by decide +kernel
def a16r0 : LA := [⟨some 2, .mov (.k (.nilp)), none⟩, mi 3 0, mi 4 0]
def a16r1 : LA := [⟨some 9, .mkmap 0, none⟩, ⟨some 10, .build [.nils, .nilm] [(1, 1, (.s 9))], none⟩, ⟨some 11, .box false (.s 10) 1, none⟩, mv 2 11]
def a16r2 : LA := [mv 12 0, le 13 12, mi 14 0]
def a16r3 : LA := [bn 15 .lss 14 13]
def a16r4 : LA := [mv 16 14, ia 17 2 12 14, lo 18 2 17, ⟨some 6, .alloc true [(strv []), .int .i64 0] 0, none⟩, mv 5 16, ⟨none, .store 2 (.s 6) (.s 18), none⟩]
def a16d5 : LD := [⟨mv 20 2, 0, [2], 0, [], []⟩, ⟨nk 21 20, 1, [20], 0, [], [0]⟩, ⟨fd 22 21 1, 2, [21], 0, [], [0, 1]⟩, ⟨ld 23 22, 3, [22], 1, [], [0, 1, 2]⟩, ⟨fd 24 6 0, 4, [6], 0, [], []⟩, ⟨ld 25 24, 5, [6, 24], 1, [], [4]⟩, ⟨⟨some 26, .lookup 1 (.int .i64 0) true (.s 23) (.s 25), none⟩, 6, [23, 25], 1, [], (List.range 6)⟩, ⟨mv 19 26, 7, [26], 0, [], (List.range 7)⟩, ⟨ex 27 19 0, 8, [19], 0, [], (List.range 8)⟩, ⟨ex 28 19 1, 9, [19], 0, [], (List.range 8)⟩, ⟨mv 7 27, 10, [27], 3, [], (List.range 9)⟩, ⟨mv 8 28, 11, [28], 3, [], (List.range 11)⟩]
def a16r6 : LA := [fd 30 6 0, ld 31 30, ⟨some 32, .call 39 [(.s 31)] false, none⟩, ⟨some 33, .un .not (.s 32), none⟩, mv 29 33]
def a16r7 : LA := [mv 34 5, ⟨some 2, .mov (.k (.nilp)), none⟩, mv 3 34, mi 4 1]
def a16r8 : LA := [mv 36 8, mv 35 36]
def a16r9 : LA := [mv 37 5, ⟨some 2, .mov (.k (.nilp)), none⟩, mv 3 37, mi 4 7]
def a16r10 : LA := [mv 39 2, nk 40 39, fd 41 40 0, ld 42 41, le 43 42, bi 44 .eql 43 .i64 64, mv 38 44]
def a16r11 : LA := [mv 45 5, ⟨some 2, .mov (.k (.nilp)), none⟩, mv 3 45, mi 4 8]
def a16d12 : LD := [⟨mv 46 2, 0, [2], 0, [], []⟩, ⟨nk 47 46, 1, [46], 0, [], [0]⟩, ⟨fd 48 47 1, 2, [47], 0, [], [0, 1]⟩, ⟨ld 49 48, 3, [48], 1, [], [0, 1, 2]⟩, ⟨fd 50 6 0, 4, [6], 0, [], []⟩, ⟨ld 51 50, 5, [6, 50], 1, [], [4]⟩, ⟨mv 52 2, 6, [2], 0, [], []⟩, ⟨nk 53 52, 7, [52], 0, [], [6]⟩, ⟨fd 54 53 0, 8, [53], 0, [], [6, 7]⟩, ⟨ld 55 54, 9, [54], 1, [], [6, 7, 8]⟩, ⟨le 56 55, 10, [55], 0, [], [6, 7, 8, 9]⟩, ⟨⟨none, .mapupd 1 (.s 49) (.s 51) (.s 56), none⟩, 11, [49, 51, 56], 4, [], (List.range 11)⟩]
def a16d13 : LD := [⟨mv 57 2, 0, [2], 0, [], []⟩, ⟨mv 58 2, 1, [2], 0, [], []⟩, ⟨nk 59 58, 2, [58], 0, [], [1]⟩, ⟨fd 60 59 0, 3, [59], 0, [], [1, 2]⟩, ⟨ld 61 60, 4, [60], 1, [], [1, 2, 3]⟩, ⟨fd 62 6 0, 5, [6], 0, [], []⟩, ⟨ld 63 62, 6, [6, 62], 1, [], [5]⟩, ⟨⟨some 64, .lits 1 1 [(strv [])] [(0, 1, (.s 63))], none⟩, 7, [63], 0, [], [5, 6]⟩, ⟨⟨some 65, .app 1 16 (.s 61) (.s 64) 0, none⟩, 8, [61, 64], 4, [], [1, 2, 3, 4, 5, 6, 7]⟩, ⟨nk 66 57, 9, [57], 0, [], (List.range 9)⟩, ⟨fd 67 66 0, 10, [66], 0, [], (List.range 10)⟩, ⟨⟨none, .store 1 (.s 67) (.s 65), none⟩, 11, [65, 67], 4, [], (List.range 11)⟩]
def a16r14 : LA := [bi 68 .add 14 .i64 1, mv 14 68]
def a16l0 : ACode := (.seq (.reg 0 a16r3 [2, 8, 12, 13, 14, 15]) (.seq (.cond (.s 15) .skip (.exit 0)) (.seq (.block 1 (.seq (.reg 0 a16r4 [2, 5, 6, 8, 12, 13, 14]) (.seq (.dreg 0 a16d5 [2, 5, 6, 8, 12, 13, 14]) (.seq (.block 2 (.seq (.reg 0 a16r6 [2, 5, 6, 8, 12, 13, 14, 29]) (.cond (.s 29) (.seq (.reg 0 a16r7 [2, 3, 4]) .ret) (.seq (.reg 0 a16r8 [2, 5, 6, 8, 12, 13, 14, 35]) (.cond (.s 35) (.seq (.reg 0 a16r9 [2, 3, 4]) .ret) (.seq (.reg 0 a16r10 [2, 5, 6, 8, 12, 13, 14, 38]) (.cond (.s 38) (.seq (.reg 0 a16r11 [2, 3, 4]) .ret) .skip))))))) (.seq (.dreg 0 a16d12 [2, 6, 8, 12, 13, 14]) (.dreg 1 a16d13 [2, 8, 12, 13, 14])))))) (.reg 0 a16r14 [2, 8, 12, 13, 14]))))
def a16r15 : LA := [mv 69 2, mv 2 69, mi 3 0, mi 4 0]
def a16c : ACode := (.seq (.reg 0 a16r0 [0, 8]) (.seq (.reg 2 a16r1 [0, 2, 8]) (.seq (.seq (.reg 0 a16r2 [2, 8, 12, 13, 14]) (.block 0 (.loop a16l0))) (.seq (.reg 0 a16r15 [2, 3, 4]) .ret))))
def a16 : AFn := ⟨[.slot 2, .slot 3, .slot 4], a16c⟩
theorem ok16 : fnOkB 16 a16 = true := by decide +kernel
def a18r0 : LA := [⟨some 2, .box true (.s 0) 0, none⟩, ⟨some 4, .mov (.k (.nils)), none⟩, mi 5 0, mi 6 0, mi 7 0]
def a18r1 : LA := [lo 21 2 2, ⟨some 22, .call 11 [(.s 21)] false, none⟩, mv 20 22, ex 23 20 0, ex 24 20 1, mv 8 23, mv 7 24]
def a18r2 : LA := [mv 25 7, bi 26 .neq 25 .i64 0]
def a18r3 : LA := [mv 27 7, ⟨some 4, .mov (.k (.nils)), none⟩, mi 5 0, mi 6 0, mv 7 27]
def a18r4 : LA := [lo 29 2 2, mv 30 1, ⟨some 31, .call 42 [(.s 29), (.s 30)] false, none⟩, mv 28 31, ex 32 28 0, ex 33 28 1, ex 34 28 2, ex 35 28 3, ex 36 28 4, mv 4 32, mv 9 33, mv 5 34, mv 6 35, mv 7 36]
def a18r5 : LA := [mv 37 7, bi 38 .neq 37 .i64 0]
def a18r6 : LA := [mv 39 5, mv 40 6, mv 41 7, ⟨some 4, .mov (.k (.nils)), none⟩, mv 5 39, mv 6 40, mv 7 41]
def a18r7 : LA := [lo 43 2 2, ⟨some 44, .call 10 [(.s 43)] false, none⟩, mv 42 44, ex 45 42 0, ex 46 42 1, mv 10 45, mv 11 46]
def a18r8 : LA := [mv 47 8, le 48 47, mi 49 0]
def a18r9 : LA := [bn 50 .lss 49 48]
def a18r10 : LA := [ia 51 1 47 49, ld 52 51, mv 13 52]
def a18r11 : LA := [mb 14 true]
def a18r12 : LA := [mv 53 14]
def a18r13 : LA := [mb 14 false]
def a18r14 : LA := [mv 54 13, le 55 54, mi 56 0]
def a18r15 : LA := [bn 57 .lss 56 55]
def a18r16 : LA := [ia 58 1 54 56, ld 59 58, mv 16 59]
def a18r17 : LA := [fd 60 2 1, ld 61 60, mv 62 16, ia 63 16 61 62, fd 64 63 6, fd 65 64 0, ld 66 65]
def a18d18 : LD := [⟨mv 67 4, 0, [4], 0, [], []⟩, ⟨mv 68 16, 1, [16], 0, [], []⟩, ⟨ia 69 1 67 68, 2, [67, 68], 0, [], [0, 1]⟩, ⟨ld 70 69, 3, [69], 1, [], [0, 1, 2]⟩, ⟨mv 71 9, 4, [9], 0, [], []⟩, ⟨mv 72 16, 5, [16], 0, [], []⟩, ⟨ia 73 1 71 72, 6, [71, 72], 0, [], [4, 5]⟩, ⟨ld 74 73, 7, [73], 1, [], [4, 5, 6]⟩, ⟨bn 75 .or 70 74, 8, [70, 74], 0, [], (List.range 8)⟩, ⟨mv 17 75, 9, [75], 3, [], (List.range 9)⟩]
def a18r19 : LA := [mv 76 10, mv 77 16, ia 78 1 76 77, ld 79 78, le 80 79, mi 81 0]
def a18r20 : LA := [bn 82 .lss 81 80]
def a18r21 : LA := [ia 83 1 79 81, ld 84 83, mv 19 84]
def a18r22 : LA := [mv 85 17, mv 86 4, mv 87 19, ia 88 1 86 87, ld 89 88, bn 90 .or 85 89, mv 17 90]
def a18r23 : LA := [bi 91 .add 81 .i64 1, mv 81 91]
def a18l0 : ACode := (.seq (.reg 0 a18r20 [2, 4, 9, 10, 13, 14, 16, 17, 47, 48, 49, 54, 55, 56, 79, 80, 81, 82]) (.seq (.cond (.s 82) .skip (.exit 6)) (.seq (.block 7 (.seq (.reg 0 a18r21 [2, 4, 9, 10, 13, 14, 16, 17, 19, 47, 48, 49, 54, 55, 56, 79, 80, 81]) (.reg 0 a18r22 [2, 4, 9, 10, 13, 14, 16, 17, 47, 48, 49, 54, 55, 56, 79, 80, 81]))) (.reg 0 a18r23 [2, 4, 9, 10, 13, 14, 16, 17, 47, 48, 49, 54, 55, 56, 79, 80, 81]))))
def a18r24 : LA := [mv 92 14, mv 93 92, mg 94 17 93 false, mg 95 4 93 false, mg 96 16 93 false, ⟨some 97, .idxa none 1 (.s 95) (.s 96), (some (93, false))⟩, ⟨some 98, .load none (.s 97), (some (93, false))⟩, ⟨some 99, .bin .neq (.s 94) (.s 98), (some (93, false))⟩, ⟨some 100, .pick (.s 93) (.k (.bool true)) (.s 99), none⟩, mv 14 100]
def a18r25 : LA := [mv 101 4, mv 102 16, mv 103 17, ia 104 1 101 102, ⟨none, .store 1 (.s 104) (.s 103), none⟩]
def a18r26 : LA := [bi 105 .add 56 .i64 1, mv 56 105]
def a18l1 : ACode := (.seq (.reg 0 a18r15 [2, 4, 9, 10, 13, 14, 17, 47, 48, 49, 54, 55, 56, 57]) (.seq (.cond (.s 57) .skip (.exit 4)) (.seq (.block 5 (.seq (.reg 0 a18r16 [2, 4, 9, 10, 13, 14, 16, 17, 47, 48, 49, 54, 55, 56]) (.seq (.seq (.reg 0 a18r17 [2, 4, 9, 10, 13, 14, 16, 17, 47, 48, 49, 54, 55, 56, 66]) (.cond (.s 66) (.exit 5) .skip)) (.seq (.dreg 0 a18d18 [2, 4, 9, 10, 13, 14, 16, 17, 47, 48, 49, 54, 55, 56]) (.seq (.seq (.reg 0 a18r19 [2, 4, 9, 10, 13, 14, 16, 17, 47, 48, 49, 54, 55, 56, 79, 80, 81]) (.block 6 (.loop a18l0))) (.seq (.reg 0 a18r24 [2, 4, 9, 10, 13, 14, 16, 17, 47, 48, 49, 54, 55, 56]) (.reg 0 a18r25 [2, 4, 9, 10, 13, 14, 17, 47, 48, 49, 54, 55, 56]))))))) (.reg 0 a18r26 [2, 4, 9, 10, 13, 14, 17, 47, 48, 49, 54, 55, 56]))))
def a18l2 : ACode := (.seq (.seq (.reg 0 a18r12 [2, 4, 9, 10, 13, 17, 47, 48, 49, 53]) (.cond (.s 53) .skip (.exit 2))) (.block 3 (.seq (.reg 0 a18r13 [2, 4, 9, 10, 13, 14, 17, 47, 48, 49]) (.seq (.reg 0 a18r14 [2, 4, 9, 10, 13, 14, 17, 47, 48, 49, 54, 55, 56]) (.block 4 (.loop a18l1))))))
def a18r27 : LA := [bi 106 .add 49 .i64 1, mv 49 106]
def a18l3 : ACode := (.seq (.reg 0 a18r9 [2, 4, 9, 10, 17, 47, 48, 49, 50]) (.seq (.cond (.s 50) .skip (.exit 0)) (.seq (.block 1 (.seq (.reg 0 a18r10 [2, 4, 9, 10, 13, 17, 47, 48, 49]) (.seq (.reg 0 a18r11 [2, 4, 9, 10, 13, 14, 17, 47, 48, 49]) (.block 2 (.loop a18l2))))) (.reg 0 a18r27 [2, 4, 9, 10, 17, 47, 48, 49]))))
def a18r28 : LA := [mv 107 4, mv 4 107, mi 5 0, mi 6 0, mi 7 0]
def a18c : ACode := (.seq (.reg 0 a18r0 [1, 2, 17]) (.seq (.reg 0 a18r1 [1, 2, 7, 8, 17]) (.seq (.seq (.reg 0 a18r2 [1, 2, 7, 8, 17, 26]) (.cond (.s 26) (.seq (.reg 0 a18r3 [4, 5, 6, 7]) .ret) .skip)) (.seq (.reg 0 a18r4 [2, 4, 5, 6, 7, 8, 9, 17]) (.seq (.seq (.reg 0 a18r5 [2, 4, 5, 6, 7, 8, 9, 17, 38]) (.cond (.s 38) (.seq (.reg 0 a18r6 [4, 5, 6, 7]) .ret) .skip)) (.seq (.reg 0 a18r7 [2, 4, 8, 9, 10, 17]) (.seq (.seq (.reg 0 a18r8 [2, 4, 9, 10, 17, 47, 48, 49]) (.block 0 (.loop a18l3))) (.seq (.reg 0 a18r28 [4, 5, 6, 7]) .ret))))))))
def a18 : AFn := ⟨[.slot 4, .slot 5, .slot 6, .slot 7], a18c⟩
theorem ok18 : fnOkB 18 a18 = true := by decide +kernel
def a19r0 : LA := [⟨some 2, .box true (.s 0) 0, none⟩, mi 4 0, mi 5 0, mi 6 0]
def a19r1 : LA := [lo 16 2 2, mv 17 1, ⟨some 18, .call 18 [(.s 16), (.s 17)] false, none⟩, mv 15 18, ex 19 15 0, ex 20 15 1, ex 21 15 2, ex 22 15 3, mv 7 19, mv 4 20, mv 5 21, mv 6 22]
def a19r2 : LA := [mv 23 6, bi 24 .neq 23 .i64 0]
def a19r3 : LA := [mv 25 4, mv 26 5, mv 27 6, mv 4 25, mv 5 26, mv 6 27]
def a19r4 : LA := [fd 28 2 1, ld 29 28, le 30 29, mi 31 0]
def a19r5 : LA := [bn 32 .lss 31 30]
def a19r6 : LA := [mv 33 31, ia 34 16 29 31, lo 35 16 34, ⟨some 9, .alloc true [(strv []), .int .i64 0, .int .i64 0, .nils, .int .i64 0, .int .i64 0, .bool false, .nils, .nils, .int .i64 0, .int .i64 0, .int .i64 0, .int .i64 0, .int .i64 0, (strv []), .nils] 0, none⟩, mv 8 33, ⟨none, .store 16 (.s 9) (.s 35), none⟩]
def a19r7 : LA := [lo 36 16 9, ⟨some 37, .call 31 [(.s 36)] false, none⟩, le 38 37, mi 39 0]
def a19r8 : LA := [bn 40 .lss 39 38]
def a19r9 : LA := [ia 41 3 37 39, lo 42 3 41, ⟨some 11, .alloc true [.int .i64 0, (strv []), .int .i64 0] 0, none⟩, ⟨none, .store 3 (.s 11) (.s 42), none⟩]
def a19r10 : LA := [⟨some 12, .mov (.k (.int .u64 0)), none⟩]
def a19r11 : LA := [fd 43 11 2, ld 44 43, bi 45 .geq 44 .i64 0]
def a19r12 : LA := [mv 46 7, fd 47 11 2, ld 48 47, ia 49 1 46 48, ld 50 49, mv 12 50]
def a19r13 : LA := [mv 52 1, fd 53 11 1, ld 54 53, ⟨some 55, .call 43 [(.s 52), (.s 54)] false, none⟩, mv 51 55, ex 56 51 0, ex 57 51 1, mv 13 56, mv 14 57]
def a19r14 : LA := [mv 58 14]
def a19r15 : LA := [mv 59 13, ⟨some 60, .toInt .u64 (.s 59), none⟩, ⟨some 61, .bin .shl (.k (.int .u64 1)) (.s 60), none⟩, mv 12 61]
def a19r16 : LA := [mv 62 12, mv 63 7, mv 64 8, ia 65 1 63 64, ld 66 65, ⟨some 67, .call 26 [(.s 62), (.s 66)] false, none⟩, ⟨some 68, .un .not (.s 67), none⟩]
def a19d17 : LD := [⟨mv 69 8, 0, [8], 0, [], []⟩, ⟨fd 70 11 0, 1, [11], 0, [], []⟩, ⟨ld 71 70, 2, [11, 70], 1, [], [1]⟩, ⟨mv 4 69, 3, [69], 3, [], [0]⟩, ⟨mv 5 71, 4, [71], 3, [], [0, 1, 2, 3]⟩, ⟨mi 6 20, 5, [], 3, [], [0, 1, 2, 3, 4]⟩]
def a19r18 : LA := [bi 72 .add 39 .i64 1, mv 39 72]
def a19l0 : ACode := (.seq (.reg 0 a19r8 [1, 4, 5, 6, 7, 8, 29, 30, 31, 37, 38, 39, 40]) (.seq (.cond (.s 40) .skip (.exit 2)) (.seq (.block 3 (.seq (.reg 0 a19r9 [1, 4, 5, 6, 7, 8, 11, 29, 30, 31, 37, 38, 39]) (.seq (.reg 0 a19r10 [1, 4, 5, 6, 7, 8, 11, 12, 29, 30, 31, 37, 38, 39]) (.seq (.seq (.reg 0 a19r11 [1, 4, 5, 6, 7, 8, 11, 12, 29, 30, 31, 37, 38, 39, 45]) (.cond (.s 45) (.reg 0 a19r12 [1, 4, 5, 6, 7, 8, 11, 12, 29, 30, 31, 37, 38, 39]) (.seq (.reg 0 a19r13 [1, 4, 5, 6, 7, 8, 11, 12, 13, 14, 29, 30, 31, 37, 38, 39]) (.seq (.reg 0 a19r14 [1, 4, 5, 6, 7, 8, 11, 12, 13, 29, 30, 31, 37, 38, 39, 58]) (.cond (.s 58) (.reg 0 a19r15 [1, 4, 5, 6, 7, 8, 11, 12, 29, 30, 31, 37, 38, 39]) .skip))))) (.seq (.reg 0 a19r16 [1, 4, 5, 6, 7, 8, 11, 29, 30, 31, 37, 38, 39, 68]) (.cond (.s 68) (.seq (.dreg 0 a19d17 [4, 5, 6]) .ret) .skip)))))) (.reg 0 a19r18 [1, 4, 5, 6, 7, 8, 29, 30, 31, 37, 38, 39]))))
def a19r19 : LA := [bi 73 .add 31 .i64 1, mv 31 73]
def a19l1 : ACode := (.seq (.reg 0 a19r5 [1, 4, 5, 6, 7, 29, 30, 31, 32]) (.seq (.cond (.s 32) .skip (.exit 0)) (.seq (.block 1 (.seq (.reg 0 a19r6 [1, 4, 5, 6, 7, 8, 9, 29, 30, 31]) (.seq (.reg 0 a19r7 [1, 4, 5, 6, 7, 8, 29, 30, 31, 37, 38, 39]) (.block 2 (.loop a19l0))))) (.reg 0 a19r19 [1, 4, 5, 6, 7, 29, 30, 31]))))
def a19r20 : LA := [mi 4 0, mi 5 0, mi 6 0]
def a19c : ACode := (.seq (.reg 0 a19r0 [1, 2]) (.seq (.reg 0 a19r1 [1, 2, 4, 5, 6, 7]) (.seq (.seq (.reg 0 a19r2 [1, 2, 4, 5, 6, 7, 24]) (.cond (.s 24) (.seq (.reg 0 a19r3 [4, 5, 6]) .ret) .skip)) (.seq (.seq (.reg 0 a19r4 [1, 4, 5, 6, 7, 29, 30, 31]) (.block 0 (.loop a19l1))) (.seq (.reg 0 a19r20 [4, 5, 6]) .ret)))))
def a19 : AFn := ⟨[.slot 4, .slot 5, .slot 6], a19c⟩
theorem ok19 : fnOkB 19 a19 = true := by decide +kernel
def a23r0 : LA := [⟨some 1, .box true (.s 0) 0, none⟩, ⟨some 2, .mov (.k (.nils)), none⟩]
def a23d1 : LD := [⟨fd 3 1 8, 0, [1], 0, [], []⟩, ⟨ld 4 3, 1, [1, 3], 1, [], [0]⟩, ⟨fd 6 1 9, 3, [1], 0, [], []⟩, ⟨lo 7 7 6, 4, [1, 6], 1, [], [2]⟩, ⟨⟨some 5, .call 47 [(.s 4)] false, none⟩, 2, [4], 4, [3], [0, 1]⟩, ⟨⟨some 8, .call 48 [(.s 7)] false, none⟩, 5, [7], 4, [], [0, 1, 2, 3, 4]⟩, ⟨⟨some 9, .app 3 32 (.s 5) (.s 8) 0, none⟩, 6, [5, 8], 4, [], (List.range 6)⟩, ⟨mv 2 9, 7, [9], 3, [], (List.range 7)⟩]
def a23c : ACode := (.seq (.reg 0 a23r0 [1, 2]) (.seq (.dreg 1 a23d1 [2]) .ret))
def a23 : AFn := ⟨[.slot 2], a23c⟩
theorem ok23 : fnOkB 23 a23 = true := by decide +kernel
def a25r0 : LA := [mi 4 0]
def a25r1 : LA := [mv 5 1, bi 6 .lss 5 .i64 1]
def a25r2 : LA := [mi 4 0]
def a25r3 : LA := [mv 7 0, mv 8 1, bn 9 .rem 7 8, mv 0 9]
def a25r4 : LA := [mv 10 0, bi 11 .lss 10 .i64 0]
def a25r5 : LA := [mv 12 0, mv 13 1, bn 14 .add 12 13, mv 0 14]
def a25r6 : LA := [mv 15 0, mv 4 15]
def a25c : ACode := (.seq (.reg 0 a25r0 [0, 1]) (.seq (.seq (.reg 0 a25r1 [0, 1, 6]) (.cond (.s 6) (.seq (.reg 0 a25r2 [4]) .ret) .skip)) (.seq (.reg 0 a25r3 [0, 1]) (.seq (.seq (.reg 0 a25r4 [0, 1, 11]) (.cond (.s 11) (.reg 0 a25r5 [0]) .skip)) (.seq (.reg 0 a25r6 [4]) .ret)))))
def a25 : AFn := ⟨[.slot 4], a25c⟩
theorem ok25 : fnOkB 25 a25 = true := by decide +kernel
def a26r0 : LA := [mb 4 false]
def a26r1 : LA := [mv 5 0, mv 6 1, bn 7 .andNot 5 6, bi 8 .eql 7 .u64 0, mv 4 8]
def a26c : ACode := (.seq (.reg 0 a26r0 [0, 1]) (.seq (.reg 0 a26r1 [4]) .ret))
def a26 : AFn := ⟨[.slot 4], a26c⟩
theorem ok26 : fnOkB 26 a26 = true := by decide +kernel
def a27r0 : LA := [mi 4 0]
def a27r1 : LA := [mi 5 0]
def a27r2 : LA := [mv 6 5, mv 7 0, le 8 7, bn 9 .lss 6 8, mv 10 9, mg 11 1 10 true, ⟨some 12, .bin .geq (.s 11) (.k (.int .i64 0)), (some (10, true))⟩, ⟨some 13, .pick (.s 10) (.s 12) (.k (.bool false)), none⟩]
def a27d3 : LD := [⟨mv 16 0, 0, [0], 0, [], []⟩, ⟨mv 17 5, 1, [5], 0, [], []⟩, ⟨ia 18 13 16 17, 2, [16, 17], 0, [], [0, 1]⟩, ⟨fd 19 18 4, 3, [18], 0, [], [0, 1, 2]⟩, ⟨lo 20 7 19, 4, [19], 1, [], [0, 1, 2, 3]⟩, ⟨mv 21 1, 5, [1], 0, [], []⟩, ⟨bi 22 .sub 21 .i64 1, 6, [21], 0, [], [5]⟩, ⟨mv 23 0, 7, [0], 0, [], []⟩, ⟨mv 24 5, 8, [5], 0, [], []⟩, ⟨ia 25 13 23 24, 9, [23, 24], 0, [], [7, 8]⟩, ⟨fd 26 25 3, 10, [25], 0, [], [7, 8, 9]⟩, ⟨ld 27 26, 11, [26], 1, [], [7, 8, 9, 10]⟩, ⟨⟨some 28, .len 0 (.s 27), none⟩, 12, [27], 0, [], [7, 8, 9, 10, 11]⟩, ⟨⟨some 29, .mm false (.s 28) (.k (.int .i64 1000)), none⟩, 13, [28], 0, [], [7, 8, 9, 10, 11, 12]⟩, ⟨bi 30 .quo 29 .i64 100, 14, [29], 0, [], [7, 8, 9, 10, 11, 12, 13]⟩, ⟨bn 31 .sub 22 30, 15, [22, 30], 0, [], [5, 6, 7, 8, 9, 10, 11, 12, 13, 14]⟩, ⟨⟨some 32, .call 28 [(.s 20), (.s 31)] false, none⟩, 16, [20, 31], 4, [], (List.range 16)⟩, ⟨mv 1 32, 17, [32], 3, [], (List.range 17)⟩]
def a27r4 : LA := [mv 33 0, mv 34 5, ia 35 13 33 34, fd 36 35 11, ld 37 36, mv 38 1, ⟨some 39, .call 27 [(.s 37), (.s 38)] false, none⟩, mv 1 39]
def a27r5 : LA := [mv 40 0, mv 41 5, ia 42 13 40 41, fd 43 42 12, ld 44 43, mv 45 1, ⟨some 46, .call 27 [(.s 44), (.s 45)] false, none⟩, mv 1 46]
def a27r6 : LA := [mv 14 5, bi 15 .add 14 .i64 1, mv 5 15]
def a27l0 : ACode := (.seq (.seq (.reg 0 a27r2 [0, 1, 5, 13]) (.cond (.s 13) .skip (.exit 0))) (.seq (.block 1 (.seq (.dreg 0 a27d3 [0, 1, 5]) (.seq (.reg 0 a27r4 [0, 1, 5]) (.reg 0 a27r5 [0, 1, 5])))) (.reg 0 a27r6 [0, 1, 5])))
def a27r7 : LA := [mv 47 1, mv 4 47]
def a27c : ACode := (.seq (.reg 0 a27r0 [0, 1]) (.seq (.seq (.reg 0 a27r1 [0, 1, 5]) (.block 0 (.loop a27l0))) (.seq (.reg 0 a27r7 [4]) .ret)))
def a27 : AFn := ⟨[.slot 4], a27c⟩
theorem ok27 : fnOkB 27 a27 = true := by decide +kernel
def a28r0 : LA := [⟨some 2, .box true (.s 0) 0, none⟩, mi 4 0]
def a28r1 : LA := [mv 6 1, bi 7 .sub 6 .i64 1, fd 8 2 5, ld 9 8, ⟨some 10, .len 0 (.s 9), none⟩, ⟨some 11, .mm false (.s 10) (.k (.int .i64 1000)), none⟩, bi 12 .quo 11 .i64 100, bn 13 .sub 7 12, mv 1 13]
def a28r2 : LA := [mi 5 0]
def a28r3 : LA := [mv 14 5, fd 15 2 6, ld 16 15, le 17 16, bn 18 .lss 14 17, mv 19 18, mg 20 1 19 true, ⟨some 21, .bin .geq (.s 20) (.k (.int .i64 0)), (some (19, true))⟩, ⟨some 22, .pick (.s 19) (.s 21) (.k (.bool false)), none⟩]
def a28r4 : LA := [fd 25 2 6, ld 26 25, mv 27 5, ia 28 7 26 27, lo 29 7 28, mv 30 1, ⟨some 31, .call 28 [(.s 29), (.s 30)] false, none⟩, mv 1 31]
def a28r5 : LA := [mv 23 5, bi 24 .add 23 .i64 1, mv 5 24]
def a28l0 : ACode := (.seq (.seq (.reg 0 a28r3 [1, 2, 5, 22]) (.cond (.s 22) .skip (.exit 0))) (.seq (.block 1 (.reg 0 a28r4 [1, 2, 5])) (.reg 0 a28r5 [1, 2, 5])))
def a28r6 : LA := [mv 32 1, mv 4 32]
def a28c : ACode := (.seq (.reg 0 a28r0 [1, 2]) (.seq (.reg 0 a28r1 [1, 2]) (.seq (.seq (.reg 0 a28r2 [1, 2, 5]) (.block 0 (.loop a28l0))) (.seq (.reg 0 a28r6 [4]) .ret))))
def a28 : AFn := ⟨[.slot 4], a28c⟩
theorem ok28 : fnOkB 28 a28 = true := by decide +kernel
def a29r0 : LA := [⟨some 2, .alloc true [.nils, .nils] 0, none⟩]
def a29r1 : LA := [⟨some 6, .build [.int .i64 0, .int .i64 0, .int .i64 0, .int .i64 0, .int .i64 0, (strv [])] [], none⟩, ⟨some 7, .build [.int .i64 0, .int .i64 0, .int .i64 0, .int .i64 0, .int .i64 0, (strv [])] [], none⟩, ⟨some 8, .build [.int .i64 0, .int .i64 0, .int .i64 0, .int .i64 0, .int .i64 0, (strv [])] [], none⟩, ⟨some 9, .build [.int .i64 0, .int .i64 0, .int .i64 0, .int .i64 0, .int .i64 0, (strv [])] [], none⟩, ⟨some 10, .buildsl 6 4 [.int .i64 0, .int .i64 0, .int .i64 0, .int .i64 0, .int .i64 0, (strv [])] [(0, 6, (.s 6)), (6, 6, (.s 7)), (12, 6, (.s 8)), (18, 6, (.s 9))] 0, none⟩, mv 3 10]
def a29r2 : LA := [mv 11 0, ⟨some 12, .build [.bool false, .nils] [(0, 1, (.s 11))], none⟩, ⟨some 13, .build [.int .i64 0, .int .i64 0, .int .i64 0, .int .i64 0, .int .i64 0, (strv []), .nils] [(0, 1, (.k (.int .i64 3))), (4, 1, (.k (.int .i64 1))), (1, 1, (.k (.int .i64 7)))], none⟩, ⟨some 14, .build [(strv []), .int .i64 0, .int .i64 0, .nils, .int .i64 0, .int .i64 0, .bool false, .nils, .nils, .int .i64 0, .int .i64 0, .int .i64 0, .int .i64 0, .int .i64 0, (strv []), .nils] [(4, 1, (.k (.int .i64 0))), (5, 1, (.k (.int .i64 1))), (6, 2, (.s 12)), (9, 7, (.s 13))], none⟩, ⟨some 4, .alloc true [(strv []), .int .i64 0, .int .i64 0, .nils, .int .i64 0, .int .i64 0, .bool false, .nils, .nils, .int .i64 0, .int .i64 0, .int .i64 0, .int .i64 0, .int .i64 0, (strv []), .nils] 0, none⟩, ⟨none, .store 16 (.s 4) (.s 14), none⟩]
def a29r3 : LA := [⟨some 15, .build [.int .i64 0, .int .i64 0, .int .i64 0, (strv []), .int .i64 0, .int .i64 0, .int .i64 0, .int .i64 0, .int .i64 0, (strv []), .nils, .nils, .nils] [(0, 1, (.k (.int .i64 3))), (3, 1, (.k ((strv [110, 101, 116]))))], none⟩, ⟨some 16, .buildsl 13 1 [.int .i64 0, .int .i64 0, .int .i64 0, (strv []), .int .i64 0, .int .i64 0, .int .i64 0, .int .i64 0, .int .i64 0, (strv []), .nils, .nils, .nils] [(0, 13, (.s 15))] 0, none⟩, ⟨some 17, .build [(strv []), .int .i64 0, .int .i64 0, .nils, .int .i64 0, .int .i64 0, .bool false, .nils, .nils, .int .i64 0, .int .i64 0, .int .i64 0, .int .i64 0, .int .i64 0, (strv []), .nils] [(4, 1, (.k (.int .i64 2))), (5, 1, (.k (.int .i64 3))), (8, 1, (.s 16))], none⟩, ⟨some 5, .alloc true [(strv []), .int .i64 0, .int .i64 0, .nils, .int .i64 0, .int .i64 0, .bool false, .nils, .nils, .int .i64 0, .int .i64 0, .int .i64 0, .int .i64 0, .int .i64 0, (strv []), .nils] 0, none⟩, ⟨none, .store 16 (.s 5) (.s 17), none⟩]
def a29r4 : LA := [mv 18 3, lo 19 16 4, lo 20 16 5, ⟨some 21, .buildsl 16 2 [(strv []), .int .i64 0, .int .i64 0, .nils, .int .i64 0, .int .i64 0, .bool false, .nils, .nils, .int .i64 0, .int .i64 0, .int .i64 0, .int .i64 0, .int .i64 0, (strv []), .nils] [(0, 16, (.s 19)), (16, 16, (.s 20))] 0, none⟩, ⟨some 22, .build [.nils, .nils] [(0, 1, (.s 18)), (1, 1, (.s 21))], none⟩, ⟨none, .store 2 (.s 2) (.s 22), none⟩]
def a29c : ACode := (.seq (.reg 0 a29r0 [0, 2]) (.seq (.reg 1 a29r1 [0, 2, 3]) (.seq (.reg 0 a29r2 [2, 3, 4]) (.seq (.reg 1 a29r3 [2, 3, 4, 5]) (.seq (.reg 1 a29r4 [2]) .ret)))))
def a29 : AFn := ⟨[.cell 2 (some 2)], a29c⟩
theorem ok29 : fnOkB 29 a29 = true := by decide +kernel
def a30r0 : LA := [⟨some 1, .box true (.s 0) 0, none⟩, mb 2 false]
def a30r1 : LA := [lo 6 2 1, ⟨some 7, .call 50 [(.s 6)] false, none⟩, ⟨some 3, .alloc false [.nilp] 0, none⟩, ⟨none, .store 1 (.s 3) (.s 7), none⟩]
def a30r2 : LA := [fd 8 1 1, ld 9 8, le 10 9, mi 11 0]
def a30r3 : LA := [bn 12 .lss 11 10]
def a30r4 : LA := [ia 13 16 9 11, lo 14 16 13, ⟨some 5, .alloc true [(strv []), .int .i64 0, .int .i64 0, .nils, .int .i64 0, .int .i64 0, .bool false, .nils, .nils, .int .i64 0, .int .i64 0, .int .i64 0, .int .i64 0, .int .i64 0, (strv []), .nils] 0, none⟩, ⟨none, .store 16 (.s 5) (.s 14), none⟩]
def a30d5 : LD := [⟨ld 15 3, 0, [3], 1, [], []⟩, ⟨ld 16 3, 1, [3], 1, [], []⟩, ⟨nk 17 16, 2, [16], 0, [], [1]⟩, ⟨fd 18 17 3, 3, [17], 0, [], [1, 2]⟩, ⟨ld 19 18, 4, [18], 1, [], [1, 2, 3]⟩, ⟨mv 20 19, 5, [19], 0, [], [1, 2, 3, 4]⟩, ⟨⟨some 21, .load none (.s 3), (some (20, false))⟩, 6, [3, 20], 1, [], [1, 2, 3, 4, 5]⟩, ⟨⟨some 22, .nilck (.s 21), (some (20, false))⟩, 7, [20, 21], 0, [], [1, 2, 3, 4, 5, 6]⟩, ⟨⟨some 23, .fadr (.s 22) 2, (some (20, false))⟩, 8, [20, 22], 0, [], [1, 2, 3, 4, 5, 6, 7]⟩, ⟨⟨some 24, .load none (.s 23), (some (20, false))⟩, 9, [20, 23], 1, [], [1, 2, 3, 4, 5, 6, 7, 8]⟩, ⟨⟨some 25, .fadr (.s 5) 4, (some (20, false))⟩, 10, [5, 20], 0, [], [1, 2, 3, 4, 5]⟩, ⟨⟨some 26, .load none (.s 25), (some (20, false))⟩, 11, [5, 20, 25], 1, [], [1, 2, 3, 4, 5, 10]⟩, ⟨⟨some 27, .callv (.s 24) [(.s 26)] false, (some (20, false))⟩, 12, [20, 24, 26], 4, [0], [1, 2, 3, 4, 5, 6, 7, 8, 9, 10, 11]⟩, ⟨⟨some 28, .un .not (.s 27), (some (20, false))⟩, 13, [20, 27], 0, [], [1, 2, 3, 4, 5, 6, 7, 8, 9, 10, 11, 12]⟩, ⟨⟨some 29, .pick (.s 20) (.k (.bool true)) (.s 28), none⟩, 14, [20, 28], 0, [], [1, 2, 3, 4, 5, 6, 7, 8, 9, 10, 11, 12, 13]⟩, ⟨mv 30 29, 15, [29], 0, [], [1, 2, 3, 4, 5, 6, 7, 8, 9, 10, 11, 12, 13, 14]⟩, ⟨⟨some 31, .load none (.s 3), (some (30, false))⟩, 16, [3, 30], 1, [], [1, 2, 3, 4, 5, 6, 7, 8, 9, 10, 11, 12, 13, 14, 15]⟩, ⟨⟨some 32, .nilck (.s 31), (some (30, false))⟩, 17, [30, 31], 0, [], [1, 2, 3, 4, 5, 6, 7, 8, 9, 10, 11, 12, 13, 14, 15, 16]⟩, ⟨⟨some 33, .fadr (.s 32) 2, (some (30, false))⟩, 18, [30, 32], 0, [], [1, 2, 3, 4, 5, 6, 7, 8, 9, 10, 11, 12, 13, 14, 15, 16, 17]⟩, ⟨⟨some 34, .load none (.s 33), (some (30, false))⟩, 19, [30, 33], 1, [], [1, 2, 3, 4, 5, 6, 7, 8, 9, 10, 11, 12, 13, 14, 15, 16, 17, 18]⟩, ⟨⟨some 35, .fadr (.s 5) 5, (some (30, false))⟩, 20, [5, 30], 0, [], [1, 2, 3, 4, 5, 6, 7, 8, 9, 10, 11, 12, 13, 14, 15]⟩, ⟨⟨some 36, .load none (.s 35), (some (30, false))⟩, 21, [5, 30, 35], 1, [], [1, 2, 3, 4, 5, 6, 7, 8, 9, 10, 11, 12, 13, 14, 15, 20]⟩, ⟨⟨some 37, .callv (.s 34) [(.s 36)] false, (some (30, false))⟩, 22, [30, 34, 36], 4, [0], [1, 2, 3, 4, 5, 6, 7, 8, 9, 10, 11, 12, 13, 14, 15, 16, 17, 18, 19, 20, 21]⟩, ⟨⟨some 38, .un .not (.s 37), (some (30, false))⟩, 23, [30, 37], 0, [], [1, 2, 3, 4, 5, 6, 7, 8, 9, 10, 11, 12, 13, 14, 15, 16, 17, 18, 19, 20, 21, 22]⟩, ⟨⟨some 39, .pick (.s 30) (.k (.bool true)) (.s 38), none⟩, 24, [30, 38], 0, [], [1, 2, 3, 4, 5, 6, 7, 8, 9, 10, 11, 12, 13, 14, 15, 16, 17, 18, 19, 20, 21, 22, 23]⟩, ⟨mv 40 39, 25, [39], 0, [], [1, 2, 3, 4, 5, 6, 7, 8, 9, 10, 11, 12, 13, 14, 15, 16, 17, 18, 19, 20, 21, 22, 23, 24]⟩, ⟨⟨some 41, .fadr (.s 5) 3, (some (40, false))⟩, 26, [5, 40], 0, [], [1, 2, 3, 4, 5, 6, 7, 8, 9, 10, 11, 12, 13, 14, 15, 16, 17, 18, 19, 20, 21, 22, 23, 24, 25]⟩, ⟨⟨some 42, .load none (.s 41), (some (40, false))⟩, 27, [5, 40, 41], 1, [], [1, 2, 3, 4, 5, 6, 7, 8, 9, 10, 11, 12, 13, 14, 15, 16, 17, 18, 19, 20, 21, 22, 23, 24, 25, 26]⟩, ⟨⟨some 43, .mkfn 52 [(.s 3)], (some (40, false))⟩, 28, [3, 40], 0, [], [1, 2, 3, 4, 5, 6, 7, 8, 9, 10, 11, 12, 13, 14, 15, 16, 17, 18, 19, 20, 21, 22, 23, 24, 25]⟩, ⟨⟨some 44, .call 51 [(.s 42), (.s 43)] false, (some (40, false))⟩, 29, [40, 42, 43], 4, [0], [1, 2, 3, 4, 5, 6, 7, 8, 9, 10, 11, 12, 13, 14, 15, 16, 17, 18, 19, 20, 21, 22, 23, 24, 25, 26, 27, 28]⟩, ⟨⟨some 45, .pick (.s 40) (.k (.bool true)) (.s 44), none⟩, 30, [40, 44], 0, [], [1, 2, 3, 4, 5, 6, 7, 8, 9, 10, 11, 12, 13, 14, 15, 16, 17, 18, 19, 20, 21, 22, 23, 24, 25, 26, 27, 28, 29]⟩, ⟨nk 46 15, 31, [15], 0, [], (List.range 31)⟩, ⟨fd 47 46 3, 32, [46], 0, [], (List.range 32)⟩, ⟨⟨none, .store 1 (.s 47) (.s 45), none⟩, 33, [45, 47], 4, [], (List.range 33)⟩]
def a30r6 : LA := [ld 48 3, nk 49 48, fd 50 49 3, ld 51 50]
def a30r7 : LA := [ld 52 3, fd 53 5 8, ld 54 53, ⟨some 55, .call 53 [(.s 52), (.s 54), (.k (.int .i64 1))] false, none⟩]
def a30r8 : LA := [ld 56 3, fd 57 5 9, lo 58 7 57, ⟨some 59, .call 54 [(.s 56), (.s 58), (.k (.int .i64 1))] false, none⟩]
def a30r9 : LA := [bi 60 .add 11 .i64 1, mv 11 60]
def a30l0 : ACode := (.seq (.reg 0 a30r3 [3, 9, 10, 11, 12]) (.seq (.cond (.s 12) .skip (.exit 0)) (.seq (.block 1 (.seq (.reg 0 a30r4 [3, 5, 9, 10, 11]) (.seq (.dreg 0 a30d5 [3, 5, 9, 10, 11]) (.seq (.seq (.reg 0 a30r6 [3, 5, 9, 10, 11, 51]) (.cond (.s 51) (.exit 0) .skip)) (.seq (.reg 0 a30r7 [3, 5, 9, 10, 11]) (.reg 0 a30r8 [3, 9, 10, 11])))))) (.reg 0 a30r9 [3, 9, 10, 11]))))
def a30r10 : LA := [ld 61 3, nk 62 61, fd 63 62 3, ld 64 63, ⟨some 65, .un .not (.s 64), none⟩, mv 2 65]
def a30c : ACode := (.seq (.reg 0 a30r0 [1]) (.seq (.reg 1 a30r1 [1, 3]) (.seq (.seq (.reg 0 a30r2 [3, 9, 10, 11]) (.block 0 (.loop a30l0))) (.seq (.reg 0 a30r10 [2]) .ret))))
def a30 : AFn := ⟨[.slot 2], a30c⟩
theorem ok30 : fnOkB 30 a30 = true := by decide +kernel
def a31r0 : LA := [⟨some 1, .box true (.s 0) 0, none⟩, ⟨some 2, .mov (.k (.nils)), none⟩]
def a31d1 : LD := [⟨fd 3 1 8, 0, [1], 0, [], []⟩, ⟨ld 4 3, 1, [1, 3], 1, [], [0]⟩, ⟨fd 6 1 9, 3, [1], 0, [], []⟩, ⟨lo 7 7 6, 4, [1, 6], 1, [], [2]⟩, ⟨⟨some 5, .call 55 [(.s 4)] false, none⟩, 2, [4], 4, [3], [0, 1]⟩, ⟨⟨some 8, .call 56 [(.s 7)] false, none⟩, 5, [7], 4, [], [0, 1, 2, 3, 4]⟩, ⟨⟨some 9, .app 3 32 (.s 5) (.s 8) 0, none⟩, 6, [5, 8], 4, [], (List.range 6)⟩, ⟨mv 2 9, 7, [9], 3, [], (List.range 7)⟩]
def a31c : ACode := (.seq (.reg 0 a31r0 [1, 2]) (.seq (.dreg 1 a31d1 [2]) .ret))
def a31 : AFn := ⟨[.slot 2], a31c⟩
theorem ok31 : fnOkB 31 a31 = true := by decide +kernel
/- slices.Compact[[]int,int] -/
def a33r0 : LA := [⟨some 2, .mov (.k (.nils)), none⟩]
def a33r1 : LA := [mv 6 0, le 7 6, bi 8 .lss 7 .i64 2]
def a33r2 : LA := [mv 9 0, mv 2 9]
def a33r3 : LA := [mi 3 1]
def a33r4 : LA := [mv 10 3, mv 11 0, le 12 11, bn 13 .lss 10 12]
def a33d5 : LD := [⟨mv 16 0, 0, [0], 0, [], []⟩, ⟨mv 17 3, 1, [3], 0, [], []⟩, ⟨ia 18 1 16 17, 2, [16, 17], 0, [], [0, 1]⟩, ⟨ld 19 18, 3, [18], 1, [], [0, 1, 2]⟩, ⟨mv 20 0, 4, [0], 0, [], []⟩, ⟨mv 21 3, 5, [3], 0, [], []⟩, ⟨bi 22 .sub 21 .i64 1, 6, [21], 0, [], [5]⟩, ⟨ia 23 1 20 22, 7, [20, 22], 0, [], [4, 5, 6]⟩, ⟨ld 24 23, 8, [23], 1, [], [4, 5, 6, 7]⟩, ⟨bn 25 .eql 19 24, 9, [19, 24], 0, [], (List.range 9)⟩]
def a33r6 : LA := [mv 26 0, mv 27 3, ⟨some 28, .slice (some 1) (.s 26) (some (.s 27)) none none, none⟩, mv 4 28]
def a33r7 : LA := [mi 5 1]
def a33r8 : LA := [mv 29 5, mv 30 4, le 31 30, bn 32 .lss 29 31]
def a33d9 : LD := [⟨mv 35 4, 0, [4], 0, [], []⟩, ⟨mv 36 5, 1, [5], 0, [], []⟩, ⟨ia 37 1 35 36, 2, [35, 36], 0, [], [0, 1]⟩, ⟨ld 38 37, 3, [37], 1, [], [0, 1, 2]⟩, ⟨mv 39 4, 4, [4], 0, [], []⟩, ⟨mv 40 5, 5, [5], 0, [], []⟩, ⟨bi 41 .sub 40 .i64 1, 6, [40], 0, [], [5]⟩, ⟨ia 42 1 39 41, 7, [39, 41], 0, [], [4, 5, 6]⟩, ⟨ld 43 42, 8, [42], 1, [], [4, 5, 6, 7]⟩, ⟨bn 44 .neq 38 43, 9, [38, 43], 0, [], (List.range 9)⟩]
def a33r10 : LA := [mv 45 0, mv 46 3, mv 47 4, mv 48 5, ia 49 1 47 48, ld 50 49, ia 51 1 45 46, ⟨none, .store 1 (.s 51) (.s 50), none⟩]
def a33r11 : LA := [mv 52 3, bi 53 .add 52 .i64 1, mv 3 53]
def a33r12 : LA := [mv 33 5, bi 34 .add 33 .i64 1, mv 5 34]
def a33l0 : ACode := (.seq (.seq (.reg 0 a33r8 [0, 3, 4, 5, 32]) (.cond (.s 32) .skip (.exit 2))) (.seq (.block 3 (.seq (.dreg 0 a33d9 [0, 3, 4, 5, 44]) (.cond (.s 44) (.seq (.reg 0 a33r10 [0, 3, 4, 5]) (.reg 0 a33r11 [0, 3, 4, 5])) .skip))) (.reg 0 a33r12 [0, 3, 4, 5])))
def a33r13 : LA := [mv 54 0, mv 55 3, ⟨some 56, .slice (some 1) (.s 54) (some (.s 55)) none none, none⟩, ⟨none, .clr (.int .i64 0) (.s 56), none⟩]
def a33r14 : LA := [mv 57 0, mv 58 3, ⟨some 59, .slice (some 1) (.s 57) none (some (.s 58)) none, none⟩, mv 2 59]
def a33r15 : LA := [mv 14 3, bi 15 .add 14 .i64 1, mv 3 15]
def a33l1 : ACode := (.seq (.seq (.reg 0 a33r4 [0, 3, 13]) (.cond (.s 13) .skip (.exit 0))) (.seq (.block 1 (.seq (.dreg 0 a33d5 [0, 3, 25]) (.cond (.s 25) (.seq (.reg 0 a33r6 [0, 3, 4]) (.seq (.seq (.reg 0 a33r7 [0, 3, 4, 5]) (.block 2 (.loop a33l0))) (.seq (.reg 0 a33r13 [0, 3]) (.seq (.reg 0 a33r14 [2]) .ret)))) .skip))) (.reg 0 a33r15 [0, 3])))
def a33r16 : LA := [mv 60 0, mv 2 60]
def a33c : ACode := (.seq (.reg 0 a33r0 [0]) (.seq (.seq (.reg 0 a33r1 [0, 8]) (.cond (.s 8) (.seq (.reg 0 a33r2 [2]) .ret) .skip)) (.seq (.seq (.reg 0 a33r3 [0, 3]) (.block 0 (.loop a33l1))) (.seq (.reg 0 a33r16 [2]) .ret))))
def a33 : AFn := ⟨[.slot 2], a33c⟩
theorem ok33 : fnOkB 33 a33 = true := by decide +kernel
/- (*blazon/effect.grouper).from -/
def a34r0 : LA := [mv 9 0, mv 10 1, ⟨some 11, .call 59 [(.s 9), (.s 10)] false, none⟩, ⟨some 12, .buildsl 2 1 [.int .i64 0, .int .i64 0] [(0, 2, (.s 11))] 0, none⟩, mv 4 12]
def a34r1 : LA := [mv 13 4, le 14 13, bi 15 .gtr 14 .i64 0]
def a34r2 : LA := [mv 16 4, mv 17 4, le 18 17, bi 19 .sub 18 .i64 1, ia 20 2 16 19, mv 5 20]
def a34d3 : LD := [⟨mv 21 5, 0, [5], 0, [], []⟩, ⟨nk 22 21, 1, [21], 0, [], [0]⟩, ⟨fd 23 22 1, 2, [22], 0, [], [0, 1]⟩, ⟨ld 24 23, 3, [23], 1, [], [0, 1, 2]⟩, ⟨mv 25 0, 4, [0], 0, [], []⟩, ⟨nk 26 25, 5, [25], 0, [], [4]⟩, ⟨fd 27 26 0, 6, [26], 0, [], [4, 5]⟩, ⟨ld 28 27, 7, [27], 1, [], [4, 5, 6]⟩, ⟨mv 29 5, 8, [5], 0, [], []⟩, ⟨nk 30 29, 9, [29], 0, [], [8]⟩, ⟨fd 31 30 0, 10, [30], 0, [], [8, 9]⟩, ⟨ld 32 31, 11, [31], 1, [], [8, 9, 10]⟩, ⟨ia 33 1 28 32, 12, [28, 32], 0, [], [4, 5, 6, 7, 8, 9, 10, 11]⟩, ⟨ld 34 33, 13, [33], 1, [], [4, 5, 6, 7, 8, 9, 10, 11, 12]⟩, ⟨le 35 34, 14, [34], 0, [], [4, 5, 6, 7, 8, 9, 10, 11, 12, 13]⟩, ⟨bn 36 .lss 24 35, 15, [24, 35], 0, [], (List.range 15)⟩]
def a34d4 : LD := [⟨mv 37 0, 0, [0], 0, [], []⟩, ⟨nk 38 37, 1, [37], 0, [], [0]⟩, ⟨fd 39 38 0, 2, [38], 0, [], [0, 1]⟩, ⟨ld 40 39, 3, [39], 1, [], [0, 1, 2]⟩, ⟨mv 41 5, 4, [5], 0, [], []⟩, ⟨nk 42 41, 5, [41], 0, [], [4]⟩, ⟨fd 43 42 0, 6, [42], 0, [], [4, 5]⟩, ⟨ld 44 43, 7, [43], 1, [], [4, 5, 6]⟩, ⟨ia 45 1 40 44, 8, [40, 44], 0, [], (List.range 8)⟩, ⟨ld 46 45, 9, [45], 1, [], (List.range 9)⟩, ⟨mv 47 5, 10, [5], 0, [], []⟩, ⟨nk 48 47, 11, [47], 0, [], [10]⟩, ⟨fd 49 48 1, 12, [48], 0, [], [10, 11]⟩, ⟨ld 50 49, 13, [49], 1, [], [10, 11, 12]⟩, ⟨ia 51 1 46 50, 14, [46, 50], 0, [], (List.range 14)⟩, ⟨ld 52 51, 15, [51], 1, [], (List.range 15)⟩, ⟨mv 6 52, 16, [52], 3, [], (List.range 16)⟩]
def a34r5 : LA := [mv 53 5, nk 54 53, fd 55 54 1, ld 56 55, bi 57 .add 56 .i64 1, nk 58 53, fd 59 58 1, ⟨none, .store 1 (.s 59) (.s 57), none⟩]
def a34r6 : LA := [mv 60 0, nk 61 60, fd 62 61 1, ld 63 62, mv 64 6, ia 65 1 63 64, ld 66 65, bi 67 .eql 66 .i64 0]
def a34r7 : LA := [mv 68 4, mv 69 0, mv 70 6, ⟨some 71, .call 59 [(.s 69), (.s 70)] false, none⟩, ⟨some 72, .lits 2 1 [.int .i64 0, .int .i64 0] [(0, 2, (.s 71))], none⟩, ⟨some 73, .app 2 16 (.s 68) (.s 72) 0, none⟩, mv 4 73]
def a34r8 : LA := [mv 74 0, nk 75 74, fd 76 75 3, ld 77 76, mv 78 6, ia 79 1 77 78, ld 80 79]
def a34d9 : LD := [⟨mv 81 0, 0, [0], 0, [], []⟩, ⟨nk 82 81, 1, [81], 0, [], [0]⟩, ⟨fd 83 82 2, 2, [82], 0, [], [0, 1]⟩, ⟨ld 84 83, 3, [83], 1, [], [0, 1, 2]⟩, ⟨mv 85 5, 4, [5], 0, [], []⟩, ⟨nk 86 85, 5, [85], 0, [], [4]⟩, ⟨fd 87 86 0, 6, [86], 0, [], [4, 5]⟩, ⟨ld 88 87, 7, [87], 1, [], [4, 5, 6]⟩, ⟨mv 89 0, 8, [0], 0, [], []⟩, ⟨nk 90 89, 9, [89], 0, [], [8]⟩, ⟨fd 91 90 2, 10, [90], 0, [], [8, 9]⟩, ⟨ld 92 91, 11, [91], 1, [], [8, 9, 10]⟩, ⟨mv 93 5, 12, [5], 0, [], []⟩, ⟨nk 94 93, 13, [93], 0, [], [12]⟩, ⟨fd 95 94 0, 14, [94], 0, [], [12, 13]⟩, ⟨ld 96 95, 15, [95], 1, [], [12, 13, 14]⟩, ⟨ia 97 1 92 96, 16, [92, 96], 0, [], [8, 9, 10, 11, 12, 13, 14, 15]⟩, ⟨ld 98 97, 17, [97], 1, [], [8, 9, 10, 11, 12, 13, 14, 15, 16]⟩, ⟨mv 99 0, 18, [0], 0, [], []⟩, ⟨nk 100 99, 19, [99], 0, [], [18]⟩, ⟨fd 101 100 1, 20, [100], 0, [], [18, 19]⟩, ⟨ld 102 101, 21, [101], 1, [], [18, 19, 20]⟩, ⟨mv 103 6, 22, [6], 0, [], []⟩, ⟨ia 104 1 102 103, 23, [102, 103], 0, [], [18, 19, 20, 21, 22]⟩, ⟨ld 105 104, 24, [104], 1, [], [18, 19, 20, 21, 22, 23]⟩, ⟨⟨some 106, .mm false (.s 98) (.s 105), none⟩, 25, [98, 105], 0, [], [8, 9, 10, 11, 12, 13, 14, 15, 16, 17, 18, 19, 20, 21, 22, 23, 24]⟩, ⟨ia 107 1 84 88, 26, [84, 88], 0, [], (List.range 26)⟩, ⟨⟨none, .store 1 (.s 107) (.s 106), none⟩, 27, [106, 107], 4, [], (List.range 27)⟩]
def a34l0 : ACode := (.seq (.seq (.dreg 0 a34d3 [0, 4, 5, 6, 36]) (.cond (.s 36) .skip (.exit 2))) (.block 3 (.seq (.dreg 0 a34d4 [0, 4, 5, 6]) (.seq (.reg 0 a34r5 [0, 4, 5, 6]) (.seq (.seq (.reg 0 a34r6 [0, 4, 5, 6, 67]) (.cond (.s 67) (.seq (.reg 1 a34r7 [0, 4, 6]) (.exit 1)) .skip)) (.seq (.reg 0 a34r8 [0, 4, 5, 6, 80]) (.cond (.s 80) (.dreg 0 a34d9 [0, 4, 5, 6]) .skip)))))))
def a34r10 : LA := [mv 108 5, nk 109 108, fd 110 109 0, ld 111 110, mv 7 111]
def a34r11 : LA := [mv 112 4, mv 113 4, le 114 113, bi 115 .sub 114 .i64 1, ⟨some 116, .slice (some 2) (.s 112) none (some (.s 115)) none, none⟩, mv 4 116]
def a34r12 : LA := [mv 117 0, mv 118 7, ⟨some 119, .call 60 [(.s 117), (.s 118)] false, none⟩]
def a34r13 : LA := [mv 120 4, le 121 120, bi 122 .gtr 121 .i64 0]
def a34r14 : LA := [mv 123 4, mv 124 4, le 125 124, bi 126 .sub 125 .i64 1, ia 127 2 123 126, fd 128 127 0, ld 129 128, mv 8 129]
def a34d15 : LD := [⟨mv 130 0, 0, [0], 0, [], []⟩, ⟨nk 131 130, 1, [130], 0, [], [0]⟩, ⟨fd 132 131 2, 2, [131], 0, [], [0, 1]⟩, ⟨ld 133 132, 3, [132], 1, [], [0, 1, 2]⟩, ⟨mv 134 8, 4, [8], 0, [], []⟩, ⟨mv 135 0, 5, [0], 0, [], []⟩, ⟨nk 136 135, 6, [135], 0, [], [5]⟩, ⟨fd 137 136 2, 7, [136], 0, [], [5, 6]⟩, ⟨ld 138 137, 8, [137], 1, [], [5, 6, 7]⟩, ⟨mv 139 8, 9, [8], 0, [], []⟩, ⟨ia 140 1 138 139, 10, [138, 139], 0, [], [5, 6, 7, 8, 9]⟩, ⟨ld 141 140, 11, [140], 1, [], [5, 6, 7, 8, 9, 10]⟩, ⟨mv 142 0, 12, [0], 0, [], []⟩, ⟨nk 143 142, 13, [142], 0, [], [12]⟩, ⟨fd 144 143 2, 14, [143], 0, [], [12, 13]⟩, ⟨ld 145 144, 15, [144], 1, [], [12, 13, 14]⟩, ⟨mv 146 7, 16, [7], 0, [], []⟩, ⟨ia 147 1 145 146, 17, [145, 146], 0, [], [12, 13, 14, 15, 16]⟩, ⟨ld 148 147, 18, [147], 1, [], [12, 13, 14, 15, 16, 17]⟩, ⟨⟨some 149, .mm false (.s 141) (.s 148), none⟩, 19, [141, 148], 0, [], [5, 6, 7, 8, 9, 10, 11, 12, 13, 14, 15, 16, 17, 18]⟩, ⟨ia 150 1 133 134, 20, [133, 134], 0, [], (List.range 20)⟩, ⟨⟨none, .store 1 (.s 150) (.s 149), none⟩, 21, [149, 150], 4, [], (List.range 21)⟩]
def a34l1 : ACode := (.seq (.seq (.reg 0 a34r1 [0, 4, 6, 15]) (.cond (.s 15) .skip (.exit 0))) (.block 1 (.seq (.reg 0 a34r2 [0, 4, 5, 6]) (.seq (.block 2 (.loop a34l0)) (.seq (.reg 0 a34r10 [0, 4, 6, 7]) (.seq (.reg 0 a34r11 [0, 4, 6, 7]) (.seq (.reg 0 a34r12 [0, 4, 6, 7]) (.seq (.reg 0 a34r13 [0, 4, 6, 7, 122]) (.cond (.s 122) (.seq (.reg 0 a34r14 [0, 4, 6, 7, 8]) (.dreg 0 a34d15 [0, 4, 6])) .skip)))))))))
def a34c : ACode := (.seq (.reg 1 a34r0 [0, 4, 6]) (.seq .skip (.block 0 (.loop a34l1))))
def a34 : AFn := ⟨[], a34c⟩
theorem ok34 : fnOkB 34 a34 = true := by decide +kernel
/- (*blazon/effect.grouper).sorted -/
def a35r0 : LA := [⟨some 2, .box false (.s 0) 0, none⟩, ⟨some 4, .mov (.k (.nils)), none⟩]
def a35r1 : LA := [mv 9 1, ⟨some 10, .call 61 [(.s 9), (.k (.fn 62 []))] false, none⟩]
def a35r2 : LA := [ld 11 2, nk 12 11, fd 13 12 6, ld 14 13, ⟨some 15, .mksl 1 1 [.bool false] (.s 14) (.s 14) 0, none⟩, ⟨some 5, .alloc false [.nils] 1, none⟩, ⟨none, .store 1 (.s 5) (.s 15), none⟩]
def a35r3 : LA := [⟨some 16, .mkfn 63 [(.s 2), (.s 5)], none⟩, ⟨some 6, .alloc false [.nilf] 0, none⟩, ⟨none, .store 1 (.s 6) (.s 16), none⟩]
def a35r4 : LA := [⟨some 7, .mov (.k (.nils)), none⟩]
def a35r5 : LA := [mv 17 1, le 18 17, mi 19 0]
def a35r6 : LA := [bn 20 .lss 19 18]
def a35r7 : LA := [mv 21 1, ⟨some 22, .mkfn 65 [(.s 5), (.s 2), (.s 6)], none⟩, ⟨some 23, .call 64 [(.s 21), (.s 22)] false, none⟩, mv 8 23]
def a35d8 : LD := [⟨ld 24 5, 0, [5], 1, [], []⟩, ⟨ld 25 2, 1, [2], 1, [], []⟩, ⟨nk 26 25, 2, [25], 0, [], [1]⟩, ⟨fd 27 26 5, 3, [26], 0, [], [1, 2]⟩, ⟨ld 28 27, 4, [27], 1, [], [1, 2, 3]⟩, ⟨mv 29 1, 5, [1], 0, [], []⟩, ⟨mv 30 8, 6, [8], 0, [], []⟩, ⟨ia 31 1 29 30, 7, [29, 30], 0, [], [5, 6]⟩, ⟨ld 32 31, 8, [31], 1, [], [5, 6, 7]⟩, ⟨⟨some 33, .idxa none 1 (.s 32) (.k (.int .i64 0)), none⟩, 9, [32], 0, [], [5, 6, 7, 8]⟩, ⟨ld 34 33, 10, [33], 1, [], [5, 6, 7, 8, 9]⟩, ⟨ia 35 1 28 34, 11, [28, 34], 0, [], [1, 2, 3, 4, 5, 6, 7, 8, 9, 10]⟩, ⟨ld 36 35, 12, [35], 1, [], [1, 2, 3, 4, 5, 6, 7, 8, 9, 10, 11]⟩, ⟨ia 37 1 24 36, 13, [24, 36], 0, [], (List.range 13)⟩, ⟨⟨none, .store 1 (.s 37) (.k (.bool true)), none⟩, 14, [37], 4, [], (List.range 14)⟩]
def a35r9 : LA := [mv 38 7, mv 39 1, mv 40 8, ia 41 1 39 40, ld 42 41, ⟨some 43, .lits 1 1 [.nils] [(0, 1, (.s 42))], none⟩, ⟨some 44, .app 1 24 (.s 38) (.s 43) 0, none⟩, mv 7 44]
def a35r10 : LA := [bi 45 .add 19 .i64 1, mv 19 45]
def a35l0 : ACode := (.seq (.reg 0 a35r6 [1, 2, 5, 6, 7, 18, 19, 20]) (.seq (.cond (.s 20) .skip (.exit 0)) (.seq (.block 1 (.seq (.reg 0 a35r7 [1, 2, 5, 6, 7, 8, 18, 19]) (.seq (.dreg 0 a35d8 [1, 2, 5, 6, 7, 8, 18, 19]) (.reg 1 a35r9 [1, 2, 5, 6, 7, 18, 19])))) (.reg 0 a35r10 [1, 2, 5, 6, 7, 18, 19]))))
def a35r11 : LA := [mv 46 7, mv 4 46]
def a35c : ACode := (.seq (.reg 1 a35r0 [1, 2]) (.seq (.reg 0 a35r1 [1, 2]) (.seq (.reg 2 a35r2 [1, 2, 5]) (.seq (.reg 1 a35r3 [1, 2, 5, 6]) (.seq (.reg 0 a35r4 [1, 2, 5, 6, 7]) (.seq (.seq (.reg 0 a35r5 [1, 2, 5, 6, 7, 18, 19]) (.block 0 (.loop a35l0))) (.seq (.reg 0 a35r11 [4]) .ret)))))))
def a35 : AFn := ⟨[.slot 4], a35c⟩
theorem ok35 : fnOkB 35 a35 = true := by decide +kernel
def a36r0 : LA := [⟨some 2, .box true (.s 0) 0, none⟩, mb 4 false]
def a36r1 : LA := [mv 5 1, bi 6 .geq 5 .i64 0, mv 7 6, mg 8 1 7 true, ⟨some 9, .fadr (.s 2) 0, (some (7, true))⟩, ⟨some 10, .load none (.s 9), (some (7, true))⟩, ⟨some 11, .len 1 (.s 10), (some (7, true))⟩, ⟨some 12, .bin .lss (.s 8) (.s 11), (some (7, true))⟩, ⟨some 13, .pick (.s 7) (.s 12) (.k (.bool false)), none⟩, mv 4 13]
def a36c : ACode := (.seq (.reg 0 a36r0 [1, 2]) (.seq (.reg 0 a36r1 [4]) .ret))
def a36 : AFn := ⟨[.slot 4], a36c⟩
theorem ok36 : fnOkB 36 a36 = true := by decide +kernel
def a37r0 : LA := [⟨some 3, .box true (.s 0) 0, none⟩, mb 6 false]
def a37r1 : LA := [mi 7 0]
def a37r2 : LA := [mv 9 7, mv 10 1, le 11 10, bn 12 .lss 9 11]
def a37r3 : LA := [mv 15 1, mv 16 7, ia 17 13 15 16, lo 18 13 17, ⟨some 8, .alloc true [.int .i64 0, .int .i64 0, .int .i64 0, (strv []), .int .i64 0, .int .i64 0, .int .i64 0, .int .i64 0, .int .i64 0, (strv []), .nils, .nils, .nils] 0, none⟩, ⟨none, .store 13 (.s 8) (.s 18), none⟩]
def a37r4 : LA := [fd 19 8 0, ld 20 19, bi 21 .lss 20 .i64 0, mv 22 21, ⟨some 23, .fadr (.s 8) 0, (some (22, false))⟩, ⟨some 24, .load none (.s 23), (some (22, false))⟩, ⟨some 25, .bin .gtr (.s 24) (.k (.int .i64 4)), (some (22, false))⟩, ⟨some 26, .pick (.s 22) (.k (.bool true)) (.s 25), none⟩, mv 27 26, mg 28 2 27 false, ⟨some 29, .bin .gtr (.s 28) (.k (.int .i64 64)), (some (27, false))⟩, ⟨some 30, .pick (.s 27) (.k (.bool true)) (.s 29), none⟩, mv 31 30, ⟨some 32, .fadr (.s 8) 0, (some (31, false))⟩, ⟨some 33, .load none (.s 32), (some (31, false))⟩, ⟨some 34, .bin .eql (.s 33) (.k (.int .i64 0)), (some (31, false))⟩, mg 35 34 31 false, ⟨some 36, .load (some 2) (.s 3), (some (35, true))⟩, ⟨some 37, .fadr (.s 8) 2, (some (35, true))⟩, ⟨some 38, .load none (.s 37), (some (35, true))⟩, ⟨some 39, .call 36 [(.s 36), (.s 38)] false, (some (35, true))⟩, ⟨some 40, .un .not (.s 39), (some (35, true))⟩, ⟨some 41, .pick (.s 35) (.s 40) (.k (.bool false)), (some (31, false))⟩, ⟨some 42, .pick (.s 31) (.k (.bool true)) (.s 41), none⟩, mv 43 42, ⟨some 44, .fadr (.s 8) 0, (some (43, false))⟩, ⟨some 45, .load none (.s 44), (some (43, false))⟩, ⟨some 46, .bin .neq (.s 45) (.k (.int .i64 3)), (some (43, false))⟩, mg 47 46 43 false, ⟨some 48, .load (some 2) (.s 3), (some (47, true))⟩, ⟨some 49, .fadr (.s 8) 4, (some (47, true))⟩, ⟨some 50, .load (some 7) (.s 49), (some (47, true))⟩, ⟨some 51, .call 38 [(.s 48), (.s 50), (.k (.int .i64 1))] false, (some (47, true))⟩, ⟨some 52, .un .not (.s 51), (some (47, true))⟩, ⟨some 53, .pick (.s 47) (.s 52) (.k (.bool false)), (some (43, false))⟩, ⟨some 54, .pick (.s 43) (.k (.bool true)) (.s 53), none⟩]
def a37r5 : LA := [mb 6 false]
def a37r6 : LA := [fd 55 8 0, ld 56 55, bi 57 .eql 56 .i64 1, mv 58 57, ⟨some 59, .fadr (.s 8) 0, (some (58, false))⟩, ⟨some 60, .load none (.s 59), (some (58, false))⟩, ⟨some 61, .bin .eql (.s 60) (.k (.int .i64 2)), (some (58, false))⟩, ⟨some 62, .pick (.s 58) (.k (.bool true)) (.s 61), none⟩, mv 63 62, ⟨some 64, .load (some 2) (.s 3), (some (63, true))⟩, ⟨some 65, .fadr (.s 8) 11, (some (63, true))⟩, ⟨some 66, .load none (.s 65), (some (63, true))⟩, mg 67 2 63 true, ⟨some 68, .bin .add (.s 67) (.k (.int .i64 1)), (some (63, true))⟩, ⟨some 69, .call 37 [(.s 64), (.s 66), (.s 68)] false, (some (63, true))⟩, ⟨some 70, .un .not (.s 69), (some (63, true))⟩, mg 71 70 63 true, ⟨some 72, .load (some 2) (.s 3), (some (71, false))⟩, ⟨some 73, .fadr (.s 8) 12, (some (71, false))⟩, ⟨some 74, .load none (.s 73), (some (71, false))⟩, mg 75 2 71 false, ⟨some 76, .bin .add (.s 75) (.k (.int .i64 1)), (some (71, false))⟩, ⟨some 77, .call 37 [(.s 72), (.s 74), (.s 76)] false, (some (71, false))⟩, ⟨some 78, .un .not (.s 77), (some (71, false))⟩, ⟨some 79, .pick (.s 71) (.k (.bool true)) (.s 78), (some (63, true))⟩, ⟨some 80, .pick (.s 63) (.s 79) (.k (.bool false)), none⟩]
def a37r7 : LA := [mb 6 false]
def a37r8 : LA := [mv 13 7, bi 14 .add 13 .i64 1, mv 7 14]
def a37l0 : ACode := (.seq (.seq (.reg 0 a37r2 [1, 2, 3, 7, 12]) (.cond (.s 12) .skip (.exit 0))) (.seq (.block 1 (.seq (.reg 0 a37r3 [1, 2, 3, 7, 8]) (.seq (.seq (.reg 0 a37r4 [1, 2, 3, 7, 8, 54]) (.cond (.s 54) (.seq (.reg 0 a37r5 [6]) .ret) .skip)) (.seq (.reg 0 a37r6 [1, 2, 3, 7, 80]) (.cond (.s 80) (.seq (.reg 0 a37r7 [6]) .ret) .skip))))) (.reg 0 a37r8 [1, 2, 3, 7])))
def a37r9 : LA := [mb 6 true]
def a37c : ACode := (.seq (.reg 0 a37r0 [1, 2, 3]) (.seq (.seq (.reg 0 a37r1 [1, 2, 3, 7]) (.block 0 (.loop a37l0))) (.seq (.reg 0 a37r9 [6]) .ret)))
def a37 : AFn := ⟨[.slot 6], a37c⟩
theorem ok37 : fnOkB 37 a37 = true := by decide +kernel
def a38r0 : LA := [⟨some 3, .box true (.s 0) 0, none⟩, ⟨some 4, .box true (.s 1) 0, none⟩, mb 6 false]
def a38r1 : LA := [mi 7 0]
def a38r2 : LA := [fd 9 4 0, ld 10 9]
def a38r3 : LA := [bi 12 .eql 10 .i64 2, mv 11 12]
def a38r4 : LA := [lo 13 2 3, fd 14 4 3, ld 15 14, ⟨some 16, .call 36 [(.s 13), (.s 15)] false, none⟩, ⟨some 17, .un .not (.s 16), none⟩]
def a38r5 : LA := [mb 6 false]
def a38r6 : LA := [bi 19 .eql 10 .i64 3, mv 18 19]
def a38r7 : LA := [fd 20 4 4, ld 21 20, bi 22 .lss 21 .i64 0, mv 23 22, ⟨some 24, .fadr (.s 4) 4, (some (23, false))⟩, ⟨some 25, .load none (.s 24), (some (23, false))⟩, ⟨some 26, .fadr (.s 3) 1, (some (23, false))⟩, ⟨some 27, .load none (.s 26), (some (23, false))⟩, ⟨some 28, .len 1 (.s 27), (some (23, false))⟩, ⟨some 29, .bin .geq (.s 25) (.s 28), (some (23, false))⟩, ⟨some 30, .pick (.s 23) (.k (.bool true)) (.s 29), none⟩]
def a38r8 : LA := [mb 6 false]
def a38r9 : LA := [fd 31 4 6, ld 32 31, le 33 32, mv 7 33]
def a38r10 : LA := [bi 35 .eql 10 .i64 4, mv 34 35]
def a38r11 : LA := [bi 36 .eql 10 .i64 6, mv 34 36]
def a38r12 : LA := [mi 7 1]
def a38r13 : LA := [bi 38 .eql 10 .i64 5, mv 37 38]
def a38r14 : LA := [mi 7 2]
def a38r15 : LA := [fd 39 4 0, ld 40 39, bi 41 .lss 40 .i64 0, mv 42 41, ⟨some 43, .fadr (.s 4) 0, (some (42, false))⟩, ⟨some 44, .load none (.s 43), (some (42, false))⟩, ⟨some 45, .bin .gtr (.s 44) (.k (.int .i64 6)), (some (42, false))⟩, ⟨some 46, .pick (.s 42) (.k (.bool true)) (.s 45), none⟩, mv 47 46, ⟨some 48, .fadr (.s 4) 6, (some (47, false))⟩, ⟨some 49, .load none (.s 48), (some (47, false))⟩, ⟨some 50, .len 1 (.s 49), (some (47, false))⟩, mg 51 7 47 false, ⟨some 52, .bin .neq (.s 50) (.s 51), (some (47, false))⟩, ⟨some 53, .pick (.s 47) (.k (.bool true)) (.s 52), none⟩, mv 54 53, mg 55 2 54 false, ⟨some 56, .bin .gtr (.s 55) (.k (.int .i64 64)), (some (54, false))⟩, ⟨some 57, .pick (.s 54) (.k (.bool true)) (.s 56), none⟩]
def a38r16 : LA := [mb 6 false]
def a38r17 : LA := [mi 8 0]
def a38r18 : LA := [mv 58 8, fd 59 4 6, ld 60 59, le 61 60, bn 62 .lss 58 61]
def a38d19 : LD := [⟨lo 65 2 3, 0, [3], 1, [], []⟩, ⟨fd 66 4 6, 1, [4], 0, [], []⟩, ⟨ld 67 66, 2, [4, 66], 1, [], [1]⟩, ⟨mv 68 8, 3, [8], 0, [], []⟩, ⟨ia 69 7 67 68, 4, [67, 68], 0, [], [1, 2, 3]⟩, ⟨lo 70 7 69, 5, [69], 1, [], [1, 2, 3, 4]⟩, ⟨mv 71 2, 6, [2], 0, [], []⟩, ⟨bi 72 .add 71 .i64 1, 7, [71], 0, [], [6]⟩, ⟨⟨some 73, .call 38 [(.s 65), (.s 70), (.s 72)] false, none⟩, 8, [65, 70, 72], 4, [], (List.range 8)⟩, ⟨⟨some 74, .un .not (.s 73), none⟩, 9, [73], 0, [], (List.range 9)⟩]
def a38r20 : LA := [mb 6 false]
def a38r21 : LA := [mv 63 8, bi 64 .add 63 .i64 1, mv 8 64]
def a38l0 : ACode := (.seq (.seq (.reg 0 a38r18 [2, 3, 4, 8, 62]) (.cond (.s 62) .skip (.exit 1))) (.seq (.block 2 (.seq (.dreg 0 a38d19 [2, 3, 4, 8, 74]) (.cond (.s 74) (.seq (.reg 0 a38r20 [6]) .ret) .skip))) (.reg 0 a38r21 [2, 3, 4, 8])))
def a38r22 : LA := [mb 6 true]
def a38c : ACode := (.seq (.reg 0 a38r0 [2, 3, 4]) (.seq (.reg 0 a38r1 [2, 3, 4, 7]) (.seq (.seq (.reg 0 a38r2 [2, 3, 4, 7, 10]) (.block 0 (.seq (.reg 0 a38r3 [2, 3, 4, 7, 10, 11]) (.cond (.s 11) (.seq (.reg 0 a38r4 [2, 3, 4, 7, 17]) (.cond (.s 17) (.seq (.reg 0 a38r5 [6]) .ret) .skip)) (.seq (.reg 0 a38r6 [2, 3, 4, 7, 10, 18]) (.cond (.s 18) (.seq (.seq (.reg 0 a38r7 [2, 3, 4, 30]) (.cond (.s 30) (.seq (.reg 0 a38r8 [6]) .ret) .skip)) (.reg 0 a38r9 [2, 3, 4, 7])) (.seq (.seq (.reg 0 a38r10 [2, 3, 4, 7, 10, 34]) (.cond (.s 34) .skip (.reg 0 a38r11 [2, 3, 4, 7, 10, 34]))) (.cond (.s 34) (.reg 0 a38r12 [2, 3, 4, 7]) (.seq (.reg 0 a38r13 [2, 3, 4, 7, 37]) (.cond (.s 37) (.reg 0 a38r14 [2, 3, 4, 7]) .skip)))))))))) (.seq (.seq (.reg 0 a38r15 [2, 3, 4, 57]) (.cond (.s 57) (.seq (.reg 0 a38r16 [6]) .ret) .skip)) (.seq (.seq (.reg 0 a38r17 [2, 3, 4, 8]) (.block 1 (.loop a38l0))) (.seq (.reg 0 a38r22 [6]) .ret))))))
def a38 : AFn := ⟨[.slot 6], a38c⟩
theorem ok38 : fnOkB 38 a38 = true := by decide +kernel
def a39r0 : LA := [mb 2 false]
def a39r1 : LA := [mv 3 0, ⟨some 4, .bin .eql (.s 3) (.k ((strv []))), none⟩, mv 5 4, mg 6 0 5 false, ⟨some 7, .len 0 (.s 6), (some (5, false))⟩, ⟨some 8, .bin .gtr (.s 7) (.k (.int .i64 24)), (some (5, false))⟩, ⟨some 9, .pick (.s 5) (.k (.bool true)) (.s 8), none⟩, mv 10 9, mg 11 0 10 false, ⟨some 12, .call 66 [(.s 11)] false, (some (10, false))⟩, ⟨some 13, .pick (.s 10) (.k (.bool true)) (.s 12), none⟩, mv 14 13, mg 15 0 14 false, ⟨some 16, .idx (.s 15) (.k (.int .i64 0)), (some (14, false))⟩, ⟨some 17, .call 67 [(.s 16)] false, (some (14, false))⟩, ⟨some 18, .un .not (.s 17), (some (14, false))⟩, ⟨some 19, .pick (.s 14) (.k (.bool true)) (.s 18), none⟩]
def a39r2 : LA := [mb 2 false]
def a39r3 : LA := [mv 20 0, ⟨some 21, .toBytes (.s 20) 0, none⟩, ⟨some 22, .call 68 [(.s 21), (.k (.fn 69 []))] false, none⟩, mv 23 0, ⟨some 24, .len 0 (.s 23), none⟩, bn 25 .eql 22 24, mv 2 25]
def a39c : ACode := (.seq (.reg 0 a39r0 [0]) (.seq (.seq (.reg 0 a39r1 [0, 19]) (.cond (.s 19) (.seq (.reg 0 a39r2 [2]) .ret) .skip)) (.seq (.reg 1 a39r3 [2]) .ret)))
def a39 : AFn := ⟨[.slot 2], a39c⟩
theorem ok39 : fnOkB 39 a39 = true := by decide +kernel
def a42r0 : LA := [⟨some 2, .box true (.s 0) 0, none⟩, ⟨some 4, .mov (.k (.nils)), none⟩, ⟨some 5, .mov (.k (.nils)), none⟩, mi 6 0, mi 7 0, mi 8 0]
def a42r1 : LA := [fd 19 2 1, ld 20 19, le 21 20, mi 22 0]
def a42r2 : LA := [bn 23 .lss 22 21]
def a42r3 : LA := [mv 24 22, ia 25 16 20 22, lo 26 16 25, ⟨some 10, .alloc true [(strv []), .int .i64 0, .int .i64 0, .nils, .int .i64 0, .int .i64 0, .bool false, .nils, .nils, .int .i64 0, .int .i64 0, .int .i64 0, .int .i64 0, .int .i64 0, (strv []), .nils] 0, none⟩, mv 9 24, ⟨none, .store 16 (.s 10) (.s 26), none⟩]
def a42r4 : LA := [mv 28 1, fd 29 10 6, fd 30 29 1, ld 31 30, ⟨some 32, .call 74 [(.s 28), (.s 31)] false, none⟩, mv 27 32, ex 33 27 0, ex 34 27 1, ex 35 27 2, mv 11 33, mv 12 34, mv 13 35]
def a42r5 : LA := [mv 36 13, bi 37 .neq 36 .i64 0]
def a42d6 : LD := [⟨mv 38 9, 0, [9], 0, [], []⟩, ⟨fd 39 10 6, 1, [10], 0, [], []⟩, ⟨fd 40 39 1, 2, [10, 39], 0, [], [1]⟩, ⟨ld 41 40, 3, [10, 40], 1, [], [1, 2]⟩, ⟨mv 42 12, 4, [12], 0, [], []⟩, ⟨ia 43 2 41 42, 5, [41, 42], 0, [], [1, 2, 3, 4]⟩, ⟨fd 44 43 1, 6, [43], 0, [], [1, 2, 3, 4, 5]⟩, ⟨ld 45 44, 7, [44], 1, [], [1, 2, 3, 4, 5, 6]⟩, ⟨mv 46 13, 8, [13], 0, [], []⟩, ⟨⟨some 4, .mov (.k (.nils)), none⟩, 9, [], 3, [], []⟩, ⟨⟨some 5, .mov (.k (.nils)), none⟩, 10, [], 3, [], [9]⟩, ⟨mv 6 38, 11, [38], 3, [], [0, 9, 10]⟩, ⟨mv 7 45, 12, [45], 3, [], [0, 1, 2, 3, 4, 5, 6, 7, 9, 10, 11]⟩, ⟨mv 8 46, 13, [46], 3, [], (List.range 13)⟩]
def a42r7 : LA := [⟨some 14, .mov (.k (.int .u64 0)), none⟩]
def a42r8 : LA := [lo 47 16 10, ⟨some 48, .call 31 [(.s 47)] false, none⟩, le 49 48, mi 50 0]
def a42r9 : LA := [bn 51 .lss 50 49]
def a42r10 : LA := [ia 52 3 48 50, lo 53 3 52, ⟨some 16, .alloc true [.int .i64 0, (strv []), .int .i64 0] 0, none⟩, ⟨none, .store 3 (.s 16) (.s 53), none⟩]
def a42r11 : LA := [fd 54 16 2, ld 55 54, bi 56 .geq 55 .i64 0]
def a42r12 : LA := [mv 58 1, fd 59 16 1, ld 60 59, ⟨some 61, .call 43 [(.s 58), (.s 60)] false, none⟩, mv 57 61, ex 62 57 0, ex 63 57 1, mv 17 62, mv 18 63]
def a42r13 : LA := [mv 64 18, ⟨some 65, .un .not (.s 64), none⟩]
def a42d14 : LD := [⟨mv 66 9, 0, [9], 0, [], []⟩, ⟨fd 67 16 0, 1, [16], 0, [], []⟩, ⟨ld 68 67, 2, [16, 67], 1, [], [1]⟩, ⟨⟨some 4, .mov (.k (.nils)), none⟩, 3, [], 3, [], []⟩, ⟨⟨some 5, .mov (.k (.nils)), none⟩, 4, [], 3, [], [3]⟩, ⟨mv 6 66, 5, [66], 3, [], [0, 3, 4]⟩, ⟨mv 7 68, 6, [68], 3, [], (List.range 6)⟩, ⟨mi 8 13, 7, [], 3, [], (List.range 7)⟩]
def a42r15 : LA := [mv 69 14, mv 70 17, ⟨some 71, .toInt .u64 (.s 70), none⟩, ⟨some 72, .bin .shl (.k (.int .u64 1)) (.s 71), none⟩, bn 73 .or 69 72, mv 14 73]
def a42r16 : LA := [bi 74 .add 50 .i64 1, mv 50 74]
def a42l0 : ACode := (.seq (.reg 0 a42r9 [1, 4, 5, 6, 7, 8, 9, 10, 11, 14, 20, 21, 22, 48, 49, 50, 51]) (.seq (.cond (.s 51) .skip (.exit 2)) (.seq (.block 3 (.seq (.reg 0 a42r10 [1, 4, 5, 6, 7, 8, 9, 10, 11, 14, 16, 20, 21, 22, 48, 49, 50]) (.seq (.seq (.reg 0 a42r11 [1, 4, 5, 6, 7, 8, 9, 10, 11, 14, 16, 20, 21, 22, 48, 49, 50, 56]) (.cond (.s 56) (.exit 3) .skip)) (.seq (.reg 0 a42r12 [1, 4, 5, 6, 7, 8, 9, 10, 11, 14, 16, 17, 18, 20, 21, 22, 48, 49, 50]) (.seq (.seq (.reg 0 a42r13 [1, 4, 5, 6, 7, 8, 9, 10, 11, 14, 16, 17, 20, 21, 22, 48, 49, 50, 65]) (.cond (.s 65) (.seq (.dreg 0 a42d14 [4, 5, 6, 7, 8]) .ret) .skip)) (.reg 0 a42r15 [1, 4, 5, 6, 7, 8, 9, 10, 11, 14, 20, 21, 22, 48, 49, 50])))))) (.reg 0 a42r16 [1, 4, 5, 6, 7, 8, 9, 10, 11, 14, 20, 21, 22, 48, 49, 50]))))
def a42r17 : LA := [fd 75 10 6, fd 76 75 0, ld 77 76, ⟨some 78, .un .not (.s 77), none⟩]
def a42r18 : LA := [⟨some 11, .mov (.k (.int .u64 0)), none⟩]
def a42r19 : LA := [mv 79 4, mv 80 11, ⟨some 81, .lits 1 1 [.int .u64 0] [(0, 1, (.s 80))], none⟩, ⟨some 82, .app 1 8 (.s 79) (.s 81) 0, none⟩, mv 83 5, mv 84 14, ⟨some 85, .lits 1 1 [.int .u64 0] [(0, 1, (.s 84))], none⟩, ⟨some 86, .app 1 8 (.s 83) (.s 85) 1, none⟩, mv 4 82, mv 5 86]
def a42r20 : LA := [bi 87 .add 22 .i64 1, mv 22 87]
def a42l1 : ACode := (.seq (.reg 0 a42r2 [1, 4, 5, 6, 7, 8, 20, 21, 22, 23]) (.seq (.cond (.s 23) .skip (.exit 0)) (.seq (.block 1 (.seq (.reg 0 a42r3 [1, 4, 5, 6, 7, 8, 9, 10, 20, 21, 22]) (.seq (.reg 0 a42r4 [1, 4, 5, 6, 7, 8, 9, 10, 11, 12, 13, 20, 21, 22]) (.seq (.seq (.reg 0 a42r5 [1, 4, 5, 6, 7, 8, 9, 10, 11, 12, 13, 20, 21, 22, 37]) (.cond (.s 37) (.seq (.dreg 0 a42d6 [4, 5, 6, 7, 8]) .ret) .skip)) (.seq (.reg 0 a42r7 [1, 4, 5, 6, 7, 8, 9, 10, 11, 14, 20, 21, 22]) (.seq (.seq (.reg 0 a42r8 [1, 4, 5, 6, 7, 8, 9, 10, 11, 14, 20, 21, 22, 48, 49, 50]) (.block 2 (.loop a42l0))) (.seq (.seq (.reg 0 a42r17 [1, 4, 5, 6, 7, 8, 11, 14, 20, 21, 22, 78]) (.cond (.s 78) (.reg 0 a42r18 [1, 4, 5, 6, 7, 8, 11, 14, 20, 21, 22]) .skip)) (.reg 2 a42r19 [1, 4, 5, 6, 7, 8, 20, 21, 22])))))))) (.reg 0 a42r20 [1, 4, 5, 6, 7, 8, 20, 21, 22]))))
def a42r21 : LA := [mv 88 4, mv 89 5, mv 4 88, mv 5 89, mi 6 0, mi 7 0, mi 8 0]
def a42c : ACode := (.seq (.reg 0 a42r0 [1, 2, 4, 5, 6, 7, 8]) (.seq (.seq (.reg 0 a42r1 [1, 4, 5, 6, 7, 8, 20, 21, 22]) (.block 0 (.loop a42l1))) (.seq (.reg 0 a42r21 [4, 5, 6, 7, 8]) .ret)))
def a42 : AFn := ⟨[.slot 4, .slot 5, .slot 6, .slot 7, .slot 8], a42c⟩
theorem ok42 : fnOkB 42 a42 = true := by decide +kernel
/- (*blazon/row.Table).Find -/
def a43r0 : LA := [mi 4 0, mb 5 false]
def a43r1 : LA := [mv 8 0, ⟨some 9, .cmp 1 false (.s 8) (.k (.nilp)), none⟩]
def a43r2 : LA := [mi 4 0, mb 5 false]
def a43r3 : LA := [mv 11 0, nk 12 11, fd 13 12 1, ld 14 13, mv 15 1, ⟨some 16, .lookup 1 (.int .i64 0) true (.s 14) (.s 15), none⟩, mv 10 16, ex 17 10 0, ex 18 10 1, mv 6 17, mv 7 18]
def a43r4 : LA := [mv 19 6, mv 20 7, mv 4 19, mv 5 20]
def a43c : ACode := (.seq (.reg 0 a43r0 [0, 1]) (.seq (.seq (.reg 0 a43r1 [0, 1, 9]) (.cond (.s 9) (.seq (.reg 0 a43r2 [4, 5]) .ret) .skip)) (.seq (.reg 0 a43r3 [6, 7]) (.seq (.reg 0 a43r4 [4, 5]) .ret))))
def a43 : AFn := ⟨[.slot 4, .slot 5], a43c⟩
theorem ok43 : fnOkB 43 a43 = true := by decide +kernel
def a47r0 : LA := [⟨some 2, .mov (.k (.nils)), none⟩]
def a47r1 : LA := [⟨some 3, .mov (.k (.nils)), none⟩]
def a47r2 : LA := [mi 4 0]
def a47r3 : LA := [mv 6 4, mv 7 0, le 8 7, bn 9 .lss 6 8]
def a47r4 : LA := [mv 12 0, mv 13 4, ia 14 13 12 13, lo 15 13 14, ⟨some 5, .alloc true [.int .i64 0, .int .i64 0, .int .i64 0, (strv []), .int .i64 0, .int .i64 0, .int .i64 0, .int .i64 0, .int .i64 0, (strv []), .nils, .nils, .nils] 0, none⟩, ⟨none, .store 13 (.s 5) (.s 15), none⟩]
def a47r5 : LA := [fd 16 5 0, ld 17 16, bi 18 .eql 17 .i64 3]
def a47r6 : LA := [mv 19 3, fd 20 5 1, ld 21 20, fd 22 5 3, ld 23 22, ⟨some 24, .build [.int .i64 0, (strv []), .int .i64 0] [(0, 1, (.s 21)), (1, 1, (.s 23)), (2, 1, (.k (.int .i64 (-1))))], none⟩, ⟨some 25, .lits 3 1 [.int .i64 0, (strv []), .int .i64 0] [(0, 3, (.s 24))], none⟩, ⟨some 26, .app 3 32 (.s 19) (.s 25) 0, none⟩, mv 3 26]
def a47r7 : LA := [mv 27 3, fd 28 5 4, lo 29 7 28, ⟨some 30, .call 48 [(.s 29)] false, none⟩, ⟨some 31, .app 3 32 (.s 27) (.s 30) 0, none⟩, mv 3 31]
def a47r8 : LA := [fd 32 5 0, ld 33 32, bi 34 .eql 33 .i64 1, mv 35 34, ⟨some 36, .fadr (.s 5) 0, (some (35, false))⟩, ⟨some 37, .load none (.s 36), (some (35, false))⟩, ⟨some 38, .bin .eql (.s 37) (.k (.int .i64 2)), (some (35, false))⟩, ⟨some 39, .pick (.s 35) (.k (.bool true)) (.s 38), none⟩]
def a47r9 : LA := [mv 40 3, fd 41 5 11, ld 42 41, ⟨some 43, .call 47 [(.s 42)] false, none⟩, ⟨some 44, .app 3 32 (.s 40) (.s 43) 0, none⟩, mv 3 44]
def a47r10 : LA := [mv 45 3, fd 46 5 12, ld 47 46, ⟨some 48, .call 47 [(.s 47)] false, none⟩, ⟨some 49, .app 3 32 (.s 45) (.s 48) 0, none⟩, mv 3 49]
def a47r11 : LA := [mv 10 4, bi 11 .add 10 .i64 1, mv 4 11]
def a47l0 : ACode := (.seq (.seq (.reg 0 a47r3 [0, 3, 4, 9]) (.cond (.s 9) .skip (.exit 0))) (.seq (.block 1 (.seq (.reg 0 a47r4 [0, 3, 4, 5]) (.seq (.seq (.reg 0 a47r5 [0, 3, 4, 5, 18]) (.cond (.s 18) (.seq (.reg 1 a47r6 [0, 3, 4]) (.exit 1)) .skip)) (.seq (.reg 1 a47r7 [0, 3, 4, 5]) (.seq (.reg 0 a47r8 [0, 3, 4, 5, 39]) (.cond (.s 39) (.seq (.reg 1 a47r9 [0, 3, 4, 5]) (.reg 1 a47r10 [0, 3, 4])) .skip)))))) (.reg 0 a47r11 [0, 3, 4])))
def a47r12 : LA := [mv 50 3, mv 2 50]
def a47c : ACode := (.seq (.reg 0 a47r0 [0]) (.seq (.reg 0 a47r1 [0, 3]) (.seq (.seq (.reg 0 a47r2 [0, 3, 4]) (.block 0 (.loop a47l0))) (.seq (.reg 0 a47r12 [2]) .ret))))
def a47 : AFn := ⟨[.slot 2], a47c⟩
theorem ok47 : fnOkB 47 a47 = true := by decide +kernel
def a48r0 : LA := [⟨some 1, .box true (.s 0) 0, none⟩, ⟨some 2, .mov (.k (.nils)), none⟩]
def a48r1 : LA := [⟨some 3, .mov (.k (.nils)), none⟩]
def a48r2 : LA := [mi 4 0]
def a48r3 : LA := [mv 5 4, fd 6 1 6, ld 7 6, le 8 7, bn 9 .lss 5 8]
def a48r4 : LA := [mv 12 3, fd 13 1 6, ld 14 13, mv 15 4, ia 16 7 14 15, lo 17 7 16, ⟨some 18, .call 48 [(.s 17)] false, none⟩, ⟨some 19, .app 3 32 (.s 12) (.s 18) 0, none⟩, mv 3 19]
def a48r5 : LA := [mv 10 4, bi 11 .add 10 .i64 1, mv 4 11]
def a48l0 : ACode := (.seq (.seq (.reg 0 a48r3 [1, 3, 4, 9]) (.cond (.s 9) .skip (.exit 0))) (.seq (.block 1 (.reg 1 a48r4 [1, 3, 4])) (.reg 0 a48r5 [1, 3, 4])))
def a48r6 : LA := [fd 20 1 0, ld 21 20, bi 22 .eql 21 .i64 3]
def a48r7 : LA := [mv 23 3, fd 24 1 1, ld 25 24, fd 26 1 4, ld 27 26, ⟨some 28, .build [.int .i64 0, (strv []), .int .i64 0] [(0, 1, (.s 25)), (1, 1, (.k ((strv [])))), (2, 1, (.s 27))], none⟩, ⟨some 29, .lits 3 1 [.int .i64 0, (strv []), .int .i64 0] [(0, 3, (.s 28))], none⟩, ⟨some 30, .app 3 32 (.s 23) (.s 29) 0, none⟩, mv 3 30]
def a48r8 : LA := [mv 31 3, mv 2 31]
def a48c : ACode := (.seq (.reg 0 a48r0 [1]) (.seq (.reg 0 a48r1 [1, 3]) (.seq (.seq (.reg 0 a48r2 [1, 3, 4]) (.block 0 (.loop a48l0))) (.seq (.seq (.reg 0 a48r6 [1, 3, 22]) (.cond (.s 22) (.reg 1 a48r7 [3]) .skip)) (.seq (.reg 0 a48r8 [2]) .ret)))))
def a48 : AFn := ⟨[.slot 2], a48c⟩
theorem ok48 : fnOkB 48 a48 = true := by decide +kernel
def a50r0 : LA := [⟨some 1, .box false (.s 0) 0, none⟩, ⟨some 2, .mov (.k (.nilp)), none⟩]
def a50r1 : LA := [lo 4 2 1, ⟨some 5, .build [.nils, .nils, .nilf, .bool false] [(0, 2, (.s 4))], none⟩, ⟨some 6, .box false (.s 5) 0, none⟩, mv 3 6]
def a50r2 : LA := [mv 7 3, ⟨some 8, .mkfn 75 [(.s 1)], none⟩, nk 9 7, fd 10 9 2, ⟨none, .store 1 (.s 10) (.s 8), none⟩]
def a50r3 : LA := [mv 11 3, fd 12 1 0, ld 13 12, le 14 13, bi 15 .gtr 14 .i64 512, nk 16 11, fd 17 16 3, ⟨none, .store 1 (.s 17) (.s 15), none⟩]
def a50r4 : LA := [mv 18 3, mv 2 18]
def a50c : ACode := (.seq (.reg 1 a50r0 [1]) (.seq (.reg 1 a50r1 [1, 3]) (.seq (.reg 0 a50r2 [1, 3]) (.seq (.reg 0 a50r3 [3]) (.seq (.reg 0 a50r4 [2]) .ret)))))
def a50 : AFn := ⟨[.slot 2], a50c⟩
theorem ok50 : fnOkB 50 a50 = true := by decide +kernel
/- slices.ContainsFunc[[]int,int] -/
def a51r0 : LA := [mb 4 false]
def a51r1 : LA := [mv 5 0, mv 6 1, ⟨some 7, .call 76 [(.s 5), (.s 6)] false, none⟩, bi 8 .geq 7 .i64 0, mv 4 8]
def a51c : ACode := (.seq (.reg 0 a51r0 [0, 1]) (.seq (.reg 0 a51r1 [4]) .ret))
def a51 : AFn := ⟨[.slot 4], a51c⟩
theorem ok51 : fnOkB 51 a51 = true := by decide +kernel
def a52r0 : LA := [mb 3 false]
def a52r1 : LA := [ld 4 1, nk 5 4, fd 6 5 2, ld 7 6, mv 8 0, ⟨some 9, .callv (.s 7) [(.s 8)] false, none⟩, ⟨some 10, .un .not (.s 9), none⟩, mv 3 10]
def a52c : ACode := (.seq (.reg 0 a52r0 [0, 1]) (.seq (.reg 0 a52r1 [3]) .ret))
def a52 : AFn := ⟨[.slot 3], a52c⟩
theorem ok52 : fnOkB 52 a52 = true := by decide +kernel
/- (*blazon/typing.walker).acts -/
def a53r0 : LA := [mv 8 1, le 9 8, mi 10 0]
def a53r1 : LA := [bn 11 .lss 10 9]
def a53r2 : LA := [ia 12 13 8 10, lo 13 13 12, ⟨some 7, .alloc true [.int .i64 0, .int .i64 0, .int .i64 0, (strv []), .int .i64 0, .int .i64 0, .int .i64 0, .int .i64 0, .int .i64 0, (strv []), .nils, .nils, .nils] 0, none⟩, ⟨none, .store 13 (.s 7) (.s 13), none⟩]
def a53d3 : LD := [⟨mv 14 0, 0, [0], 0, [], []⟩, ⟨mv 15 0, 1, [0], 0, [], []⟩, ⟨nk 16 15, 2, [15], 0, [], [1]⟩, ⟨fd 17 16 3, 3, [16], 0, [], [1, 2]⟩, ⟨ld 18 17, 4, [17], 1, [], [1, 2, 3]⟩, ⟨mv 19 18, 5, [18], 0, [], [1, 2, 3, 4]⟩, ⟨⟨some 20, .fadr (.s 7) 0, (some (19, false))⟩, 6, [7, 19], 0, [], [1, 2, 3, 4, 5]⟩, ⟨⟨some 21, .load none (.s 20), (some (19, false))⟩, 7, [7, 19, 20], 1, [], [1, 2, 3, 4, 5, 6]⟩, ⟨⟨some 22, .bin .lss (.s 21) (.k (.int .i64 0)), (some (19, false))⟩, 8, [19, 21], 0, [], [1, 2, 3, 4, 5, 6, 7]⟩, ⟨⟨some 23, .pick (.s 19) (.k (.bool true)) (.s 22), none⟩, 9, [19, 22], 0, [], [1, 2, 3, 4, 5, 6, 7, 8]⟩, ⟨mv 24 23, 10, [23], 0, [], [1, 2, 3, 4, 5, 6, 7, 8, 9]⟩, ⟨⟨some 25, .fadr (.s 7) 0, (some (24, false))⟩, 11, [7, 24], 0, [], [1, 2, 3, 4, 5, 6, 7, 8, 9, 10]⟩, ⟨⟨some 26, .load none (.s 25), (some (24, false))⟩, 12, [7, 24, 25], 1, [], [1, 2, 3, 4, 5, 6, 7, 8, 9, 10, 11]⟩, ⟨⟨some 27, .bin .gtr (.s 26) (.k (.int .i64 4)), (some (24, false))⟩, 13, [24, 26], 0, [], [1, 2, 3, 4, 5, 6, 7, 8, 9, 10, 11, 12]⟩, ⟨⟨some 28, .pick (.s 24) (.k (.bool true)) (.s 27), none⟩, 14, [24, 27], 0, [], [1, 2, 3, 4, 5, 6, 7, 8, 9, 10, 11, 12, 13]⟩, ⟨mv 29 28, 15, [28], 0, [], [1, 2, 3, 4, 5, 6, 7, 8, 9, 10, 11, 12, 13, 14]⟩, ⟨mg 30 2 29 false, 16, [2, 29], 0, [], [1, 2, 3, 4, 5, 6, 7, 8, 9, 10, 11, 12, 13, 14, 15]⟩, ⟨⟨some 31, .bin .gtr (.s 30) (.k (.int .i64 64)), (some (29, false))⟩, 17, [29, 30], 0, [], [1, 2, 3, 4, 5, 6, 7, 8, 9, 10, 11, 12, 13, 14, 15, 16]⟩, ⟨⟨some 32, .pick (.s 29) (.k (.bool true)) (.s 31), none⟩, 18, [29, 31], 0, [], [1, 2, 3, 4, 5, 6, 7, 8, 9, 10, 11, 12, 13, 14, 15, 16, 17]⟩, ⟨mv 33 32, 19, [32], 0, [], [1, 2, 3, 4, 5, 6, 7, 8, 9, 10, 11, 12, 13, 14, 15, 16, 17, 18]⟩, ⟨⟨some 34, .fadr (.s 7) 0, (some (33, false))⟩, 20, [7, 33], 0, [], [1, 2, 3, 4, 5, 6, 7, 8, 9, 10, 11, 12, 13, 14, 15, 16, 17, 18, 19]⟩, ⟨⟨some 35, .load none (.s 34), (some (33, false))⟩, 21, [7, 33, 34], 1, [], [1, 2, 3, 4, 5, 6, 7, 8, 9, 10, 11, 12, 13, 14, 15, 16, 17, 18, 19, 20]⟩, ⟨⟨some 36, .bin .eql (.s 35) (.k (.int .i64 0)), (some (33, false))⟩, 22, [33, 35], 0, [], [1, 2, 3, 4, 5, 6, 7, 8, 9, 10, 11, 12, 13, 14, 15, 16, 17, 18, 19, 20, 21]⟩, ⟨mg 37 36 33 false, 23, [33, 36], 0, [], [1, 2, 3, 4, 5, 6, 7, 8, 9, 10, 11, 12, 13, 14, 15, 16, 17, 18, 19, 20, 21, 22]⟩, ⟨mg 38 0 37 true, 24, [0, 37], 0, [], [1, 2, 3, 4, 5, 6, 7, 8, 9, 10, 11, 12, 13, 14, 15, 16, 17, 18, 19, 20, 21, 22, 23]⟩, ⟨⟨some 39, .nilck (.s 38), (some (37, true))⟩, 25, [37, 38], 0, [], [1, 2, 3, 4, 5, 6, 7, 8, 9, 10, 11, 12, 13, 14, 15, 16, 17, 18, 19, 20, 21, 22, 23, 24]⟩, ⟨⟨some 40, .fadr (.s 39) 2, (some (37, true))⟩, 26, [37, 39], 0, [], [1, 2, 3, 4, 5, 6, 7, 8, 9, 10, 11, 12, 13, 14, 15, 16, 17, 18, 19, 20, 21, 22, 23, 24, 25]⟩, ⟨⟨some 41, .load none (.s 40), (some (37, true))⟩, 27, [37, 40], 1, [], [1, 2, 3, 4, 5, 6, 7, 8, 9, 10, 11, 12, 13, 14, 15, 16, 17, 18, 19, 20, 21, 22, 23, 24, 25, 26]⟩, ⟨⟨some 42, .fadr (.s 7) 2, (some (37, true))⟩, 28, [7, 37], 0, [], [1, 2, 3, 4, 5, 6, 7, 8, 9, 10, 11, 12, 13, 14, 15, 16, 17, 18, 19, 20, 21, 22, 23]⟩, ⟨⟨some 43, .load none (.s 42), (some (37, true))⟩, 29, [7, 37, 42], 1, [], [1, 2, 3, 4, 5, 6, 7, 8, 9, 10, 11, 12, 13, 14, 15, 16, 17, 18, 19, 20, 21, 22, 23, 28]⟩, ⟨⟨some 44, .callv (.s 41) [(.s 43)] false, (some (37, true))⟩, 30, [37, 41, 43], 4, [], [1, 2, 3, 4, 5, 6, 7, 8, 9, 10, 11, 12, 13, 14, 15, 16, 17, 18, 19, 20, 21, 22, 23, 24, 25, 26, 27, 28, 29]⟩, ⟨⟨some 45, .un .not (.s 44), (some (37, true))⟩, 31, [37, 44], 0, [], [1, 2, 3, 4, 5, 6, 7, 8, 9, 10, 11, 12, 13, 14, 15, 16, 17, 18, 19, 20, 21, 22, 23, 24, 25, 26, 27, 28, 29, 30]⟩, ⟨⟨some 46, .pick (.s 37) (.s 45) (.k (.bool false)), (some (33, false))⟩, 32, [33, 37, 45], 0, [], [1, 2, 3, 4, 5, 6, 7, 8, 9, 10, 11, 12, 13, 14, 15, 16, 17, 18, 19, 20, 21, 22, 23, 24, 25, 26, 27, 28, 29, 30, 31]⟩, ⟨⟨some 47, .pick (.s 33) (.k (.bool true)) (.s 46), none⟩, 33, [33, 46], 0, [], [1, 2, 3, 4, 5, 6, 7, 8, 9, 10, 11, 12, 13, 14, 15, 16, 17, 18, 19, 20, 21, 22, 23, 24, 25, 26, 27, 28, 29, 30, 31, 32]⟩, ⟨nk 48 14, 34, [14], 0, [], (List.range 34)⟩, ⟨fd 49 48 3, 35, [48], 0, [], (List.range 35)⟩, ⟨⟨none, .store 1 (.s 49) (.s 47), none⟩, 36, [47, 49], 4, [], (List.range 36)⟩]
def a53r4 : LA := [mv 50 0, nk 51 50, fd 52 51 3, ld 53 52]
def a53r5 : LA := [fd 54 7 0, ld 55 54, bi 56 .neq 55 .i64 3]
def a53r6 : LA := [mv 57 0, fd 58 7 4, lo 59 7 58, ⟨some 60, .call 54 [(.s 57), (.s 59), (.k (.int .i64 1))] false, none⟩]
def a53r7 : LA := [fd 61 7 0, ld 62 61, bi 63 .eql 62 .i64 1, mv 64 63, ⟨some 65, .fadr (.s 7) 0, (some (64, false))⟩, ⟨some 66, .load none (.s 65), (some (64, false))⟩, ⟨some 67, .bin .eql (.s 66) (.k (.int .i64 2)), (some (64, false))⟩, ⟨some 68, .pick (.s 64) (.k (.bool true)) (.s 67), none⟩]
def a53r8 : LA := [mv 69 0, fd 70 7 11, ld 71 70, mv 72 2, bi 73 .add 72 .i64 1, ⟨some 74, .call 53 [(.s 69), (.s 71), (.s 73)] false, none⟩]
def a53r9 : LA := [mv 75 0, fd 76 7 12, ld 77 76, mv 78 2, bi 79 .add 78 .i64 1, ⟨some 80, .call 53 [(.s 75), (.s 77), (.s 79)] false, none⟩]
def a53r10 : LA := [bi 81 .add 10 .i64 1, mv 10 81]
def a53l0 : ACode := (.seq (.reg 0 a53r1 [0, 2, 8, 9, 10, 11]) (.seq (.cond (.s 11) .skip (.exit 0)) (.seq (.block 1 (.seq (.reg 0 a53r2 [0, 2, 7, 8, 9, 10]) (.seq (.dreg 0 a53d3 [0, 2, 7, 8, 9, 10]) (.seq (.seq (.reg 0 a53r4 [0, 2, 7, 8, 9, 10, 53]) (.cond (.s 53) .ret .skip)) (.seq (.seq (.reg 0 a53r5 [0, 2, 7, 8, 9, 10, 56]) (.cond (.s 56) (.reg 0 a53r6 [0, 2, 7, 8, 9, 10]) .skip)) (.seq (.reg 0 a53r7 [0, 2, 7, 8, 9, 10, 68]) (.cond (.s 68) (.seq (.reg 0 a53r8 [0, 2, 7, 8, 9, 10]) (.reg 0 a53r9 [0, 2, 8, 9, 10])) .skip))))))) (.reg 0 a53r10 [0, 2, 8, 9, 10]))))
def a53c : ACode := (.seq (.reg 0 a53r0 [0, 2, 8, 9, 10]) (.block 0 (.loop a53l0)))
def a53 : AFn := ⟨[], a53c⟩
theorem ok53 : fnOkB 53 a53 = true := by decide +kernel
/- (*blazon/typing.walker).code -/
def a54r0 : LA := [⟨some 4, .box true (.s 1) 0, none⟩]
def a54r1 : LA := [mi 6 (-1)]
def a54r2 : LA := [fd 9 4 0, ld 10 9]
def a54r3 : LA := [bi 12 .eql 10 .i64 0, mv 11 12]
def a54r4 : LA := [bi 13 .eql 10 .i64 1, mv 11 13]
def a54r5 : LA := [mi 6 0]
def a54r6 : LA := [bi 15 .eql 10 .i64 2, mv 14 15]
def a54r7 : LA := [mi 6 0]
def a54d8 : LD := [⟨mv 16 0, 0, [0], 0, [], []⟩, ⟨mv 17 0, 1, [0], 0, [], []⟩, ⟨nk 18 17, 2, [17], 0, [], [1]⟩, ⟨fd 19 18 3, 3, [18], 0, [], [1, 2]⟩, ⟨ld 20 19, 4, [19], 1, [], [1, 2, 3]⟩, ⟨mv 21 20, 5, [20], 0, [], [1, 2, 3, 4]⟩, ⟨mg 22 0 21 false, 6, [0, 21], 0, [], [1, 2, 3, 4, 5]⟩, ⟨⟨some 23, .nilck (.s 22), (some (21, false))⟩, 7, [21, 22], 0, [], [1, 2, 3, 4, 5, 6]⟩, ⟨⟨some 24, .fadr (.s 23) 2, (some (21, false))⟩, 8, [21, 23], 0, [], [1, 2, 3, 4, 5, 6, 7]⟩, ⟨⟨some 25, .load none (.s 24), (some (21, false))⟩, 9, [21, 24], 1, [], [1, 2, 3, 4, 5, 6, 7, 8]⟩, ⟨⟨some 26, .fadr (.s 4) 3, (some (21, false))⟩, 10, [4, 21], 0, [], [1, 2, 3, 4, 5]⟩, ⟨⟨some 27, .load none (.s 26), (some (21, false))⟩, 11, [4, 21, 26], 1, [], [1, 2, 3, 4, 5, 10]⟩, ⟨⟨some 28, .callv (.s 25) [(.s 27)] false, (some (21, false))⟩, 12, [21, 25, 27], 4, [], [1, 2, 3, 4, 5, 6, 7, 8, 9, 10, 11]⟩, ⟨⟨some 29, .un .not (.s 28), (some (21, false))⟩, 13, [21, 28], 0, [], [1, 2, 3, 4, 5, 6, 7, 8, 9, 10, 11, 12]⟩, ⟨⟨some 30, .pick (.s 21) (.k (.bool true)) (.s 29), none⟩, 14, [21, 29], 0, [], [1, 2, 3, 4, 5, 6, 7, 8, 9, 10, 11, 12, 13]⟩, ⟨nk 31 16, 15, [16], 0, [], (List.range 15)⟩, ⟨fd 32 31 3, 16, [31], 0, [], (List.range 16)⟩, ⟨⟨none, .store 1 (.s 32) (.s 30), none⟩, 17, [30, 32], 4, [], (List.range 17)⟩]
def a54r9 : LA := [bi 34 .eql 10 .i64 3, mv 33 34]
def a54r10 : LA := [fd 35 4 6, ld 36 35, le 37 36, mv 6 37]
def a54d11 : LD := [⟨mv 38 0, 0, [0], 0, [], []⟩, ⟨mv 39 0, 1, [0], 0, [], []⟩, ⟨nk 40 39, 2, [39], 0, [], [1]⟩, ⟨fd 41 40 3, 3, [40], 0, [], [1, 2]⟩, ⟨ld 42 41, 4, [41], 1, [], [1, 2, 3]⟩, ⟨mv 43 42, 5, [42], 0, [], [1, 2, 3, 4]⟩, ⟨⟨some 44, .fadr (.s 4) 4, (some (43, false))⟩, 6, [4, 43], 0, [], [1, 2, 3, 4, 5]⟩, ⟨⟨some 45, .load none (.s 44), (some (43, false))⟩, 7, [4, 43, 44], 1, [], [1, 2, 3, 4, 5, 6]⟩, ⟨⟨some 46, .bin .lss (.s 45) (.k (.int .i64 0)), (some (43, false))⟩, 8, [43, 45], 0, [], [1, 2, 3, 4, 5, 6, 7]⟩, ⟨⟨some 47, .pick (.s 43) (.k (.bool true)) (.s 46), none⟩, 9, [43, 46], 0, [], [1, 2, 3, 4, 5, 6, 7, 8]⟩, ⟨mv 48 47, 10, [47], 0, [], [1, 2, 3, 4, 5, 6, 7, 8, 9]⟩, ⟨⟨some 49, .fadr (.s 4) 4, (some (48, false))⟩, 11, [4, 48], 0, [], [1, 2, 3, 4, 5, 6, 7, 8, 9, 10]⟩, ⟨⟨some 50, .load none (.s 49), (some (48, false))⟩, 12, [4, 48, 49], 1, [], [1, 2, 3, 4, 5, 6, 7, 8, 9, 10, 11]⟩, ⟨mg 51 0 48 false, 13, [0, 48], 0, [], [1, 2, 3, 4, 5, 6, 7, 8, 9, 10]⟩, ⟨⟨some 52, .nilck (.s 51), (some (48, false))⟩, 14, [48, 51], 0, [], [1, 2, 3, 4, 5, 6, 7, 8, 9, 10, 13]⟩, ⟨⟨some 53, .fadr (.s 52) 0, (some (48, false))⟩, 15, [48, 52], 0, [], [1, 2, 3, 4, 5, 6, 7, 8, 9, 10, 13, 14]⟩, ⟨⟨some 54, .fadr (.s 53) 1, (some (48, false))⟩, 16, [48, 53], 0, [], [1, 2, 3, 4, 5, 6, 7, 8, 9, 10, 13, 14, 15]⟩, ⟨⟨some 55, .load none (.s 54), (some (48, false))⟩, 17, [48, 54], 1, [], [1, 2, 3, 4, 5, 6, 7, 8, 9, 10, 13, 14, 15, 16]⟩, ⟨⟨some 56, .len 1 (.s 55), (some (48, false))⟩, 18, [48, 55], 0, [], [1, 2, 3, 4, 5, 6, 7, 8, 9, 10, 13, 14, 15, 16, 17]⟩, ⟨⟨some 57, .bin .geq (.s 50) (.s 56), (some (48, false))⟩, 19, [48, 50, 56], 0, [], [1, 2, 3, 4, 5, 6, 7, 8, 9, 10, 11, 12, 13, 14, 15, 16, 17, 18]⟩, ⟨⟨some 58, .pick (.s 48) (.k (.bool true)) (.s 57), none⟩, 20, [48, 57], 0, [], [1, 2, 3, 4, 5, 6, 7, 8, 9, 10, 11, 12, 13, 14, 15, 16, 17, 18, 19]⟩, ⟨nk 59 38, 21, [38], 0, [], (List.range 21)⟩, ⟨fd 60 59 3, 22, [59], 0, [], (List.range 22)⟩, ⟨⟨none, .store 1 (.s 60) (.s 58), none⟩, 23, [58, 60], 4, [], (List.range 23)⟩]
def a54r12 : LA := [bi 62 .eql 10 .i64 4, mv 61 62]
def a54r13 : LA := [bi 63 .eql 10 .i64 6, mv 61 63]
def a54r14 : LA := [mi 6 1]
def a54r15 : LA := [bi 65 .eql 10 .i64 5, mv 64 65]
def a54r16 : LA := [mi 6 2]
def a54r17 : LA := [mv 66 0, mv 67 0, nk 68 67, fd 69 68 3, ld 70 69, mv 71 70, mg 72 6 71 false, ⟨some 73, .fadr (.s 4) 6, (some (71, false))⟩, ⟨some 74, .load none (.s 73), (some (71, false))⟩, ⟨some 75, .len 1 (.s 74), (some (71, false))⟩, ⟨some 76, .bin .neq (.s 72) (.s 75), (some (71, false))⟩, ⟨some 77, .pick (.s 71) (.k (.bool true)) (.s 76), none⟩, mv 78 77, mg 79 2 78 false, ⟨some 80, .bin .gtr (.s 79) (.k (.int .i64 64)), (some (78, false))⟩, ⟨some 81, .pick (.s 78) (.k (.bool true)) (.s 80), none⟩, nk 82 66, fd 83 82 3, ⟨none, .store 1 (.s 83) (.s 81), none⟩]
def a54r18 : LA := [mv 84 0, nk 85 84, fd 86 85 3, ld 87 86]
def a54r19 : LA := [fd 88 4 6, ld 89 88, le 90 89, mi 91 0]
def a54r20 : LA := [bn 92 .lss 91 90]
def a54r21 : LA := [ia 93 7 89 91, lo 94 7 93, ⟨some 8, .alloc true [.int .i64 0, .int .i64 0, .int .i64 0, .int .i64 0, .int .i64 0, (strv []), .nils] 0, none⟩, ⟨none, .store 7 (.s 8) (.s 94), none⟩]
def a54r22 : LA := [mv 95 0, lo 96 7 8, mv 97 2, bi 98 .add 97 .i64 1, ⟨some 99, .call 54 [(.s 95), (.s 96), (.s 98)] false, none⟩]
def a54r23 : LA := [bi 100 .add 91 .i64 1, mv 91 100]
def a54l0 : ACode := (.seq (.reg 0 a54r20 [0, 2, 89, 90, 91, 92]) (.seq (.cond (.s 92) .skip (.exit 1)) (.seq (.block 2 (.seq (.reg 0 a54r21 [0, 2, 8, 89, 90, 91]) (.reg 0 a54r22 [0, 2, 89, 90, 91]))) (.reg 0 a54r23 [0, 2, 89, 90, 91]))))
def a54c : ACode := (.seq (.reg 0 a54r0 [0, 2, 4]) (.seq (.reg 0 a54r1 [0, 2, 4, 6]) (.seq (.seq (.reg 0 a54r2 [0, 2, 4, 6, 10]) (.block 0 (.seq (.seq (.reg 0 a54r3 [0, 2, 4, 6, 10, 11]) (.cond (.s 11) .skip (.reg 0 a54r4 [0, 2, 4, 6, 10, 11]))) (.cond (.s 11) (.reg 0 a54r5 [0, 2, 4, 6]) (.seq (.reg 0 a54r6 [0, 2, 4, 6, 10, 14]) (.cond (.s 14) (.seq (.reg 0 a54r7 [0, 2, 4, 6]) (.dreg 0 a54d8 [0, 2, 4, 6])) (.seq (.reg 0 a54r9 [0, 2, 4, 6, 10, 33]) (.cond (.s 33) (.seq (.reg 0 a54r10 [0, 2, 4, 6]) (.dreg 0 a54d11 [0, 2, 4, 6])) (.seq (.seq (.reg 0 a54r12 [0, 2, 4, 6, 10, 61]) (.cond (.s 61) .skip (.reg 0 a54r13 [0, 2, 4, 6, 10, 61]))) (.cond (.s 61) (.reg 0 a54r14 [0, 2, 4, 6]) (.seq (.reg 0 a54r15 [0, 2, 4, 6, 64]) (.cond (.s 64) (.reg 0 a54r16 [0, 2, 4, 6]) .skip)))))))))))) (.seq (.seq (.reg 0 a54r17 [0, 2, 4]) (.seq (.reg 0 a54r18 [0, 2, 4, 87]) (.cond (.s 87) .ret .skip))) (.seq (.reg 0 a54r19 [0, 2, 89, 90, 91]) (.block 1 (.loop a54l0)))))))
def a54 : AFn := ⟨[], a54c⟩
theorem ok54 : fnOkB 54 a54 = true := by decide +kernel
def a55r0 : LA := [⟨some 2, .mov (.k (.nils)), none⟩]
def a55r1 : LA := [mv 5 0, le 6 5, mi 7 0]
def a55r2 : LA := [bn 8 .lss 7 6]
def a55r3 : LA := [ia 9 13 5 7, lo 10 13 9, ⟨some 4, .alloc true [.int .i64 0, .int .i64 0, .int .i64 0, (strv []), .int .i64 0, .int .i64 0, .int .i64 0, .int .i64 0, .int .i64 0, (strv []), .nils, .nils, .nils] 0, none⟩, ⟨none, .store 13 (.s 4) (.s 10), none⟩]
def a55r4 : LA := [fd 11 4 0, ld 12 11, bi 13 .eql 12 .i64 3]
def a55r5 : LA := [mv 14 2, fd 15 4 1, ld 16 15, fd 17 4 3, ld 18 17, ⟨some 19, .build [.int .i64 0, (strv []), .int .i64 0] [(0, 1, (.s 16)), (1, 1, (.s 18)), (2, 1, (.k (.int .i64 (-1))))], none⟩, ⟨some 20, .lits 3 1 [.int .i64 0, (strv []), .int .i64 0] [(0, 3, (.s 19))], none⟩, ⟨some 21, .app 3 32 (.s 14) (.s 20) 0, none⟩, mv 2 21]
def a55r6 : LA := [mv 22 2, fd 23 4 4, lo 24 7 23, ⟨some 25, .call 56 [(.s 24)] false, none⟩, ⟨some 26, .app 3 32 (.s 22) (.s 25) 0, none⟩, mv 2 26]
def a55r7 : LA := [fd 27 4 0, ld 28 27, bi 29 .eql 28 .i64 1, mv 30 29, ⟨some 31, .fadr (.s 4) 0, (some (30, false))⟩, ⟨some 32, .load none (.s 31), (some (30, false))⟩, ⟨some 33, .bin .eql (.s 32) (.k (.int .i64 2)), (some (30, false))⟩, ⟨some 34, .pick (.s 30) (.k (.bool true)) (.s 33), none⟩]
def a55d8 : LD := [⟨mv 35 2, 0, [2], 0, [], []⟩, ⟨fd 36 4 11, 1, [4], 0, [], []⟩, ⟨ld 37 36, 2, [4, 36], 1, [], [1]⟩, ⟨fd 40 4 12, 5, [4], 0, [], []⟩, ⟨ld 41 40, 6, [4, 40], 1, [], [3]⟩, ⟨⟨some 38, .call 55 [(.s 37)] false, none⟩, 3, [37], 4, [4], [1, 2]⟩, ⟨⟨some 39, .app 3 32 (.s 35) (.s 38) 0, none⟩, 4, [35, 38], 4, [4], [0, 1, 2, 5]⟩, ⟨⟨some 42, .call 55 [(.s 41)] false, none⟩, 7, [41], 4, [], (List.range 7)⟩, ⟨⟨some 43, .app 3 32 (.s 39) (.s 42) 1, none⟩, 8, [39, 42], 4, [], (List.range 8)⟩, ⟨mv 2 43, 9, [43], 3, [], (List.range 9)⟩]
def a55r9 : LA := [bi 44 .add 7 .i64 1, mv 7 44]
def a55l0 : ACode := (.seq (.reg 0 a55r2 [2, 5, 6, 7, 8]) (.seq (.cond (.s 8) .skip (.exit 0)) (.seq (.block 1 (.seq (.reg 0 a55r3 [2, 4, 5, 6, 7]) (.seq (.seq (.reg 0 a55r4 [2, 4, 5, 6, 7, 13]) (.cond (.s 13) (.seq (.reg 1 a55r5 [2, 5, 6, 7]) (.exit 1)) .skip)) (.seq (.reg 1 a55r6 [2, 4, 5, 6, 7]) (.seq (.reg 0 a55r7 [2, 4, 5, 6, 7, 34]) (.cond (.s 34) (.dreg 2 a55d8 [2, 5, 6, 7]) .skip)))))) (.reg 0 a55r9 [2, 5, 6, 7]))))
def a55r10 : LA := [mv 45 2, mv 2 45]
def a55c : ACode := (.seq (.reg 0 a55r0 [0, 2]) (.seq (.seq (.reg 0 a55r1 [2, 5, 6, 7]) (.block 0 (.loop a55l0))) (.seq (.reg 0 a55r10 [2]) .ret)))
def a55 : AFn := ⟨[.slot 2], a55c⟩
theorem ok55 : fnOkB 55 a55 = true := by decide +kernel
def a56r0 : LA := [⟨some 1, .box true (.s 0) 0, none⟩, ⟨some 2, .mov (.k (.nils)), none⟩]
def a56r1 : LA := [fd 5 1 6, ld 6 5, le 7 6, mi 8 0]
def a56r2 : LA := [bn 9 .lss 8 7]
def a56r3 : LA := [ia 10 7 6 8, lo 11 7 10, ⟨some 4, .alloc true [.int .i64 0, .int .i64 0, .int .i64 0, .int .i64 0, .int .i64 0, (strv []), .nils] 0, none⟩, ⟨none, .store 7 (.s 4) (.s 11), none⟩]
def a56r4 : LA := [mv 12 2, lo 13 7 4, ⟨some 14, .call 56 [(.s 13)] false, none⟩, ⟨some 15, .app 3 32 (.s 12) (.s 14) 0, none⟩, mv 2 15]
def a56r5 : LA := [bi 16 .add 8 .i64 1, mv 8 16]
def a56l0 : ACode := (.seq (.reg 0 a56r2 [1, 2, 6, 7, 8, 9]) (.seq (.cond (.s 9) .skip (.exit 0)) (.seq (.block 1 (.seq (.reg 0 a56r3 [1, 2, 4, 6, 7, 8]) (.reg 1 a56r4 [1, 2, 6, 7, 8]))) (.reg 0 a56r5 [1, 2, 6, 7, 8]))))
def a56r6 : LA := [fd 17 1 0, ld 18 17, bi 19 .eql 18 .i64 3]
def a56r7 : LA := [mv 20 2, fd 21 1 1, ld 22 21, fd 23 1 4, ld 24 23, ⟨some 25, .build [.int .i64 0, (strv []), .int .i64 0] [(0, 1, (.s 22)), (1, 1, (.k ((strv [])))), (2, 1, (.s 24))], none⟩, ⟨some 26, .lits 3 1 [.int .i64 0, (strv []), .int .i64 0] [(0, 3, (.s 25))], none⟩, ⟨some 27, .app 3 32 (.s 20) (.s 26) 0, none⟩, mv 2 27]
def a56r8 : LA := [mv 28 2, mv 2 28]
def a56c : ACode := (.seq (.reg 0 a56r0 [1, 2]) (.seq (.seq (.reg 0 a56r1 [1, 2, 6, 7, 8]) (.block 0 (.loop a56l0))) (.seq (.seq (.reg 0 a56r6 [1, 2, 19]) (.cond (.s 19) (.reg 1 a56r7 [2]) .skip)) (.seq (.reg 0 a56r8 [2]) .ret))))
def a56 : AFn := ⟨[.slot 2], a56c⟩
theorem ok56 : fnOkB 56 a56 = true := by decide +kernel
/- (*blazon/effect.grouper).open -/
def a59r0 : LA := [⟨some 4, .alloc true [.int .i64 0, .int .i64 0] 0, none⟩]
def a59r1 : LA := [mv 5 0, nk 6 5, fd 7 6 7, ld 8 7, bi 9 .add 8 .i64 1, nk 10 5, fd 11 10 7, ⟨none, .store 1 (.s 11) (.s 9), none⟩]
def a59d2 : LD := [⟨mv 12 0, 0, [0], 0, [], []⟩, ⟨nk 13 12, 1, [12], 0, [], [0]⟩, ⟨fd 14 13 1, 2, [13], 0, [], [0, 1]⟩, ⟨ld 15 14, 3, [14], 1, [], [0, 1, 2]⟩, ⟨mv 16 1, 4, [1], 0, [], []⟩, ⟨mv 17 0, 5, [0], 0, [], []⟩, ⟨nk 18 17, 6, [17], 0, [], [5]⟩, ⟨fd 19 18 2, 7, [18], 0, [], [5, 6]⟩, ⟨ld 20 19, 8, [19], 1, [], [5, 6, 7]⟩, ⟨mv 21 1, 9, [1], 0, [], []⟩, ⟨mv 22 0, 10, [0], 0, [], []⟩, ⟨nk 23 22, 11, [22], 0, [], [10]⟩, ⟨fd 24 23 7, 12, [23], 0, [], [10, 11]⟩, ⟨ld 25 24, 13, [24], 1, [], [10, 11, 12]⟩, ⟨mv 26 0, 14, [0], 0, [], []⟩, ⟨nk 27 26, 15, [26], 0, [], [14]⟩, ⟨fd 28 27 7, 16, [27], 0, [], [14, 15]⟩, ⟨ld 29 28, 17, [28], 1, [], [14, 15, 16]⟩, ⟨ia 30 1 15 16, 18, [15, 16], 0, [], [0, 1, 2, 3, 4, 5, 6, 7, 8, 10, 11, 12, 13, 14, 15, 16, 17]⟩, ⟨⟨none, .store 1 (.s 30) (.s 25), none⟩, 19, [25, 30], 4, [], [0, 1, 2, 3, 4, 5, 6, 7, 8, 10, 11, 12, 13, 14, 15, 16, 17, 18]⟩, ⟨ia 31 1 20 21, 20, [20, 21], 0, [], (List.range 20)⟩, ⟨⟨none, .store 1 (.s 31) (.s 29), none⟩, 21, [29, 31], 4, [], (List.range 21)⟩]
def a59r3 : LA := [mv 32 0, nk 33 32, fd 34 33 3, ld 35 34, mv 36 1, ia 37 1 35 36, ⟨none, .store 1 (.s 37) (.k (.bool true)), none⟩]
def a59r4 : LA := [mv 38 0, mv 39 0, nk 40 39, fd 41 40 4, ld 42 41, mv 43 1, ⟨some 44, .lits 1 1 [.int .i64 0] [(0, 1, (.s 43))], none⟩, ⟨some 45, .app 1 8 (.s 42) (.s 44) 0, none⟩, nk 46 38, fd 47 46 4, ⟨none, .store 1 (.s 47) (.s 45), none⟩]
def a59r5 : LA := [mv 48 1, ⟨some 49, .build [.int .i64 0, .int .i64 0] [(0, 1, (.s 48)), (1, 1, (.k (.int .i64 0)))], none⟩, ⟨none, .store 2 (.s 4) (.s 49), none⟩]
def a59c : ACode := (.seq (.reg 0 a59r0 [0, 1, 4]) (.seq (.reg 0 a59r1 [0, 1, 4]) (.seq (.dreg 0 a59d2 [0, 1, 4]) (.seq (.reg 0 a59r3 [0, 1, 4]) (.seq (.reg 1 a59r4 [1, 4]) (.seq (.reg 0 a59r5 [4]) .ret))))))
def a59 : AFn := ⟨[.cell 4 (some 2)], a59c⟩
theorem ok59 : fnOkB 59 a59 = true := by decide +kernel
/- (*blazon/effect.grouper).shut -/
def a60d0 : LD := [⟨mv 5 0, 0, [0], 0, [], []⟩, ⟨nk 6 5, 1, [5], 0, [], [0]⟩, ⟨fd 7 6 2, 2, [6], 0, [], [0, 1]⟩, ⟨ld 8 7, 3, [7], 1, [], [0, 1, 2]⟩, ⟨mv 9 1, 4, [1], 0, [], []⟩, ⟨ia 10 1 8 9, 5, [8, 9], 0, [], [0, 1, 2, 3, 4]⟩, ⟨ld 11 10, 6, [10], 1, [], (List.range 6)⟩, ⟨mv 12 0, 7, [0], 0, [], []⟩, ⟨nk 13 12, 8, [12], 0, [], [7]⟩, ⟨fd 14 13 1, 9, [13], 0, [], [7, 8]⟩, ⟨ld 15 14, 10, [14], 1, [], [7, 8, 9]⟩, ⟨mv 16 1, 11, [1], 0, [], []⟩, ⟨ia 17 1 15 16, 12, [15, 16], 0, [], [7, 8, 9, 10, 11]⟩, ⟨ld 18 17, 13, [17], 1, [], [7, 8, 9, 10, 11, 12]⟩, ⟨bn 19 .neq 11 18, 14, [11, 18], 0, [], (List.range 14)⟩]
def a60d1 : LD := [⟨mv 20 0, 0, [0], 0, [], []⟩, ⟨nk 21 20, 1, [20], 0, [], [0]⟩, ⟨fd 22 21 4, 2, [21], 0, [], [0, 1]⟩, ⟨ld 23 22, 3, [22], 1, [], [0, 1, 2]⟩, ⟨mv 24 0, 4, [0], 0, [], []⟩, ⟨nk 25 24, 5, [24], 0, [], [4]⟩, ⟨fd 26 25 4, 6, [25], 0, [], [4, 5]⟩, ⟨ld 27 26, 7, [26], 1, [], [4, 5, 6]⟩, ⟨le 28 27, 8, [27], 0, [], [4, 5, 6, 7]⟩, ⟨bi 29 .sub 28 .i64 1, 9, [28], 0, [], [4, 5, 6, 7, 8]⟩, ⟨ia 30 1 23 29, 10, [23, 29], 0, [], (List.range 10)⟩, ⟨ld 31 30, 11, [30], 1, [], (List.range 11)⟩, ⟨mv 4 31, 12, [31], 3, [], (List.range 12)⟩]
def a60d2 : LD := [⟨mv 32 0, 0, [0], 0, [], []⟩, ⟨mv 33 0, 1, [0], 0, [], []⟩, ⟨nk 34 33, 2, [33], 0, [], [1]⟩, ⟨fd 35 34 4, 3, [34], 0, [], [1, 2]⟩, ⟨ld 36 35, 4, [35], 1, [], [1, 2, 3]⟩, ⟨mv 37 0, 5, [0], 0, [], []⟩, ⟨nk 38 37, 6, [37], 0, [], [5]⟩, ⟨fd 39 38 4, 7, [38], 0, [], [5, 6]⟩, ⟨ld 40 39, 8, [39], 1, [], [5, 6, 7]⟩, ⟨le 41 40, 9, [40], 0, [], [5, 6, 7, 8]⟩, ⟨bi 42 .sub 41 .i64 1, 10, [41], 0, [], [5, 6, 7, 8, 9]⟩, ⟨⟨some 43, .slice (some 1) (.s 36) none (some (.s 42)) none, none⟩, 11, [36, 42], 0, [], [1, 2, 3, 4, 5, 6, 7, 8, 9, 10]⟩, ⟨nk 44 32, 12, [32], 0, [], (List.range 12)⟩, ⟨fd 45 44 4, 13, [44], 0, [], (List.range 13)⟩, ⟨⟨none, .store 1 (.s 45) (.s 43), none⟩, 14, [43, 45], 4, [], (List.range 14)⟩]
def a60r3 : LA := [mv 46 0, nk 47 46, fd 48 47 3, ld 49 48, mv 50 4, ia 51 1 49 50, ⟨none, .store 1 (.s 51) (.k (.bool false)), none⟩]
def a60d4 : LD := [⟨mv 52 0, 0, [0], 0, [], []⟩, ⟨nk 53 52, 1, [52], 0, [], [0]⟩, ⟨fd 54 53 5, 2, [53], 0, [], [0, 1]⟩, ⟨ld 55 54, 3, [54], 1, [], [0, 1, 2]⟩, ⟨mv 56 4, 4, [4], 0, [], []⟩, ⟨mv 57 0, 5, [0], 0, [], []⟩, ⟨nk 58 57, 6, [57], 0, [], [5]⟩, ⟨fd 59 58 6, 7, [58], 0, [], [5, 6]⟩, ⟨ld 60 59, 8, [59], 1, [], [5, 6, 7]⟩, ⟨ia 61 1 55 56, 9, [55, 56], 0, [], (List.range 9)⟩, ⟨⟨none, .store 1 (.s 61) (.s 60), none⟩, 10, [60, 61], 4, [], (List.range 10)⟩]
def a60r5 : LA := [mv 62 4, mv 63 1, bn 64 .eql 62 63]
def a60l0 : ACode := (.block 1 (.seq (.dreg 0 a60d1 [0, 1, 4]) (.seq (.dreg 0 a60d2 [0, 1, 4]) (.seq (.reg 0 a60r3 [0, 1, 4]) (.seq (.dreg 0 a60d4 [0, 1, 4]) (.seq (.reg 0 a60r5 [0, 1, 4, 64]) (.cond (.s 64) (.exit 0) .skip)))))))
def a60r6 : LA := [mv 65 0, nk 66 65, fd 67 66 6, ld 68 67, bi 69 .add 68 .i64 1, nk 70 65, fd 71 70 6, ⟨none, .store 1 (.s 71) (.s 69), none⟩]
def a60c : ACode := (.seq (.seq (.dreg 0 a60d0 [0, 1, 4, 19]) (.cond (.s 19) .ret .skip)) (.seq (.block 0 (.loop a60l0)) (.reg 0 a60r6 [])))
def a60 : AFn := ⟨[], a60c⟩
theorem ok60 : fnOkB 60 a60 = true := by decide +kernel
/- (*blazon/effect.grouper).sorted$2 -/
def a63r0 : LA := [mb 4 false]
def a63r1 : LA := [mv 9 0, le 10 9, mi 11 0]
def a63r2 : LA := [bn 12 .lss 11 10]
def a63r3 : LA := [ia 13 1 9 11, ld 14 13, mv 6 14]
def a63r4 : LA := [ld 15 1, nk 16 15, fd 17 16 0, ld 18 17, mv 19 6, ia 20 1 18 19, ld 21 20, le 22 21, mi 23 0]
def a63r5 : LA := [bn 24 .lss 23 22]
def a63r6 : LA := [ia 25 1 21 23, ld 26 25, mv 8 26]
def a63d7 : LD := [⟨ld 27 1, 0, [1], 1, [], []⟩, ⟨nk 28 27, 1, [27], 0, [], [0]⟩, ⟨fd 29 28 5, 2, [28], 0, [], [0, 1]⟩, ⟨ld 30 29, 3, [29], 1, [], [0, 1, 2]⟩, ⟨mv 31 8, 4, [8], 0, [], []⟩, ⟨ia 32 1 30 31, 5, [30, 31], 0, [], [0, 1, 2, 3, 4]⟩, ⟨ld 33 32, 6, [32], 1, [], (List.range 6)⟩, ⟨ld 34 1, 7, [1], 1, [], []⟩, ⟨nk 35 34, 8, [34], 0, [], [7]⟩, ⟨fd 36 35 5, 9, [35], 0, [], [7, 8]⟩, ⟨ld 37 36, 10, [36], 1, [], [7, 8, 9]⟩, ⟨mv 38 6, 11, [6], 0, [], []⟩, ⟨ia 39 1 37 38, 12, [37, 38], 0, [], [7, 8, 9, 10, 11]⟩, ⟨ld 40 39, 13, [39], 1, [], [7, 8, 9, 10, 11, 12]⟩, ⟨bn 41 .neq 33 40, 14, [33, 40], 0, [], (List.range 14)⟩, ⟨mv 42 41, 15, [41], 0, [], (List.range 15)⟩, ⟨⟨some 43, .load none (.s 2), (some (42, true))⟩, 16, [2, 42], 1, [], (List.range 16)⟩, ⟨⟨some 44, .load none (.s 1), (some (42, true))⟩, 17, [1, 42], 1, [], (List.range 16)⟩, ⟨⟨some 45, .nilck (.s 44), (some (42, true))⟩, 18, [42, 44], 0, [], [0, 1, 2, 3, 4, 5, 6, 7, 8, 9, 10, 11, 12, 13, 14, 15, 17]⟩, ⟨⟨some 46, .fadr (.s 45) 5, (some (42, true))⟩, 19, [42, 45], 0, [], [0, 1, 2, 3, 4, 5, 6, 7, 8, 9, 10, 11, 12, 13, 14, 15, 17, 18]⟩, ⟨⟨some 47, .load none (.s 46), (some (42, true))⟩, 20, [42, 46], 1, [], [0, 1, 2, 3, 4, 5, 6, 7, 8, 9, 10, 11, 12, 13, 14, 15, 17, 18, 19]⟩, ⟨mg 48 8 42 true, 21, [8, 42], 0, [], (List.range 16)⟩, ⟨⟨some 49, .idxa none 1 (.s 47) (.s 48), (some (42, true))⟩, 22, [42, 47, 48], 0, [], [0, 1, 2, 3, 4, 5, 6, 7, 8, 9, 10, 11, 12, 13, 14, 15, 17, 18, 19, 20, 21]⟩, ⟨⟨some 50, .load none (.s 49), (some (42, true))⟩, 23, [42, 49], 1, [], [0, 1, 2, 3, 4, 5, 6, 7, 8, 9, 10, 11, 12, 13, 14, 15, 17, 18, 19, 20, 21, 22]⟩, ⟨⟨some 51, .idxa none 1 (.s 43) (.s 50), (some (42, true))⟩, 24, [42, 43, 50], 0, [], (List.range 24)⟩, ⟨⟨some 52, .load none (.s 51), (some (42, true))⟩, 25, [42, 51], 1, [], (List.range 25)⟩, ⟨⟨some 53, .un .not (.s 52), (some (42, true))⟩, 26, [42, 52], 0, [], (List.range 26)⟩, ⟨⟨some 54, .pick (.s 42) (.s 53) (.k (.bool false)), none⟩, 27, [42, 53], 0, [], (List.range 27)⟩]
def a63r8 : LA := [mb 4 false]
def a63r9 : LA := [bi 55 .add 23 .i64 1, mv 23 55]
def a63l0 : ACode := (.seq (.reg 0 a63r5 [1, 2, 6, 9, 10, 11, 21, 22, 23, 24]) (.seq (.cond (.s 24) .skip (.exit 2)) (.seq (.block 3 (.seq (.reg 0 a63r6 [1, 2, 6, 8, 9, 10, 11, 21, 22, 23]) (.seq (.dreg 0 a63d7 [1, 2, 6, 9, 10, 11, 21, 22, 23, 54]) (.cond (.s 54) (.seq (.reg 0 a63r8 [4]) .ret) .skip)))) (.reg 0 a63r9 [1, 2, 6, 9, 10, 11, 21, 22, 23]))))
def a63r10 : LA := [bi 56 .add 11 .i64 1, mv 11 56]
def a63l1 : ACode := (.seq (.reg 0 a63r2 [1, 2, 9, 10, 11, 12]) (.seq (.cond (.s 12) .skip (.exit 0)) (.seq (.block 1 (.seq (.reg 0 a63r3 [1, 2, 6, 9, 10, 11]) (.seq (.reg 0 a63r4 [1, 2, 6, 9, 10, 11, 21, 22, 23]) (.block 2 (.loop a63l0))))) (.reg 0 a63r10 [1, 2, 9, 10, 11]))))
def a63r11 : LA := [mb 4 true]
def a63c : ACode := (.seq (.reg 0 a63r0 [0, 1, 2]) (.seq (.seq (.reg 0 a63r1 [1, 2, 9, 10, 11]) (.block 0 (.loop a63l1))) (.seq (.reg 0 a63r11 [4]) .ret)))
def a63 : AFn := ⟨[.slot 4], a63c⟩
theorem ok63 : fnOkB 63 a63 = true := by decide +kernel
/- slices.IndexFunc[[][]int,[]int] -/
def a64r0 : LA := [mi 4 0]
def a64r1 : LA := [mv 6 0, le 7 6, mi 8 0]
def a64r2 : LA := [bn 9 .lss 8 7]
def a64r3 : LA := [mv 10 8, mv 5 10]
def a64r4 : LA := [mv 11 1, mv 12 0, mv 13 5, ia 14 1 12 13, ld 15 14, ⟨some 16, .callv (.s 11) [(.s 15)] false, none⟩]
def a64r5 : LA := [mv 17 5, mv 4 17]
def a64r6 : LA := [bi 18 .add 8 .i64 1, mv 8 18]
def a64l0 : ACode := (.seq (.reg 0 a64r2 [0, 1, 7, 8, 9]) (.seq (.cond (.s 9) .skip (.exit 0)) (.seq (.block 1 (.seq (.reg 0 a64r3 [0, 1, 5, 7, 8]) (.seq (.reg 0 a64r4 [0, 1, 5, 7, 8, 16]) (.cond (.s 16) (.seq (.reg 0 a64r5 [4]) .ret) .skip)))) (.reg 0 a64r6 [0, 1, 7, 8]))))
def a64r7 : LA := [mi 4 (-1)]
def a64c : ACode := (.seq (.reg 0 a64r0 [0, 1]) (.seq (.seq (.reg 0 a64r1 [0, 1, 7, 8]) (.block 0 (.loop a64l0))) (.seq (.reg 0 a64r7 [4]) .ret)))
def a64 : AFn := ⟨[.slot 4], a64c⟩
theorem ok64 : fnOkB 64 a64 = true := by decide +kernel
/- (*blazon/effect.grouper).sorted$3 -/
def a65r0 : LA := [mb 5 false]
def a65d1 : LD := [⟨ld 6 1, 0, [1], 1, [], []⟩, ⟨ld 7 2, 1, [2], 1, [], []⟩, ⟨nk 8 7, 2, [7], 0, [], [1]⟩, ⟨fd 9 8 5, 3, [8], 0, [], [1, 2]⟩, ⟨ld 10 9, 4, [9], 1, [], [1, 2, 3]⟩, ⟨mv 11 0, 5, [0], 0, [], []⟩, ⟨⟨some 12, .idxa none 1 (.s 11) (.k (.int .i64 0)), none⟩, 6, [11], 0, [], [5]⟩, ⟨ld 13 12, 7, [12], 1, [], [5, 6]⟩, ⟨ia 14 1 10 13, 8, [10, 13], 0, [], [1, 2, 3, 4, 5, 6, 7]⟩, ⟨ld 15 14, 9, [14], 1, [], [1, 2, 3, 4, 5, 6, 7, 8]⟩, ⟨ia 16 1 6 15, 10, [6, 15], 0, [], (List.range 10)⟩, ⟨ld 17 16, 11, [16], 1, [], (List.range 11)⟩, ⟨⟨some 18, .un .not (.s 17), none⟩, 12, [17], 0, [], (List.range 12)⟩, ⟨mv 19 18, 13, [18], 0, [], (List.range 13)⟩, ⟨⟨some 20, .load none (.s 3), (some (19, true))⟩, 14, [3, 19], 1, [], (List.range 14)⟩, ⟨mg 21 0 19 true, 15, [0, 19], 0, [], (List.range 14)⟩, ⟨⟨some 22, .callv (.s 20) [(.s 21)] false, (some (19, true))⟩, 16, [19, 20, 21], 4, [], (List.range 16)⟩, ⟨⟨some 23, .pick (.s 19) (.s 22) (.k (.bool false)), none⟩, 17, [19, 22], 0, [], (List.range 17)⟩, ⟨mv 5 23, 18, [23], 3, [], (List.range 18)⟩]
def a65c : ACode := (.seq (.reg 0 a65r0 [0, 1, 2, 3, 5]) (.seq (.dreg 0 a65d1 [5]) .ret))
def a65 : AFn := ⟨[.slot 5], a65c⟩
theorem ok65 : fnOkB 65 a65 = true := by decide +kernel
def a66r0 : LA := [mb 2 false]
def a66r1 : LA := [mv 3 0]
def a66r2 : LA := [⟨some 5, .bin .eql (.s 3) (.k ((strv [105, 109, 112, 111, 114, 116]))), none⟩, mv 4 5]
def a66r3 : LA := [⟨some 6, .bin .eql (.s 3) (.k ((strv [108, 97, 116, 116, 105, 99, 101]))), none⟩, mv 4 6]
def a66r4 : LA := [⟨some 7, .bin .eql (.s 3) (.k ((strv [101, 102, 102, 101, 99, 116, 115]))), none⟩, mv 4 7]
def a66r5 : LA := [⟨some 8, .bin .eql (.s 3) (.k ((strv [118, 97, 114]))), none⟩, mv 4 8]
def a66r6 : LA := [⟨some 9, .bin .eql (.s 3) (.k ((strv [102, 110]))), none⟩, mv 4 9]
def a66r7 : LA := [⟨some 10, .bin .eql (.s 3) (.k ((strv [108, 101, 116]))), none⟩, mv 4 10]
def a66r8 : LA := [⟨some 11, .bin .eql (.s 3) (.k ((strv [105, 102]))), none⟩, mv 4 11]
def a66r9 : LA := [⟨some 12, .bin .eql (.s 3) (.k ((strv [101, 108, 115, 101]))), none⟩, mv 4 12]
def a66r10 : LA := [⟨some 13, .bin .eql (.s 3) (.k ((strv [119, 104, 105, 108, 101]))), none⟩, mv 4 13]
def a66r11 : LA := [⟨some 14, .bin .eql (.s 3) (.k ((strv [114, 101, 116, 117, 114, 110]))), none⟩, mv 4 14]
def a66r12 : LA := [⟨some 15, .bin .eql (.s 3) (.k ((strv [100, 111]))), none⟩, mv 4 15]
def a66r13 : LA := [⟨some 16, .bin .eql (.s 3) (.k ((strv [116, 114, 117, 101]))), none⟩, mv 4 16]
def a66r14 : LA := [⟨some 17, .bin .eql (.s 3) (.k ((strv [102, 97, 108, 115, 101]))), none⟩, mv 4 17]
def a66r15 : LA := [⟨some 18, .bin .eql (.s 3) (.k ((strv [105, 110, 116]))), none⟩, mv 4 18]
def a66r16 : LA := [⟨some 19, .bin .eql (.s 3) (.k ((strv [98, 111, 111, 108]))), none⟩, mv 4 19]
def a66r17 : LA := [⟨some 20, .bin .eql (.s 3) (.k ((strv [100, 101, 99, 108, 97, 115, 115, 105, 102, 121]))), none⟩, mv 4 20]
def a66r18 : LA := [mb 2 true]
def a66r19 : LA := [mb 2 false]
def a66c : ACode := (.seq (.reg 0 a66r0 [0]) (.seq (.seq (.reg 0 a66r1 [3]) (.block 0 (.seq (.seq (.reg 0 a66r2 [3, 4]) (.cond (.s 4) .skip (.seq (.reg 0 a66r3 [3, 4]) (.cond (.s 4) .skip (.seq (.reg 0 a66r4 [3, 4]) (.cond (.s 4) .skip (.seq (.reg 0 a66r5 [3, 4]) (.cond (.s 4) .skip (.seq (.reg 0 a66r6 [3, 4]) (.cond (.s 4) .skip (.seq (.reg 0 a66r7 [3, 4]) (.cond (.s 4) .skip (.seq (.reg 0 a66r8 [3, 4]) (.cond (.s 4) .skip (.seq (.reg 0 a66r9 [3, 4]) (.cond (.s 4) .skip (.seq (.reg 0 a66r10 [3, 4]) (.cond (.s 4) .skip (.seq (.reg 0 a66r11 [3, 4]) (.cond (.s 4) .skip (.seq (.reg 0 a66r12 [3, 4]) (.cond (.s 4) .skip (.seq (.reg 0 a66r13 [3, 4]) (.cond (.s 4) .skip (.seq (.reg 0 a66r14 [3, 4]) (.cond (.s 4) .skip (.seq (.reg 0 a66r15 [3, 4]) (.cond (.s 4) .skip (.seq (.reg 0 a66r16 [3, 4]) (.cond (.s 4) .skip (.reg 0 a66r17 [4]))))))))))))))))))))))))))))))) (.cond (.s 4) (.seq (.reg 0 a66r18 [2]) .ret) .skip)))) (.seq (.reg 0 a66r19 [2]) .ret)))
def a66 : AFn := ⟨[.slot 2], a66c⟩
theorem ok66 : fnOkB 66 a66 = true := by decide +kernel
def a67r0 : LA := [mb 2 false]
def a67r1 : LA := [mv 3 0, bi 4 .or 3 .u8 32, bi 5 .geq 4 .u8 97, mv 6 5, mg 7 0 6 true, ⟨some 8, .bin .or (.s 7) (.k (.int .u8 32)), (some (6, true))⟩, ⟨some 9, .bin .leq (.s 8) (.k (.int .u8 122)), (some (6, true))⟩, ⟨some 10, .pick (.s 6) (.s 9) (.k (.bool false)), none⟩, mv 11 10, mg 12 0 11 false, ⟨some 13, .bin .eql (.s 12) (.k (.int .u8 95)), (some (11, false))⟩, ⟨some 14, .pick (.s 11) (.k (.bool true)) (.s 13), none⟩, mv 2 14]
def a67c : ACode := (.seq (.reg 0 a67r0 [0]) (.seq (.reg 0 a67r1 [2]) .ret))
def a67 : AFn := ⟨[.slot 2], a67c⟩
theorem ok67 : fnOkB 67 a67 = true := by decide +kernel
def a68r0 : LA := [mi 4 0]
def a68r1 : LA := [mi 5 0]
def a68r2 : LA := [mv 6 5, mv 7 0, le 8 7, bn 9 .lss 6 8, mv 10 9, mg 11 1 10 true, mg 12 0 10 true, mg 13 5 10 true, ⟨some 14, .idxa none 1 (.s 12) (.s 13), (some (10, true))⟩, ⟨some 15, .load none (.s 14), (some (10, true))⟩, ⟨some 16, .callv (.s 11) [(.s 15)] false, (some (10, true))⟩, ⟨some 17, .pick (.s 10) (.s 16) (.k (.bool false)), none⟩]
def a68r3 : LA := [mv 18 5, bi 19 .add 18 .i64 1, mv 5 19]
def a68l0 : ACode := (.seq (.seq (.reg 0 a68r2 [0, 1, 5, 17]) (.cond (.s 17) .skip (.exit 0))) (.block 1 (.reg 0 a68r3 [0, 1, 5])))
def a68r4 : LA := [mv 20 5, mv 4 20]
def a68c : ACode := (.seq (.reg 0 a68r0 [0, 1]) (.seq (.reg 0 a68r1 [0, 1, 5]) (.seq (.block 0 (.loop a68l0)) (.seq (.reg 0 a68r4 [4]) .ret))))
def a68 : AFn := ⟨[.slot 4], a68c⟩
theorem ok68 : fnOkB 68 a68 = true := by decide +kernel
def a69r0 : LA := [mb 2 false]
def a69r1 : LA := [mv 3 0, ⟨some 4, .call 67 [(.s 3)] false, none⟩, mv 5 4, mg 6 0 5 false, ⟨some 7, .call 70 [(.s 6)] false, (some (5, false))⟩, ⟨some 8, .pick (.s 5) (.k (.bool true)) (.s 7), none⟩, mv 2 8]
def a69c : ACode := (.seq (.reg 0 a69r0 [0]) (.seq (.reg 0 a69r1 [2]) .ret))
def a69 : AFn := ⟨[.slot 2], a69c⟩
theorem ok69 : fnOkB 69 a69 = true := by decide +kernel
def a70r0 : LA := [mb 2 false]
def a70r1 : LA := [mv 3 0, bi 4 .geq 3 .u8 48, mv 5 4, mg 6 0 5 true, ⟨some 7, .bin .leq (.s 6) (.k (.int .u8 57)), (some (5, true))⟩, ⟨some 8, .pick (.s 5) (.s 7) (.k (.bool false)), none⟩, mv 2 8]
def a70c : ACode := (.seq (.reg 0 a70r0 [0]) (.seq (.reg 0 a70r1 [2]) .ret))
def a70 : AFn := ⟨[.slot 2], a70c⟩
theorem ok70 : fnOkB 70 a70 = true := by decide +kernel
/- (*blazon/row.Table).Set -/
def a74r0 : LA := [⟨some 4, .mov (.k (.int .u64 0)), none⟩, mi 5 0, mi 6 0]
def a74r1 : LA := [mv 11 1, le 12 11, mi 13 0]
def a74r2 : LA := [bn 14 .lss 13 12]
def a74r3 : LA := [mv 15 13, ia 16 2 11 13, lo 17 2 16, ⟨some 8, .alloc true [(strv []), .int .i64 0] 0, none⟩, mv 7 15, ⟨none, .store 2 (.s 8) (.s 17), none⟩]
def a74r4 : LA := [mv 19 0, fd 20 8 0, ld 21 20, ⟨some 22, .call 43 [(.s 19), (.s 21)] false, none⟩, mv 18 22, ex 23 18 0, ex 24 18 1, mv 9 23, mv 10 24]
def a74r5 : LA := [mv 25 10, ⟨some 26, .un .not (.s 25), none⟩]
def a74r6 : LA := [mv 27 7, ⟨some 4, .mov (.k (.int .u64 0)), none⟩, mv 5 27, mi 6 13]
def a74r7 : LA := [mv 28 4, mv 29 9, ⟨some 30, .toInt .u64 (.s 29), none⟩, ⟨some 31, .bin .shl (.k (.int .u64 1)) (.s 30), none⟩, bn 32 .or 28 31, mv 4 32]
def a74r8 : LA := [bi 33 .add 13 .i64 1, mv 13 33]
def a74l0 : ACode := (.seq (.reg 0 a74r2 [0, 4, 11, 12, 13, 14]) (.seq (.cond (.s 14) .skip (.exit 0)) (.seq (.block 1 (.seq (.reg 0 a74r3 [0, 4, 7, 8, 11, 12, 13]) (.seq (.reg 0 a74r4 [0, 4, 7, 9, 10, 11, 12, 13]) (.seq (.seq (.reg 0 a74r5 [0, 4, 7, 9, 11, 12, 13, 26]) (.cond (.s 26) (.seq (.reg 0 a74r6 [4, 5, 6]) .ret) .skip)) (.reg 0 a74r7 [0, 4, 11, 12, 13]))))) (.reg 0 a74r8 [0, 4, 11, 12, 13]))))
def a74r9 : LA := [mv 34 4, mv 4 34, mi 5 0, mi 6 0]
def a74c : ACode := (.seq (.reg 0 a74r0 [0, 1, 4]) (.seq (.seq (.reg 0 a74r1 [0, 4, 11, 12, 13]) (.block 0 (.loop a74l0))) (.seq (.reg 0 a74r9 [4, 5, 6]) .ret)))
def a74 : AFn := ⟨[.slot 4, .slot 5, .slot 6], a74c⟩
theorem ok74 : fnOkB 74 a74 = true := by decide +kernel
def a75r0 : LA := [mb 3 false]
def a75r1 : LA := [mv 4 0, bi 5 .geq 4 .i64 0, mv 6 5, mg 7 0 6 true, ⟨some 8, .fadr (.s 1) 0, (some (6, true))⟩, ⟨some 9, .load none (.s 8), (some (6, true))⟩, ⟨some 10, .len 1 (.s 9), (some (6, true))⟩, ⟨some 11, .bin .lss (.s 7) (.s 10), (some (6, true))⟩, ⟨some 12, .pick (.s 6) (.s 11) (.k (.bool false)), none⟩, mv 3 12]
def a75c : ACode := (.seq (.reg 0 a75r0 [0, 1]) (.seq (.reg 0 a75r1 [3]) .ret))
def a75 : AFn := ⟨[.slot 3], a75c⟩
theorem ok75 : fnOkB 75 a75 = true := by decide +kernel
/- slices.IndexFunc[[]int,int] -/
def a76r0 : LA := [mi 4 0]
def a76r1 : LA := [mv 6 0, le 7 6, mi 8 0]
def a76r2 : LA := [bn 9 .lss 8 7]
def a76r3 : LA := [mv 10 8, mv 5 10]
def a76r4 : LA := [mv 11 1, mv 12 0, mv 13 5, ia 14 1 12 13, ld 15 14, ⟨some 16, .callv (.s 11) [(.s 15)] false, none⟩]
def a76r5 : LA := [mv 17 5, mv 4 17]
def a76r6 : LA := [bi 18 .add 8 .i64 1, mv 8 18]
def a76l0 : ACode := (.seq (.reg 0 a76r2 [0, 1, 7, 8, 9]) (.seq (.cond (.s 9) .skip (.exit 0)) (.seq (.block 1 (.seq (.reg 0 a76r3 [0, 1, 5, 7, 8]) (.seq (.reg 0 a76r4 [0, 1, 5, 7, 8, 16]) (.cond (.s 16) (.seq (.reg 0 a76r5 [4]) .ret) .skip)))) (.reg 0 a76r6 [0, 1, 7, 8]))))
def a76r7 : LA := [mi 4 (-1)]
def a76c : ACode := (.seq (.reg 0 a76r0 [0, 1]) (.seq (.seq (.reg 0 a76r1 [0, 1, 7, 8]) (.block 0 (.loop a76l0))) (.seq (.reg 0 a76r7 [4]) .ret)))
def a76 : AFn := ⟨[.slot 4], a76c⟩
theorem ok76 : fnOkB 76 a76 = true := by decide +kernel
def code : Nat → Option AFn
 | 6 => some a6
 | 8 => some a8
 | 9 => some a9
 | 10 => some a10
 | 11 => some a11
 | 12 => some a12
 | 13 => some a13
 | 16 => some a16
 | 18 => some a18
 | 19 => some a19
 | 23 => some a23
 | 25 => some a25
 | 26 => some a26
 | 27 => some a27
 | 28 => some a28
 | 29 => some a29
 | 30 => some a30
 | 31 => some a31
 | 33 => some a33
 | 34 => some a34
 | 35 => some a35
 | 36 => some a36
 | 37 => some a37
 | 38 => some a38
 | 39 => some a39
 | 42 => some a42
 | 43 => some a43
 | 47 => some a47
 | 48 => some a48
 | 50 => some a50
 | 51 => some a51
 | 52 => some a52
 | 53 => some a53
 | 54 => some a54
 | 55 => some a55
 | 56 => some a56
 | 59 => some a59
 | 60 => some a60
 | 63 => some a63
 | 64 => some a64
 | 65 => some a65
 | 66 => some a66
 | 67 => some a67
 | 68 => some a68
 | 69 => some a69
 | 70 => some a70
 | 74 => some a74
 | 75 => some a75
 | 76 => some a76
 | _ => none
def pures : Nat → Nat
 | 8 => 1
 | 9 => 1
 | 10 => 1
 | 11 => 1
 | 12 => 1
 | 13 => 1
 | 14 => 1
 | 15 => 1
 | 17 => 1
 | 20 => 1
 | 21 => 1
 | 22 => 1
 | 23 => 1
 | 24 => 1
 | 25 => 1
 | 26 => 1
 | 27 => 1
 | 28 => 1
 | 29 => 1
 | 30 => 1
 | 31 => 1
 | 36 => 1
 | 37 => 1
 | 38 => 1
 | 39 => 1
 | 40 => 1
 | 41 => 2
 | 44 => 2
 | 45 => 1
 | 46 => 2
 | 48 => 1
 | 49 => 1
 | 56 => 1
 | 66 => 1
 | 67 => 1
 | 68 => 2
 | 69 => 1
 | 70 => 1
 | 71 => 1
 | 72 => 1
 | 73 => 1
 | _ => 0
theorem fnSim_of {n : Nat} {fn : AFn} (h : fnOkB n fn = true) : FnSim L n fn := by
 unfold fnOkB at h
 split at h
 ·rename_i F hF
  split at h
  ·rename_i c hc
   simp only [Bool.and_eq_true] at h
   exact ⟨F, c, hF, hc, h.1, h.2⟩
  ·cases h
 ·cases h
theorem code_sim (n : Nat) (fn : AFn) (h : code n = some fn) : FnSim L n fn := by
 unfold code at h
 split at h <;> first | (cases h; done) | skip
 ·cases h; exact fnSim_of ok6
 ·cases h; exact fnSim_of ok8
 ·cases h; exact fnSim_of ok9
 ·cases h; exact fnSim_of ok10
 ·cases h; exact fnSim_of ok11
 ·cases h; exact fnSim_of ok12
 ·cases h; exact fnSim_of ok13
 ·cases h; exact fnSim_of ok16
 ·cases h; exact fnSim_of ok18
 ·cases h; exact fnSim_of ok19
 ·cases h; exact fnSim_of ok23
 ·cases h; exact fnSim_of ok25
 ·cases h; exact fnSim_of ok26
 ·cases h; exact fnSim_of ok27
 ·cases h; exact fnSim_of ok28
 ·cases h; exact fnSim_of ok29
 ·cases h; exact fnSim_of ok30
 ·cases h; exact fnSim_of ok31
 ·cases h; exact fnSim_of ok33
 ·cases h; exact fnSim_of ok34
 ·cases h; exact fnSim_of ok35
 ·cases h; exact fnSim_of ok36
 ·cases h; exact fnSim_of ok37
 ·cases h; exact fnSim_of ok38
 ·cases h; exact fnSim_of ok39
 ·cases h; exact fnSim_of ok42
 ·cases h; exact fnSim_of ok43
 ·cases h; exact fnSim_of ok47
 ·cases h; exact fnSim_of ok48
 ·cases h; exact fnSim_of ok50
 ·cases h; exact fnSim_of ok51
 ·cases h; exact fnSim_of ok52
 ·cases h; exact fnSim_of ok53
 ·cases h; exact fnSim_of ok54
 ·cases h; exact fnSim_of ok55
 ·cases h; exact fnSim_of ok56
 ·cases h; exact fnSim_of ok59
 ·cases h; exact fnSim_of ok60
 ·cases h; exact fnSim_of ok63
 ·cases h; exact fnSim_of ok64
 ·cases h; exact fnSim_of ok65
 ·cases h; exact fnSim_of ok66
 ·cases h; exact fnSim_of ok67
 ·cases h; exact fnSim_of ok68
 ·cases h; exact fnSim_of ok69
 ·cases h; exact fnSim_of ok70
 ·cases h; exact fnSim_of ok74
 ·cases h; exact fnSim_of ok75
 ·cases h; exact fnSim_of ok76
end Go.Am.Ef
attribute [go_sem] ne_eq not_true_eq_false not_false_eq_true Nat.reduceEqDiff Nat.reduceAdd Nat.reduceLeDiff Int.toNat_natCast Int.reduceToNat and_self Bool.not_true Bool.not_false Bool.false_and Bool.and_false Bool.true_and Bool.and_true Int.reduceEq Int.reduceLT Int.reduceLE Int.reduceAdd Int.reduceSub Int.reduceNeg decide_true decide_false Option.bind_some Bool.or_true Bool.or_false Bool.true_or Bool.false_or
attribute [go_sem ↓] reduceIte
