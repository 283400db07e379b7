/- The code of the functions that this seat reaches, for the abstract machine, and the look at each by the kernel (printed by a program of ours). -/
import Derived.Test.YtijfdjjbodalaaaAmAll3
import Derived.Test.YtijfdjjbodalaaaAmAll4
import Derived.Test.YtijfdjjbodalaaaProg
set_option maxRecDepth 100000
set_option linter.unusedVariables false
namespace Go.Am.Dk
open Go.Am
def bodies : List Nat := [2, 3, 4, 5, 6, 7, 8, 9, 10, 11, 12, 13, 14, 15, 16, 17, 18, 19, 20, 21, 22, 23, 24, 25, 26, 27, 28, 29, 30, 31, 32, 33, 34, 35, 36, 37, 38, 39, 40, 41, 42, 43, 44, 45, 46, 47, 48, 49, 50, 51, 52, 53, 54, 55, 56, 57, 58, 59, 60, 61, 63, 64, 65, 66, 67, 68, 69, 70, 71, 72, 73, 76, 77, 78, 79, 80, 81, 82, 83, 84, 85, 86, 87, 88, 89, 90, 91, 92, 93, 94, 95, 96, 97, 98]
def fnum (n : Nat) : Nat := bif memN n bodies then n else 3
noncomputable def L : Link := { P := Go.Proofs.Try.prog, fn := fnum, ty := fun n => n }
theorem bodies_ok : bodies.all (fun n => FnOk L.P n) = true := by decide +kernel
theorem allFn : AllFn L := fun n => by
  show FnOk L.P (fnum n) = true
  unfold fnum
  cases h : memN n bodies with
  | true => exact List.all_eq_true.1 bodies_ok n (memN_spec.1 h)
  | false => exact List.all_eq_true.1 bodies_ok 3 (by decide)
theorem mixed : L.P.follows .mixedOrders = true := by decide +kernel
noncomputable def fnOkB (n : Nat) (fn : AFn) : Bool := match L.P.funcs[L.fn n]? with | some F => (match F.body with | some c => chkCode L F.ntmps c fn.code && ressOk L F.results.toList fn.results | none => false) | none => false
/- blazon/blazonlaw03.DiskOwn -/
/- blazon/blazonlaw03.DiskSure -/
/- blazon/blazonlaw03.DiskAgain -/
/- blazon/blazonlaw03.DiskPlays -/
abbrev mv (d s : Nat) : AOper := ⟨some d, .mov (.s s), none⟩
abbrev nk (d s : Nat) : AOper := ⟨some d, .nilck (.s s), none⟩
abbrev ld (d s : Nat) : AOper := ⟨some d, .load none (.s s), none⟩
abbrev fd (d s k : Nat) : AOper := ⟨some d, .fadr (.s s) k, none⟩
def a6r0 : List AOper := [⟨some 8, .mov (.k (.bool false)), none⟩]
def a6r1 : List AOper := [mv 16 0, ⟨some 17, .call 22 [(.s 16), (.k (.int .i64 2000))] false, none⟩, ⟨some 18, .bin .gtr (.s 17) (.k (.int .i64 2000)), none⟩, mv 19 18, ⟨some 20, .mov (.s 2), (some (19, false))⟩, ⟨some 21, .call 15 [(.s 20)] false, (some (19, false))⟩, ⟨some 22, .pick (.s 19) (.k (.bool true)) (.s 21), none⟩, mv 23 22, ⟨some 24, .mov (.s 3), (some (23, false))⟩, ⟨some 25, .len 0 (.s 24), (some (23, false))⟩, ⟨some 26, .bin .gtr (.s 25) (.k (.int .i64 100)), (some (23, false))⟩, ⟨some 27, .pick (.s 23) (.k (.bool true)) (.s 26), none⟩]
def a6r2 : List AOper := [⟨some 28, .call 8 [] false, none⟩, mv 8 28]
def a6r3 : List AOper := [mv 29 0, mv 30 1, ⟨some 31, .call 10 [(.s 29), (.s 30)] false, none⟩, mv 32 0, mv 33 1, ⟨some 34, .call 25 [(.s 32), (.s 33)] false, none⟩, mv 9 31, mv 10 34]
def a6r4 : List AOper := [mv 35 9, ⟨some 36, .cmp 1 false (.s 35) (.k (.nilp)), none⟩, mv 37 36, ⟨some 38, .mov (.s 10), (some (37, false))⟩, ⟨some 39, .cmp 1 false (.s 38) (.k (.nilp)), (some (37, false))⟩, ⟨some 40, .pick (.s 37) (.k (.bool true)) (.s 39), none⟩]
def a6r5 : List AOper := [mv 41 9, ⟨some 42, .cmp 1 false (.s 41) (.k (.nilp)), none⟩, mv 43 42, ⟨some 44, .mov (.s 10), (some (43, true))⟩, ⟨some 45, .cmp 1 false (.s 44) (.k (.nilp)), (some (43, true))⟩, ⟨some 46, .pick (.s 43) (.s 45) (.k (.bool false)), none⟩, mv 47 46, ⟨some 48, .call 8 [] false, (some (47, true))⟩, ⟨some 49, .pick (.s 47) (.s 48) (.k (.bool false)), none⟩, mv 8 49]
def a6r6 : List AOper := [⟨some 11, .mov (.k (.int .i64 0)), none⟩]
def a6r7 : List AOper := [mv 50 11, mv 51 2, ⟨some 52, .len 1 (.s 51), none⟩, ⟨some 53, .bin .lss (.s 50) (.s 52), none⟩]
def a6r8 : List AOper := [mv 56 9, mv 57 10, mv 58 2, mv 59 11, ⟨some 60, .idxa none 7 (.s 58) (.s 59), none⟩, ⟨some 61, .load (some 7) (.s 60), none⟩, ⟨some 62, .call 19 [(.s 56), (.s 57), (.s 61)] false, none⟩, ⟨some 63, .un .not (.s 62), none⟩, mv 64 63, ⟨some 65, .mov (.s 9), (some (64, false))⟩, ⟨some 66, .mov (.s 10), (some (64, false))⟩, ⟨some 67, .call 26 [(.s 65), (.s 66)] false, (some (64, false))⟩, ⟨some 68, .un .not (.s 67), (some (64, false))⟩, ⟨some 69, .pick (.s 64) (.k (.bool true)) (.s 68), none⟩]
def a6r9 : List AOper := [⟨some 8, .mov (.k (.bool false)), none⟩]
def a6r10 : List AOper := [mv 71 9, mv 72 3, ⟨some 73, .call 13 [(.s 71), (.s 72)] false, none⟩, mv 70 73, ⟨some 74, .ext (.s 70) 0, none⟩, ⟨some 75, .ext (.s 70) 1, none⟩, mv 12 74, mv 13 75]
def a6r11 : List AOper := [mv 77 10, mv 78 3, ⟨some 79, .call 27 [(.s 77), (.s 78)] false, none⟩, mv 76 79, ⟨some 80, .ext (.s 76) 0, none⟩, ⟨some 81, .ext (.s 76) 1, none⟩, mv 14 80, mv 15 81]
def a6r12 : List AOper := [mv 82 13, mv 83 15, ⟨some 84, .bin .neq (.s 82) (.s 83), none⟩, mv 85 84, ⟨some 86, .mov (.s 12), (some (85, false))⟩, ⟨some 87, .mov (.s 14), (some (85, false))⟩, ⟨some 88, .call 14 [(.s 86), (.s 87)] false, (some (85, false))⟩, ⟨some 89, .un .not (.s 88), (some (85, false))⟩, ⟨some 90, .pick (.s 85) (.k (.bool true)) (.s 89), none⟩, mv 91 90, ⟨some 92, .mov (.s 3), (some (91, false))⟩, ⟨some 93, .call 28 [(.s 92)] false, (some (91, false))⟩, ⟨some 94, .mov (.s 3), (some (91, false))⟩, ⟨some 95, .call 29 [(.s 94)] false, (some (91, false))⟩, ⟨some 96, .cmp 0 true (.s 93) (.s 95), (some (91, false))⟩, ⟨some 97, .pick (.s 91) (.k (.bool true)) (.s 96), none⟩]
def a6r13 : List AOper := [⟨some 8, .mov (.k (.bool false)), none⟩]
def a6r14 : List AOper := [mv 54 11, ⟨some 55, .bin .add (.s 54) (.k (.int .i64 1)), none⟩, mv 11 55]
def a6l0 : ACode := (.seq (.seq (.reg 0 a6r7 [2, 3, 9, 10, 11, 53]) (.cond (.s 53) .skip (.exit 0))) (.seq (.block 1 (.seq (.seq (.reg 0 a6r8 [2, 3, 9, 10, 11, 69]) (.cond (.s 69) (.seq (.reg 0 a6r9 [8]) .ret) .skip)) (.seq (.reg 0 a6r10 [2, 3, 9, 10, 11, 12, 13]) (.seq (.reg 0 a6r11 [2, 3, 9, 10, 11, 12, 13, 14, 15]) (.seq (.reg 0 a6r12 [2, 3, 9, 10, 11, 97]) (.cond (.s 97) (.seq (.reg 0 a6r13 [8]) .ret) .skip)))))) (.reg 0 a6r14 [2, 3, 9, 10, 11])))
def a6r15 : List AOper := [⟨some 98, .call 8 [] false, none⟩, mv 8 98]
def a6c : ACode := (.seq (.reg 0 a6r0 [0, 1, 2, 3]) (.seq (.seq (.reg 0 a6r1 [0, 1, 2, 3, 27]) (.cond (.s 27) (.seq (.reg 0 a6r2 [8]) .ret) .skip)) (.seq (.reg 0 a6r3 [2, 3, 9, 10]) (.seq (.seq (.reg 0 a6r4 [2, 3, 9, 10, 40]) (.cond (.s 40) (.seq (.reg 0 a6r5 [8]) .ret) .skip)) (.seq (.seq (.reg 0 a6r6 [2, 3, 9, 10, 11]) (.block 0 (.loop a6l0))) (.seq (.reg 0 a6r15 [8]) .ret))))))
def a6 : AFn := ⟨[.slot 8], a6c⟩
theorem ok6 : fnOkB 6 a6 = true := by decide +kernel
/- blazon/blazonlaw03.DiskNil -/
/- blazon/blazonlaw03.awake -/
def a8r0 : List AOper := [⟨some 0, .mov (.k (.bool false)), none⟩]
def a8r1 : List AOper := [⟨some 9, .call 10 [(.k (.nils)), (.k (.int .i64 10))] false, none⟩, mv 1 9]
def a8r2 : List AOper := [mv 10 1, ⟨some 11, .call 16 [(.s 10), (.k ((strv [97])))] false, none⟩, mv 12 1, ⟨some 13, .buildsl 1 2 [.int .u8 0] [(0, 1, (.k (.int .u8 120))), (1, 1, (.k (.int .u8 121)))] 0, none⟩, ⟨some 14, .mark (.s 13), none⟩, ⟨some 15, .call 11 [(.s 12), (.k ((strv [97]))), (.s 14)] false, none⟩, mv 16 1, ⟨some 17, .call 17 [(.s 16), (.k ((strv [97])))] false, none⟩, mv 2 11, mv 3 15, mv 4 17]
def a8r3 : List AOper := [mv 18 1, ⟨some 19, .call 20 [(.s 18), (.k (.int .i64 1))] false, none⟩]
def a8r4 : List AOper := [mv 20 1, ⟨some 21, .call 32 [(.s 20), (.k ((strv [97])))] false, none⟩, mv 5 21]
def a8r5 : List AOper := [mv 22 1, ⟨some 23, .call 21 [(.s 22), (.k (.int .i64 1)), (.k (.nils))] false, none⟩, mv 6 23]
def a8r6 : List AOper := [mv 25 1, ⟨some 26, .call 13 [(.s 25), (.k ((strv [97])))] false, none⟩, mv 24 26, ⟨some 27, .ext (.s 24) 0, none⟩, ⟨some 28, .ext (.s 24) 1, none⟩, mv 7 27, mv 8 28]
def a8r7 : List AOper := [mv 29 2, ⟨some 30, .bin .eql (.s 29) (.k (.int .i64 0)), none⟩, mv 31 30, ⟨some 32, .mov (.s 3), (some (31, true))⟩, ⟨some 33, .bin .eql (.s 32) (.k (.int .i64 0)), (some (31, true))⟩, ⟨some 34, .pick (.s 31) (.s 33) (.k (.bool false)), none⟩, mv 35 34, ⟨some 36, .mov (.s 4), (some (35, true))⟩, ⟨some 37, .bin .eql (.s 36) (.k (.int .i64 0)), (some (35, true))⟩, ⟨some 38, .pick (.s 35) (.s 37) (.k (.bool false)), none⟩, mv 39 38, ⟨some 40, .mov (.s 5), (some (39, true))⟩, ⟨some 41, .bin .eql (.s 40) (.k (.int .i64 9)), (some (39, true))⟩, ⟨some 42, .pick (.s 39) (.s 41) (.k (.bool false)), none⟩, mv 43 42, ⟨some 44, .mov (.s 6), (some (43, true))⟩, ⟨some 45, .bin .eql (.s 44) (.k (.int .i64 0)), (some (43, true))⟩, ⟨some 46, .pick (.s 43) (.s 45) (.k (.bool false)), none⟩, mv 47 46, ⟨some 48, .mov (.s 8), (some (47, true))⟩, ⟨some 49, .bin .eql (.s 48) (.k (.int .i64 0)), (some (47, true))⟩, ⟨some 50, .pick (.s 47) (.s 49) (.k (.bool false)), none⟩, mv 51 50, ⟨some 52, .mov (.s 7), (some (51, true))⟩, ⟨some 53, .toStr (.s 52), (some (51, true))⟩, ⟨some 54, .bin .eql (.s 53) (.k ((strv [120, 121]))), (some (51, true))⟩, ⟨some 55, .pick (.s 51) (.s 54) (.k (.bool false)), none⟩, mv 0 55]
def a8c : ACode := (.seq (.reg 0 a8r0 []) (.seq (.reg 0 a8r1 [1]) (.seq (.reg 1 a8r2 [1, 2, 3, 4]) (.seq (.reg 0 a8r3 [1, 2, 3, 4]) (.seq (.reg 0 a8r4 [1, 2, 3, 4, 5]) (.seq (.reg 0 a8r5 [1, 2, 3, 4, 5, 6]) (.seq (.reg 0 a8r6 [2, 3, 4, 5, 6, 7, 8]) (.seq (.reg 0 a8r7 [0]) .ret))))))))
def a8 : AFn := ⟨[.slot 0], a8c⟩
theorem ok8 : fnOkB 8 a8 = true := by decide +kernel
/- blazon/blazonref01.Lent -/
/- blazon/disk.New -/
def a10r0 : List AOper := [⟨some 4, .mov (.k (.nilp)), none⟩]
def a10r1 : List AOper := [mv 9 1, ⟨some 10, .bin .lss (.s 9) (.k (.int .i64 0)), none⟩, mv 11 10, ⟨some 12, .mov (.s 1), (some (11, false))⟩, ⟨some 13, .bin .gtr (.s 12) (.k (.int .i64 1048576)), (some (11, false))⟩, ⟨some 14, .pick (.s 11) (.k (.bool true)) (.s 13), none⟩, mv 15 14, ⟨some 16, .mov (.s 0), (some (15, false))⟩, ⟨some 17, .len 1 (.s 16), (some (15, false))⟩, ⟨some 18, .bin .gtr (.s 17) (.k (.int .i64 64)), (some (15, false))⟩, ⟨some 19, .pick (.s 15) (.k (.bool true)) (.s 18), none⟩]
def a10r2 : List AOper := [⟨some 4, .mov (.k (.nilp)), none⟩]
def a10r3 : List AOper := [mv 20 1, ⟨some 21, .mkmap 0, none⟩, ⟨some 22, .build [.int .i64 0, .nilm, .nilm, .nils, .nils, .bool false, .int .i64 0, .int .i64 0, .int .i64 0, .int .i64 0] [(0, 1, (.s 20)), (1, 1, (.s 21))], none⟩, ⟨some 23, .box false (.s 22) 1, none⟩, mv 5 23]
def a10r4 : List AOper := [mv 24 0, ⟨some 25, .len 1 (.s 24), none⟩, ⟨some 26, .mov (.k (.int .i64 0)), none⟩]
def a10r5 : List AOper := [⟨some 27, .bin .lss (.s 26) (.s 25), none⟩]
def a10r6 : List AOper := [⟨some 28, .idxa none 2 (.s 24) (.s 26), none⟩, ⟨some 29, .load (some 2) (.s 28), none⟩, ⟨some 7, .alloc true [(strv []), .nils] 0, none⟩, ⟨none, .store 2 (.s 7) (.s 29), none⟩]
def a10d7 : List DItem := [⟨fd 30 7 0, 0, [7], 0, [], []⟩, ⟨ld 31 30, 1, [7, 30], 1, [], [0]⟩, ⟨⟨some 32, .call 28 [(.s 31)] false, none⟩, 2, [31], 4, [], [0, 1]⟩, ⟨⟨some 33, .un .not (.s 32), none⟩, 3, [32], 0, [], [0, 1, 2]⟩, ⟨mv 34 33, 4, [33], 0, [], [0, 1, 2, 3]⟩, ⟨⟨some 35, .mov (.s 5), (some (34, false))⟩, 5, [5, 34], 0, [], [0, 1, 2, 3, 4]⟩, ⟨⟨some 36, .nilck (.s 35), (some (34, false))⟩, 6, [34, 35], 0, [], (List.range 6)⟩, ⟨⟨some 37, .fadr (.s 36) 1, (some (34, false))⟩, 7, [34, 36], 0, [], (List.range 7)⟩, ⟨⟨some 38, .load none (.s 37), (some (34, false))⟩, 8, [34, 37], 1, [], (List.range 8)⟩, ⟨⟨some 39, .fadr (.s 7) 0, (some (34, false))⟩, 9, [7, 34], 0, [], [0, 1, 2, 3, 4]⟩, ⟨⟨some 40, .load none (.s 39), (some (34, false))⟩, 10, [7, 34, 39], 1, [], [0, 1, 2, 3, 4, 9]⟩, ⟨⟨some 41, .lookup 1 (.nilp) false (.s 38) (.s 40), (some (34, false))⟩, 11, [34, 38, 40], 1, [], (List.range 11)⟩, ⟨⟨some 42, .cmp 1 true (.s 41) (.k (.nilp)), (some (34, false))⟩, 12, [34, 41], 0, [], (List.range 12)⟩, ⟨⟨some 43, .pick (.s 34) (.k (.bool true)) (.s 42), none⟩, 13, [34, 42], 0, [], (List.range 13)⟩, ⟨mv 44 43, 14, [43], 0, [], (List.range 14)⟩, ⟨⟨some 45, .fadr (.s 7) 1, (some (44, false))⟩, 15, [7, 44], 0, [], (List.range 15)⟩, ⟨⟨some 46, .load none (.s 45), (some (44, false))⟩, 16, [7, 44, 45], 1, [], (List.range 16)⟩, ⟨⟨some 47, .len 1 (.s 46), (some (44, false))⟩, 17, [44, 46], 0, [], (List.range 17)⟩, ⟨⟨some 48, .mov (.s 1), (some (44, false))⟩, 18, [1, 44], 0, [], (List.range 15)⟩, ⟨⟨some 49, .mov (.s 5), (some (44, false))⟩, 19, [5, 44], 0, [], (List.range 15)⟩, ⟨⟨some 50, .call 33 [(.s 49)] false, (some (44, false))⟩, 20, [44, 49], 4, [16], [0, 1, 2, 3, 4, 5, 6, 7, 8, 9, 10, 11, 12, 13, 14, 19]⟩, ⟨⟨some 51, .bin .sub (.s 48) (.s 50), (some (44, false))⟩, 21, [44, 48, 50], 0, [], [0, 1, 2, 3, 4, 5, 6, 7, 8, 9, 10, 11, 12, 13, 14, 18, 19, 20]⟩, ⟨⟨some 52, .bin .gtr (.s 47) (.s 51), (some (44, false))⟩, 22, [44, 47, 51], 0, [], (List.range 22)⟩, ⟨⟨some 53, .pick (.s 44) (.k (.bool true)) (.s 52), none⟩, 23, [44, 52], 0, [], (List.range 23)⟩]
def a10r8 : List AOper := [⟨some 4, .mov (.k (.nilp)), none⟩]
def a10d9 : List DItem := [⟨fd 54 7 1, 0, [7], 0, [], []⟩, ⟨ld 55 54, 1, [7, 54], 1, [], [0]⟩, ⟨fd 57 7 1, 3, [7], 0, [], []⟩, ⟨ld 58 57, 4, [7, 57], 1, [], [2]⟩, ⟨⟨some 59, .len 1 (.s 58), none⟩, 5, [58], 0, [], [2, 3]⟩, ⟨⟨some 56, .call 35 [(.s 55)] false, none⟩, 2, [55], 4, [3], [0, 1]⟩, ⟨⟨some 60, .build [.nils, .int .i64 0] [(0, 1, (.s 56)), (1, 1, (.s 59))], none⟩, 6, [56, 59], 0, [], (List.range 6)⟩, ⟨⟨some 61, .box false (.s 60) 0, none⟩, 7, [60], 4, [], (List.range 7)⟩, ⟨mv 8 61, 8, [61], 3, [], (List.range 8)⟩]
def a10d10 : List DItem := [⟨mv 62 5, 0, [5], 0, [], []⟩, ⟨nk 63 62, 1, [62], 0, [], [0]⟩, ⟨fd 64 63 1, 2, [63], 0, [], [0, 1]⟩, ⟨ld 65 64, 3, [64], 1, [], [0, 1, 2]⟩, ⟨fd 66 7 0, 4, [7], 0, [], []⟩, ⟨ld 67 66, 5, [7, 66], 1, [], [4]⟩, ⟨mv 68 8, 6, [8], 0, [], []⟩, ⟨⟨none, .mapupd 1 (.s 65) (.s 67) (.s 68), none⟩, 7, [65, 67, 68], 4, [], (List.range 7)⟩]
def a10r11 : List AOper := [mv 69 5, mv 70 5, nk 71 70, fd 72 71 3, ld 73 72, mv 74 8, ⟨some 75, .lits 1 1 [.nilp] [(0, 1, (.s 74))], none⟩, ⟨some 76, .app 1 8 (.s 73) (.s 75) 0, none⟩, nk 77 69, fd 78 77 3, ⟨none, .store 1 (.s 78) (.s 76), none⟩]
def a10r12 : List AOper := [⟨some 79, .bin .add (.s 26) (.k (.int .i64 1)), none⟩, mv 26 79]
def a10l0 : ACode := (.seq (.reg 0 a10r5 [1, 5, 8, 24, 25, 26, 27]) (.seq (.cond (.s 27) .skip (.exit 0)) (.seq (.block 1 (.seq (.reg 0 a10r6 [1, 5, 7, 8, 24, 25, 26]) (.seq (.seq (.dreg 0 a10d7 [1, 5, 7, 8, 24, 25, 26, 53]) (.cond (.s 53) (.seq (.reg 0 a10r8 [4]) .ret) .skip)) (.seq (.dreg 1 a10d9 [1, 5, 7, 8, 24, 25, 26]) (.seq (.dreg 0 a10d10 [1, 5, 8, 24, 25, 26]) (.reg 1 a10r11 [1, 5, 8, 24, 25, 26])))))) (.reg 0 a10r12 [1, 5, 8, 24, 25, 26]))))
def a10r13 : List AOper := [mv 80 5, mv 81 5, nk 82 81, fd 83 82 1, ld 84 83, ⟨some 85, .call 36 [(.s 84)] false, none⟩, nk 86 80, fd 87 86 2, ⟨none, .store 1 (.s 87) (.s 85), none⟩]
def a10r14 : List AOper := [mv 88 5, mv 4 88]
def a10c : ACode := (.seq (.reg 0 a10r0 [0, 1, 8]) (.seq (.seq (.reg 0 a10r1 [0, 1, 8, 19]) (.cond (.s 19) (.seq (.reg 0 a10r2 [4]) .ret) .skip)) (.seq (.reg 2 a10r3 [0, 1, 5, 8]) (.seq (.seq (.reg 0 a10r4 [1, 5, 8, 24, 25, 26]) (.block 0 (.loop a10l0))) (.seq (.reg 0 a10r13 [5]) (.seq (.reg 0 a10r14 [4]) .ret))))))
def a10 : AFn := ⟨[.slot 4], a10c⟩
theorem ok10 : fnOkB 10 a10 = true := by decide +kernel
/- (*blazon/disk.Disk).Append -/
def a11r0 : List AOper := [⟨some 6, .mov (.k (.int .i64 0)), none⟩]
def a11r1 : List AOper := [mv 10 0, mv 11 1, ⟨some 12, .call 37 [(.s 10), (.s 11)] false, none⟩, mv 9 12, ⟨some 13, .ext (.s 9) 0, none⟩, ⟨some 14, .ext (.s 9) 1, none⟩, mv 7 13, mv 8 14]
def a11r2 : List AOper := [mv 16 8, ⟨some 17, .bin .neq (.s 16) (.k (.int .i64 0)), none⟩, mv 15 17]
def a11r3 : List AOper := [mv 18 8, mv 6 18]
def a11d4 : List DItem := [⟨mv 20 2, 0, [2], 0, [], []⟩, ⟨⟨some 21, .len 1 (.s 20), none⟩, 1, [20], 0, [], [0]⟩, ⟨mv 22 0, 2, [0], 0, [], []⟩, ⟨nk 23 22, 3, [22], 0, [], [2]⟩, ⟨fd 24 23 0, 4, [23], 0, [], [2, 3]⟩, ⟨ld 25 24, 5, [24], 1, [], [2, 3, 4]⟩, ⟨mv 26 0, 6, [0], 0, [], []⟩, ⟨⟨some 27, .call 33 [(.s 26)] false, none⟩, 7, [26], 4, [5], [6]⟩, ⟨⟨some 28, .bin .sub (.s 25) (.s 27), none⟩, 8, [25, 27], 0, [], [2, 3, 4, 5, 6, 7]⟩, ⟨⟨some 29, .bin .gtr (.s 21) (.s 28), none⟩, 9, [21, 28], 0, [], (List.range 9)⟩, ⟨mv 19 29, 10, [29], 3, [], (List.range 10)⟩]
def a11r5 : List AOper := [⟨some 6, .mov (.k (.int .i64 8)), none⟩]
def a11r6 : List AOper := [mv 30 7, mv 31 7, nk 32 31, fd 33 32 0, ld 34 33, mv 35 2, ⟨some 36, .app 1 1 (.s 34) (.s 35) 0, none⟩, nk 37 30, fd 38 37 0, ⟨none, .store 1 (.s 38) (.s 36), none⟩]
def a11r7 : List AOper := [⟨some 6, .mov (.k (.int .i64 0)), none⟩]
def a11c : ACode := (.seq (.reg 0 a11r0 [0, 1, 2, 19]) (.seq (.reg 0 a11r1 [0, 2, 7, 8, 19]) (.seq (.block 0 (.seq (.reg 0 a11r2 [0, 2, 7, 8, 15, 19]) (.cond (.s 15) (.seq (.reg 0 a11r3 [6]) .ret) (.seq (.dreg 0 a11d4 [2, 7, 19]) (.cond (.s 19) (.seq (.reg 0 a11r5 [6]) .ret) .skip))))) (.seq (.reg 1 a11r6 []) (.seq (.reg 0 a11r7 [6]) .ret)))))
def a11 : AFn := ⟨[.slot 6], a11c⟩
theorem ok11 : fnOkB 11 a11 = true := by decide +kernel
/- blazon/blazonref01.Kept -/
/- (*blazon/disk.Disk).Read -/
def a13r0 : List AOper := [⟨some 4, .mov (.k (.nils)), none⟩, ⟨some 5, .mov (.k (.int .i64 0)), none⟩]
def a13r1 : List AOper := [mv 7 0, ⟨some 8, .cmp 1 false (.s 7) (.k (.nilp)), none⟩, mv 6 8]
def a13r2 : List AOper := [⟨some 4, .mov (.k (.nils)), none⟩, ⟨some 5, .mov (.k (.int .i64 1)), none⟩]
def a13r3 : List AOper := [mv 10 0, nk 11 10, fd 12 11 5, ld 13 12, mv 9 13]
def a13r4 : List AOper := [⟨some 4, .mov (.k (.nils)), none⟩, ⟨some 5, .mov (.k (.int .i64 9)), none⟩]
def a13r5 : List AOper := [mv 15 0, nk 16 15, fd 17 16 1, ld 18 17, mv 19 1, ⟨some 20, .lookup 1 (.nilp) false (.s 18) (.s 19), none⟩, ⟨some 21, .cmp 1 false (.s 20) (.k (.nilp)), none⟩, mv 14 21]
def a13r6 : List AOper := [⟨some 4, .mov (.k (.nils)), none⟩, ⟨some 5, .mov (.k (.int .i64 6)), none⟩]
def a13r7 : List AOper := [mv 22 0, nk 23 22, fd 24 23 1, ld 25 24, mv 26 1, ⟨some 27, .lookup 1 (.nilp) false (.s 25) (.s 26), none⟩, nk 28 27, fd 29 28 0, ld 30 29, ⟨some 31, .call 35 [(.s 30)] false, none⟩, mv 4 31, ⟨some 5, .mov (.k (.int .i64 0)), none⟩]
def a13c : ACode := (.seq (.reg 0 a13r0 [0, 1]) (.seq (.block 0 (.seq (.reg 0 a13r1 [0, 1, 6]) (.cond (.s 6) (.seq (.reg 0 a13r2 [4, 5]) .ret) (.seq (.reg 0 a13r3 [0, 1, 9]) (.cond (.s 9) (.seq (.reg 0 a13r4 [4, 5]) .ret) (.seq (.reg 0 a13r5 [0, 1, 14]) (.cond (.s 14) (.seq (.reg 0 a13r6 [4, 5]) .ret) .skip))))))) (.seq (.reg 0 a13r7 [4, 5]) .ret)))
def a13 : AFn := ⟨[.slot 4, .slot 5], a13c⟩
theorem ok13 : fnOkB 13 a13 = true := by decide +kernel
/- blazon/blazonref01.Same -/
def a14r0 : List AOper := [⟨some 4, .mov (.k (.bool false)), none⟩]
def a14r1 : List AOper := [mv 6 0, ⟨some 7, .len 1 (.s 6), none⟩, mv 8 1, ⟨some 9, .len 1 (.s 8), none⟩, ⟨some 10, .bin .neq (.s 7) (.s 9), none⟩]
def a14r2 : List AOper := [⟨some 4, .mov (.k (.bool false)), none⟩]
def a14r3 : List AOper := [⟨some 5, .mov (.k (.int .i64 0)), none⟩]
def a14r4 : List AOper := [mv 11 5, mv 12 0, ⟨some 13, .len 1 (.s 12), none⟩, ⟨some 14, .bin .lss (.s 11) (.s 13), none⟩]
def a14d5 : List DItem := [⟨mv 17 0, 0, [0], 0, [], []⟩, ⟨mv 18 5, 1, [5], 0, [], []⟩, ⟨⟨some 19, .idxa none 1 (.s 17) (.s 18), none⟩, 2, [17, 18], 0, [], [0, 1]⟩, ⟨ld 20 19, 3, [19], 1, [], [0, 1, 2]⟩, ⟨mv 21 1, 4, [1], 0, [], []⟩, ⟨mv 22 5, 5, [5], 0, [], []⟩, ⟨⟨some 23, .idxa none 1 (.s 21) (.s 22), none⟩, 6, [21, 22], 0, [], [4, 5]⟩, ⟨ld 24 23, 7, [23], 1, [], [4, 5, 6]⟩, ⟨⟨some 25, .bin .neq (.s 20) (.s 24), none⟩, 8, [20, 24], 0, [], (List.range 8)⟩]
def a14r6 : List AOper := [⟨some 4, .mov (.k (.bool false)), none⟩]
def a14r7 : List AOper := [mv 15 5, ⟨some 16, .bin .add (.s 15) (.k (.int .i64 1)), none⟩, mv 5 16]
def a14l0 : ACode := (.seq (.seq (.reg 0 a14r4 [0, 1, 5, 14]) (.cond (.s 14) .skip (.exit 0))) (.seq (.block 1 (.seq (.dreg 0 a14d5 [0, 1, 5, 25]) (.cond (.s 25) (.seq (.reg 0 a14r6 [4]) .ret) .skip))) (.reg 0 a14r7 [0, 1, 5])))
def a14r8 : List AOper := [⟨some 4, .mov (.k (.bool true)), none⟩]
def a14c : ACode := (.seq (.reg 0 a14r0 [0, 1]) (.seq (.seq (.reg 0 a14r1 [0, 1, 10]) (.cond (.s 10) (.seq (.reg 0 a14r2 [4]) .ret) .skip)) (.seq (.seq (.reg 0 a14r3 [0, 1, 5]) (.block 0 (.loop a14l0))) (.seq (.reg 0 a14r8 [4]) .ret))))
def a14 : AFn := ⟨[.slot 4], a14c⟩
theorem ok14 : fnOkB 14 a14 = true := by decide +kernel
/- blazon/blazonlaw03.great -/
def a15r0 : List AOper := [⟨some 2, .mov (.k (.bool false)), none⟩]
def a15r1 : List AOper := [⟨some 3, .mov (.k (.int .i64 0)), none⟩]
def a15r2 : List AOper := [mv 4 3, mv 5 0, ⟨some 6, .len 1 (.s 5), none⟩, ⟨some 7, .bin .lss (.s 4) (.s 6), none⟩, mv 8 7, ⟨some 9, .mov (.s 3), (some (8, true))⟩, ⟨some 10, .bin .lss (.s 9) (.k (.int .i64 60)), (some (8, true))⟩, ⟨some 11, .pick (.s 8) (.s 10) (.k (.bool false)), none⟩]
def a15r3 : List AOper := [mv 14 0, mv 15 3, ⟨some 16, .idxa none 7 (.s 14) (.s 15), none⟩, fd 17 16 1, ld 18 17, ⟨some 19, .len 0 (.s 18), none⟩, ⟨some 20, .bin .gtr (.s 19) (.k (.int .i64 100)), none⟩, mv 21 20, ⟨some 22, .mov (.s 0), (some (21, false))⟩, ⟨some 23, .mov (.s 3), (some (21, false))⟩, ⟨some 24, .idxa none 7 (.s 22) (.s 23), (some (21, false))⟩, ⟨some 25, .fadr (.s 24) 2, (some (21, false))⟩, ⟨some 26, .load none (.s 25), (some (21, false))⟩, ⟨some 27, .len 0 (.s 26), (some (21, false))⟩, ⟨some 28, .bin .gtr (.s 27) (.k (.int .i64 100)), (some (21, false))⟩, ⟨some 29, .pick (.s 21) (.k (.bool true)) (.s 28), none⟩, mv 30 29, ⟨some 31, .mov (.s 0), (some (30, false))⟩, ⟨some 32, .mov (.s 3), (some (30, false))⟩, ⟨some 33, .idxa none 7 (.s 31) (.s 32), (some (30, false))⟩, ⟨some 34, .fadr (.s 33) 3, (some (30, false))⟩, ⟨some 35, .load none (.s 34), (some (30, false))⟩, ⟨some 36, .len 1 (.s 35), (some (30, false))⟩, ⟨some 37, .bin .gtr (.s 36) (.k (.int .i64 500)), (some (30, false))⟩, ⟨some 38, .pick (.s 30) (.k (.bool true)) (.s 37), none⟩, mv 39 38, ⟨some 40, .mov (.s 0), (some (39, false))⟩, ⟨some 41, .mov (.s 3), (some (39, false))⟩, ⟨some 42, .idxa none 7 (.s 40) (.s 41), (some (39, false))⟩, ⟨some 43, .fadr (.s 42) 6, (some (39, false))⟩, ⟨some 44, .load none (.s 43), (some (39, false))⟩, ⟨some 45, .len 1 (.s 44), (some (39, false))⟩, ⟨some 46, .bin .gtr (.s 45) (.k (.int .i64 60)), (some (39, false))⟩, ⟨some 47, .pick (.s 39) (.k (.bool true)) (.s 46), none⟩]
def a15r4 : List AOper := [⟨some 2, .mov (.k (.bool true)), none⟩]
def a15r5 : List AOper := [mv 12 3, ⟨some 13, .bin .add (.s 12) (.k (.int .i64 1)), none⟩, mv 3 13]
def a15l0 : ACode := (.seq (.seq (.reg 0 a15r2 [0, 3, 11]) (.cond (.s 11) .skip (.exit 0))) (.seq (.block 1 (.seq (.reg 0 a15r3 [0, 3, 47]) (.cond (.s 47) (.seq (.reg 0 a15r4 [2]) .ret) .skip))) (.reg 0 a15r5 [0, 3])))
def a15r6 : List AOper := [mv 48 0, ⟨some 49, .len 1 (.s 48), none⟩, ⟨some 50, .bin .gtr (.s 49) (.k (.int .i64 60)), none⟩, mv 2 50]
def a15c : ACode := (.seq (.reg 0 a15r0 [0]) (.seq (.seq (.reg 0 a15r1 [0, 3]) (.block 0 (.loop a15l0))) (.seq (.reg 0 a15r6 [2]) .ret)))
def a15 : AFn := ⟨[.slot 2], a15c⟩
theorem ok15 : fnOkB 15 a15 = true := by decide +kernel
/- (*blazon/disk.Disk).Create -/
def a16r0 : List AOper := [⟨some 4, .mov (.k (.int .i64 0)), none⟩]
def a16r1 : List AOper := [mv 7 0, ⟨some 8, .call 38 [(.s 7)] false, none⟩, mv 5 8]
def a16r2 : List AOper := [mv 10 5, ⟨some 11, .bin .neq (.s 10) (.k (.int .i64 0)), none⟩, mv 9 11]
def a16r3 : List AOper := [mv 12 5, mv 4 12]
def a16r4 : List AOper := [mv 14 1, ⟨some 15, .call 28 [(.s 14)] false, none⟩, ⟨some 16, .un .not (.s 15), none⟩, mv 13 16]
def a16r5 : List AOper := [⟨some 4, .mov (.k (.int .i64 1)), none⟩]
def a16r6 : List AOper := [mv 18 0, nk 19 18, fd 20 19 1, ld 21 20, mv 22 1, ⟨some 23, .lookup 1 (.nilp) false (.s 21) (.s 22), none⟩, ⟨some 24, .cmp 1 true (.s 23) (.k (.nilp)), none⟩, mv 17 24]
def a16r7 : List AOper := [⟨some 4, .mov (.k (.int .i64 7)), none⟩]
def a16r8 : List AOper := [mv 26 0, nk 27 26, fd 28 27 1, ld 29 28, ⟨some 30, .len 2 (.s 29), none⟩, ⟨some 31, .bin .geq (.s 30) (.k (.int .i64 64)), none⟩, mv 25 31]
def a16r9 : List AOper := [⟨some 4, .mov (.k (.int .i64 8)), none⟩]
def a16r10 : List AOper := [⟨some 32, .build [.nils, .int .i64 0] [], none⟩, ⟨some 33, .box false (.s 32) 0, none⟩, mv 6 33]
def a16r11 : List AOper := [mv 34 0, mv 35 0, nk 36 35, fd 37 36 3, ld 38 37, mv 39 6, ⟨some 40, .lits 1 1 [.nilp] [(0, 1, (.s 39))], none⟩, ⟨some 41, .app 1 8 (.s 38) (.s 40) 0, none⟩, nk 42 34, fd 43 42 3, ⟨none, .store 1 (.s 43) (.s 41), none⟩]
def a16r12 : List AOper := [mv 44 0, mv 45 1, mv 46 6, ⟨some 47, .build [(strv []), (strv []), .nilp] [(1, 1, (.s 45)), (2, 1, (.s 46))], none⟩, ⟨some 48, .call 39 [(.s 44), (.s 47)] false, none⟩, mv 4 48]
def a16c : ACode := (.seq (.reg 0 a16r0 [0, 1]) (.seq (.reg 0 a16r1 [0, 1, 5]) (.seq (.block 0 (.seq (.reg 0 a16r2 [0, 1, 5, 9]) (.cond (.s 9) (.seq (.reg 0 a16r3 [4]) .ret) (.seq (.reg 0 a16r4 [0, 1, 13]) (.cond (.s 13) (.seq (.reg 0 a16r5 [4]) .ret) (.seq (.reg 0 a16r6 [0, 1, 17]) (.cond (.s 17) (.seq (.reg 0 a16r7 [4]) .ret) (.seq (.reg 0 a16r8 [0, 1, 25]) (.cond (.s 25) (.seq (.reg 0 a16r9 [4]) .ret) .skip))))))))) (.seq (.reg 1 a16r10 [0, 1, 6]) (.seq (.reg 1 a16r11 [0, 1, 6]) (.seq (.reg 0 a16r12 [4]) .ret))))))
def a16 : AFn := ⟨[.slot 4], a16c⟩
theorem ok16 : fnOkB 16 a16 = true := by decide +kernel
/- (*blazon/disk.Disk).Sync -/
def a17r0 : List AOper := [⟨some 4, .mov (.k (.int .i64 0)), none⟩]
def a17r1 : List AOper := [mv 8 0, mv 9 1, ⟨some 10, .call 37 [(.s 8), (.s 9)] false, none⟩, mv 7 10, ⟨some 11, .ext (.s 7) 0, none⟩, ⟨some 12, .ext (.s 7) 1, none⟩, mv 5 11, mv 6 12]
def a17r2 : List AOper := [mv 13 6, ⟨some 14, .bin .eql (.s 13) (.k (.int .i64 0)), none⟩]
def a17r3 : List AOper := [mv 15 5, mv 16 5, nk 17 16, fd 18 17 0, ld 19 18, ⟨some 20, .len 1 (.s 19), none⟩, nk 21 15, fd 22 21 1, ⟨none, .store 1 (.s 22) (.s 20), none⟩]
def a17r4 : List AOper := [mv 23 6, mv 4 23]
def a17c : ACode := (.seq (.reg 0 a17r0 [0, 1]) (.seq (.reg 0 a17r1 [5, 6]) (.seq (.seq (.reg 0 a17r2 [5, 6, 14]) (.cond (.s 14) (.reg 0 a17r3 [6]) .skip)) (.seq (.reg 0 a17r4 [4]) .ret))))
def a17 : AFn := ⟨[.slot 4], a17c⟩
theorem ok17 : fnOkB 17 a17 = true := by decide +kernel
/- (*blazon/disk.Disk).SyncDir -/
def a18r0 : List AOper := [⟨some 2, .mov (.k (.int .i64 0)), none⟩]
def a18r1 : List AOper := [mv 4 0, ⟨some 5, .call 38 [(.s 4)] false, none⟩, mv 3 5]
def a18r2 : List AOper := [mv 6 3, ⟨some 7, .bin .eql (.s 6) (.k (.int .i64 0)), none⟩]
def a18r3 : List AOper := [mv 8 0, mv 9 0, mv 10 0, nk 11 10, fd 12 11 1, ld 13 12, ⟨some 14, .call 36 [(.s 13)] false, none⟩, nk 15 8, fd 16 15 2, ⟨none, .store 1 (.s 16) (.s 14), none⟩, nk 17 9, fd 18 17 4, ⟨none, .store 1 (.s 18) (.k (.nils)), none⟩]
def a18r4 : List AOper := [mv 19 3, mv 2 19]
def a18c : ACode := (.seq (.reg 0 a18r0 [0]) (.seq (.reg 0 a18r1 [0, 3]) (.seq (.seq (.reg 0 a18r2 [0, 3, 7]) (.cond (.s 7) (.reg 0 a18r3 [3]) .skip)) (.seq (.reg 0 a18r4 [2]) .ret))))
def a18 : AFn := ⟨[.slot 2], a18c⟩
theorem ok18 : fnOkB 18 a18 = true := by decide +kernel
/- blazon/blazonlaw03.do -/
def a19r0 : List AOper := [⟨some 5, .box true (.s 2) 0, none⟩, ⟨some 6, .mov (.k (.bool false)), none⟩]
def a19r1 : List AOper := [fd 7 5 0, ld 8 7]
def a19r2 : List AOper := [⟨some 10, .bin .eql (.s 8) (.k (.int .i64 0)), none⟩, mv 9 10]
def a19d3 : List DItem := [⟨mv 11 0, 0, [0], 0, [], []⟩, ⟨fd 12 5 1, 1, [5], 0, [], []⟩, ⟨ld 13 12, 2, [5, 12], 1, [], [1]⟩, ⟨mv 15 1, 4, [1], 0, [], []⟩, ⟨fd 16 5 1, 5, [5], 0, [], []⟩, ⟨ld 17 16, 6, [5, 16], 1, [], [4]⟩, ⟨⟨some 14, .call 16 [(.s 11), (.s 13)] false, none⟩, 3, [11, 13], 4, [5], [0, 1, 2]⟩, ⟨⟨some 18, .call 40 [(.s 15), (.s 17)] false, none⟩, 7, [15, 17], 4, [], (List.range 7)⟩, ⟨⟨some 19, .bin .eql (.s 14) (.s 18), none⟩, 8, [14, 18], 0, [], (List.range 8)⟩, ⟨mv 6 19, 9, [19], 3, [], (List.range 9)⟩]
def a19r4 : List AOper := [⟨some 21, .bin .eql (.s 8) (.k (.int .i64 1)), none⟩, mv 20 21]
def a19d5 : List DItem := [⟨mv 22 0, 0, [0], 0, [], []⟩, ⟨fd 23 5 1, 1, [5], 0, [], []⟩, ⟨ld 24 23, 2, [5, 23], 1, [], [1]⟩, ⟨fd 25 5 3, 3, [5], 0, [], []⟩, ⟨ld 26 25, 4, [5, 25], 1, [], [3]⟩, ⟨mv 28 1, 6, [1], 0, [], []⟩, ⟨fd 29 5 1, 7, [5], 0, [], []⟩, ⟨ld 30 29, 8, [5, 29], 1, [], [6]⟩, ⟨fd 31 5 3, 9, [5], 0, [], []⟩, ⟨ld 32 31, 10, [5, 31], 1, [], [8]⟩, ⟨⟨some 27, .call 11 [(.s 22), (.s 24), (.s 26)] false, none⟩, 5, [22, 24, 26], 4, [7, 9], [0, 1, 2, 3, 4]⟩, ⟨⟨some 33, .call 41 [(.s 28), (.s 30), (.s 32)] false, none⟩, 11, [28, 30, 32], 4, [], (List.range 11)⟩, ⟨⟨some 34, .bin .eql (.s 27) (.s 33), none⟩, 12, [27, 33], 0, [], (List.range 12)⟩, ⟨mv 6 34, 13, [34], 3, [], (List.range 13)⟩]
def a19r6 : List AOper := [⟨some 36, .bin .eql (.s 8) (.k (.int .i64 2)), none⟩, mv 35 36]
def a19d7 : List DItem := [⟨mv 37 0, 0, [0], 0, [], []⟩, ⟨fd 38 5 1, 1, [5], 0, [], []⟩, ⟨ld 39 38, 2, [5, 38], 1, [], [1]⟩, ⟨mv 41 1, 4, [1], 0, [], []⟩, ⟨fd 42 5 1, 5, [5], 0, [], []⟩, ⟨ld 43 42, 6, [5, 42], 1, [], [4]⟩, ⟨⟨some 40, .call 17 [(.s 37), (.s 39)] false, none⟩, 3, [37, 39], 4, [5], [0, 1, 2]⟩, ⟨⟨some 44, .call 42 [(.s 41), (.s 43)] false, none⟩, 7, [41, 43], 4, [], (List.range 7)⟩, ⟨⟨some 45, .bin .eql (.s 40) (.s 44), none⟩, 8, [40, 44], 0, [], (List.range 8)⟩, ⟨mv 6 45, 9, [45], 3, [], (List.range 9)⟩]
def a19r8 : List AOper := [⟨some 47, .bin .eql (.s 8) (.k (.int .i64 3)), none⟩, mv 46 47]
def a19r9 : List AOper := [mv 48 0, ⟨some 49, .call 18 [(.s 48)] false, none⟩, mv 50 1, ⟨some 51, .call 43 [(.s 50)] false, none⟩, ⟨some 52, .bin .eql (.s 49) (.s 51), none⟩, mv 6 52]
def a19r10 : List AOper := [⟨some 54, .bin .eql (.s 8) (.k (.int .i64 4)), none⟩, mv 53 54]
def a19d11 : List DItem := [⟨mv 55 0, 0, [0], 0, [], []⟩, ⟨fd 56 5 1, 1, [5], 0, [], []⟩, ⟨ld 57 56, 2, [5, 56], 1, [], [1]⟩, ⟨fd 58 5 2, 3, [5], 0, [], []⟩, ⟨ld 59 58, 4, [5, 58], 1, [], [3]⟩, ⟨mv 61 1, 6, [1], 0, [], []⟩, ⟨fd 62 5 1, 7, [5], 0, [], []⟩, ⟨ld 63 62, 8, [5, 62], 1, [], [6]⟩, ⟨fd 64 5 2, 9, [5], 0, [], []⟩, ⟨ld 65 64, 10, [5, 64], 1, [], [8]⟩, ⟨⟨some 60, .call 31 [(.s 55), (.s 57), (.s 59)] false, none⟩, 5, [55, 57, 59], 4, [7, 9], [0, 1, 2, 3, 4]⟩, ⟨⟨some 66, .call 44 [(.s 61), (.s 63), (.s 65)] false, none⟩, 11, [61, 63, 65], 4, [], (List.range 11)⟩, ⟨⟨some 67, .bin .eql (.s 60) (.s 66), none⟩, 12, [60, 66], 0, [], (List.range 12)⟩, ⟨mv 6 67, 13, [67], 3, [], (List.range 13)⟩]
def a19r12 : List AOper := [⟨some 69, .bin .eql (.s 8) (.k (.int .i64 5)), none⟩, mv 68 69]
def a19d13 : List DItem := [⟨mv 70 0, 0, [0], 0, [], []⟩, ⟨fd 71 5 1, 1, [5], 0, [], []⟩, ⟨ld 72 71, 2, [5, 71], 1, [], [1]⟩, ⟨mv 74 1, 4, [1], 0, [], []⟩, ⟨fd 75 5 1, 5, [5], 0, [], []⟩, ⟨ld 76 75, 6, [5, 75], 1, [], [4]⟩, ⟨⟨some 73, .call 32 [(.s 70), (.s 72)] false, none⟩, 3, [70, 72], 4, [5], [0, 1, 2]⟩, ⟨⟨some 77, .call 45 [(.s 74), (.s 76)] false, none⟩, 7, [74, 76], 4, [], (List.range 7)⟩, ⟨⟨some 78, .bin .eql (.s 73) (.s 77), none⟩, 8, [73, 77], 0, [], (List.range 8)⟩, ⟨mv 6 78, 9, [78], 3, [], (List.range 9)⟩]
def a19r14 : List AOper := [⟨some 80, .bin .eql (.s 8) (.k (.int .i64 6)), none⟩, mv 79 80]
def a19r15 : List AOper := [mv 81 0, fd 82 5 4, ld 83 82, ⟨some 84, .call 20 [(.s 81), (.s 83)] false, none⟩]
def a19r16 : List AOper := [mv 85 1, fd 86 5 4, ld 87 86, ⟨some 88, .call 46 [(.s 87)] false, none⟩, nk 89 85, fd 90 89 7, ⟨none, .store 1 (.s 90) (.s 88), none⟩]
def a19r17 : List AOper := [⟨some 92, .bin .eql (.s 8) (.k (.int .i64 7)), none⟩, mv 91 92]
def a19r18 : List AOper := [mv 93 0, fd 94 5 4, ld 95 94, fd 96 5 5, ld 97 96, ⟨some 98, .call 30 [(.s 93), (.s 95), (.s 97)] false, none⟩]
def a19r19 : List AOper := [mv 99 1, fd 100 5 4, ld 101 100, fd 102 5 5, ld 103 102, ⟨some 104, .call 47 [(.s 99), (.s 101), (.s 103)] false, none⟩]
def a19r20 : List AOper := [⟨some 106, .bin .eql (.s 8) (.k (.int .i64 8)), none⟩, mv 105 106]
def a19d21 : List DItem := [⟨mv 107 0, 0, [0], 0, [], []⟩, ⟨fd 108 5 4, 1, [5], 0, [], []⟩, ⟨ld 109 108, 2, [5, 108], 1, [], [1]⟩, ⟨fd 110 5 6, 3, [5], 0, [], []⟩, ⟨ld 111 110, 4, [5, 110], 1, [], [3]⟩, ⟨mv 113 1, 6, [1], 0, [], []⟩, ⟨fd 114 5 4, 7, [5], 0, [], []⟩, ⟨ld 115 114, 8, [5, 114], 1, [], [6]⟩, ⟨fd 116 5 6, 9, [5], 0, [], []⟩, ⟨ld 117 116, 10, [5, 116], 1, [], [8]⟩, ⟨⟨some 112, .call 21 [(.s 107), (.s 109), (.s 111)] false, none⟩, 5, [107, 109, 111], 4, [7, 9], [0, 1, 2, 3, 4]⟩, ⟨⟨some 118, .call 48 [(.s 113), (.s 115), (.s 117)] false, none⟩, 11, [113, 115, 117], 4, [], (List.range 11)⟩, ⟨⟨some 119, .bin .eql (.s 112) (.s 118), none⟩, 12, [112, 118], 0, [], (List.range 12)⟩, ⟨mv 6 119, 13, [119], 3, [], (List.range 13)⟩]
def a19r22 : List AOper := [⟨some 6, .mov (.k (.bool true)), none⟩]
def a19c : ACode := (.seq (.reg 0 a19r0 [0, 1, 5, 6]) (.seq (.seq (.reg 0 a19r1 [0, 1, 5, 6, 8]) (.block 0 (.seq (.reg 0 a19r2 [0, 1, 5, 6, 8, 9]) (.cond (.s 9) (.seq (.dreg 0 a19d3 [6]) .ret) (.seq (.reg 0 a19r4 [0, 1, 5, 6, 8, 20]) (.cond (.s 20) (.seq (.dreg 0 a19d5 [6]) .ret) (.seq (.reg 0 a19r6 [0, 1, 5, 6, 8, 35]) (.cond (.s 35) (.seq (.dreg 0 a19d7 [6]) .ret) (.seq (.reg 0 a19r8 [0, 1, 5, 6, 8, 46]) (.cond (.s 46) (.seq (.reg 0 a19r9 [6]) .ret) (.seq (.reg 0 a19r10 [0, 1, 5, 6, 8, 53]) (.cond (.s 53) (.seq (.dreg 0 a19d11 [6]) .ret) (.seq (.reg 0 a19r12 [0, 1, 5, 6, 8, 68]) (.cond (.s 68) (.seq (.dreg 0 a19d13 [6]) .ret) (.seq (.reg 0 a19r14 [0, 1, 5, 6, 8, 79]) (.cond (.s 79) (.seq (.reg 0 a19r15 [1, 5]) (.reg 0 a19r16 [])) (.seq (.reg 0 a19r17 [0, 1, 5, 6, 8, 91]) (.cond (.s 91) (.seq (.reg 0 a19r18 [1, 5]) (.reg 0 a19r19 [])) (.seq (.reg 0 a19r20 [0, 1, 5, 6, 105]) (.cond (.s 105) (.seq (.dreg 0 a19d21 [6]) .ret) .skip)))))))))))))))))))) (.seq (.reg 0 a19r22 [6]) .ret)))
def a19 : AFn := ⟨[.slot 6], a19c⟩
theorem ok19 : fnOkB 19 a19 = true := by decide +kernel
/- (*blazon/disk.Disk).Fuse -/
def a20r0 : List AOper := [mv 4 0, ⟨some 5, .cmp 1 true (.s 4) (.k (.nilp)), none⟩]
def a20r1 : List AOper := [mv 6 0, mv 7 0, mv 8 1, ⟨some 9, .call 49 [(.s 7), (.s 8)] false, none⟩, nk 10 6, fd 11 10 7, ⟨none, .store 1 (.s 11) (.s 9), none⟩]
def a20c : ACode := (.seq (.reg 0 a20r0 [0, 1, 5]) (.cond (.s 5) (.reg 0 a20r1 []) .skip))
def a20 : AFn := ⟨[], a20c⟩
theorem ok20 : fnOkB 20 a20 = true := by decide +kernel
/- (*blazon/disk.Disk).Boot -/
def a21r0 : List AOper := [⟨some 6, .mov (.k (.int .i64 0)), none⟩]
def a21r1 : List AOper := [mv 17 0, ⟨some 18, .call 23 [(.s 17)] false, none⟩, ⟨some 19, .un .not (.s 18), none⟩]
def a21r2 : List AOper := [⟨some 6, .mov (.k (.int .i64 1)), none⟩]
def a21d3 : List DItem := [⟨mv 20 0, 0, [0], 0, [], []⟩, ⟨nk 21 20, 1, [20], 0, [], [0]⟩, ⟨fd 22 21 4, 2, [21], 0, [], [0, 1]⟩, ⟨ld 23 22, 3, [22], 1, [], [0, 1, 2]⟩, ⟨mv 24 1, 4, [1], 0, [], []⟩, ⟨mv 25 0, 5, [0], 0, [], []⟩, ⟨nk 26 25, 6, [25], 0, [], [5]⟩, ⟨fd 27 26 4, 7, [26], 0, [], [5, 6]⟩, ⟨ld 28 27, 8, [27], 1, [], [5, 6, 7]⟩, ⟨⟨some 29, .len 1 (.s 28), none⟩, 9, [28], 0, [], [5, 6, 7, 8]⟩, ⟨⟨some 30, .mm false (.s 24) (.s 29), none⟩, 10, [24, 29], 0, [], [4, 5, 6, 7, 8, 9]⟩, ⟨⟨some 31, .mm true (.k (.int .i64 0)) (.s 30), none⟩, 11, [30], 0, [], [4, 5, 6, 7, 8, 9, 10]⟩, ⟨⟨some 32, .slice (some 3) (.s 23) none (some (.s 31)) none, none⟩, 12, [23, 31], 0, [], (List.range 12)⟩, ⟨⟨some 33, .len 1 (.s 32), none⟩, 13, [32], 0, [], (List.range 13)⟩, ⟨⟨some 34, .mov (.k (.int .i64 0)), none⟩, 14, [], 0, [], []⟩]
def a21r4 : List AOper := [⟨some 35, .bin .lss (.s 34) (.s 33), none⟩]
def a21r5 : List AOper := [⟨some 36, .idxa none 3 (.s 32) (.s 34), none⟩, ⟨some 37, .load (some 3) (.s 36), none⟩, ⟨some 8, .alloc true [(strv []), (strv []), .nilp] 0, none⟩, ⟨none, .store 3 (.s 8) (.s 37), none⟩]
def a21d6 : List DItem := [⟨⟨some 38, .load (some 3) (.s 8), none⟩, 0, [8], 1, [], []⟩, ⟨mv 39 0, 1, [0], 0, [], []⟩, ⟨nk 40 39, 2, [39], 0, [], [1]⟩, ⟨fd 41 40 2, 3, [40], 0, [], [1, 2]⟩, ⟨ld 42 41, 4, [41], 1, [], [1, 2, 3]⟩, ⟨⟨some 43, .call 50 [(.s 38), (.s 42)] false, none⟩, 5, [38, 42], 4, [], [0, 1, 2, 3, 4]⟩]
def a21r7 : List AOper := [⟨some 44, .bin .add (.s 34) (.k (.int .i64 1)), none⟩, mv 34 44]
def a21l0 : ACode := (.seq (.reg 0 a21r4 [0, 2, 12, 32, 33, 34, 35]) (.seq (.cond (.s 35) .skip (.exit 0)) (.seq (.block 1 (.seq (.reg 0 a21r5 [0, 2, 8, 12, 32, 33, 34]) (.dreg 0 a21d6 [0, 2, 12, 32, 33, 34]))) (.reg 0 a21r7 [0, 2, 12, 32, 33, 34]))))
def a21r8 : List AOper := [⟨some 9, .mov (.k (.int .i64 0)), none⟩]
def a21r9 : List AOper := [mv 45 0, nk 46 45, fd 47 46 3, ld 48 47, ⟨some 49, .len 1 (.s 48), none⟩, ⟨some 50, .mov (.k (.int .i64 0)), none⟩]
def a21r10 : List AOper := [⟨some 51, .bin .lss (.s 50) (.s 49), none⟩]
def a21r11 : List AOper := [⟨some 52, .idxa none 1 (.s 48) (.s 50), none⟩, ld 53 52, mv 11 53]
def a21d12 : List DItem := [⟨mv 54 11, 0, [11], 0, [], []⟩, ⟨nk 55 54, 1, [54], 0, [], [0]⟩, ⟨fd 56 55 0, 2, [55], 0, [], [0, 1]⟩, ⟨ld 57 56, 3, [56], 1, [], [0, 1, 2]⟩, ⟨⟨some 58, .len 1 (.s 57), none⟩, 4, [57], 0, [], [0, 1, 2, 3]⟩, ⟨mv 59 11, 5, [11], 0, [], []⟩, ⟨nk 60 59, 6, [59], 0, [], [5]⟩, ⟨fd 61 60 1, 7, [60], 0, [], [5, 6]⟩, ⟨ld 62 61, 8, [61], 1, [], [5, 6, 7]⟩, ⟨⟨some 63, .bin .sub (.s 58) (.s 62), none⟩, 9, [58, 62], 0, [], (List.range 9)⟩, ⟨mv 12 63, 10, [63], 3, [], (List.range 10)⟩]
def a21r13 : List AOper := [mv 64 12, ⟨some 65, .bin .eql (.s 64) (.k (.int .i64 0)), none⟩]
def a21r14 : List AOper := [⟨some 13, .mov (.k (.int .i64 0)), none⟩]
def a21r15 : List AOper := [mv 66 9, mv 67 2, ⟨some 68, .len 1 (.s 67), none⟩, ⟨some 69, .bin .lss (.s 66) (.s 68), none⟩]
def a21r16 : List AOper := [mv 70 2, mv 71 9, ⟨some 72, .idxa none 1 (.s 70) (.s 71), none⟩, ld 73 72, mv 74 12, ⟨some 75, .mm false (.s 73) (.s 74), none⟩, ⟨some 76, .mm true (.k (.int .i64 0)) (.s 75), none⟩, mv 13 76]
def a21r17 : List AOper := [mv 77 9, ⟨some 78, .bin .add (.s 77) (.k (.int .i64 1)), none⟩, mv 9 78]
def a21d18 : List DItem := [⟨mv 79 11, 0, [11], 0, [], []⟩, ⟨mv 80 11, 1, [11], 0, [], []⟩, ⟨nk 81 80, 2, [80], 0, [], [1]⟩, ⟨fd 82 81 0, 3, [81], 0, [], [1, 2]⟩, ⟨ld 83 82, 4, [82], 1, [], [1, 2, 3]⟩, ⟨mv 84 11, 5, [11], 0, [], []⟩, ⟨nk 85 84, 6, [84], 0, [], [5]⟩, ⟨fd 86 85 1, 7, [85], 0, [], [5, 6]⟩, ⟨ld 87 86, 8, [86], 1, [], [5, 6, 7]⟩, ⟨mv 88 13, 9, [13], 0, [], []⟩, ⟨⟨some 89, .bin .add (.s 87) (.s 88), none⟩, 10, [87, 88], 0, [], [5, 6, 7, 8, 9]⟩, ⟨⟨some 90, .slice (some 1) (.s 83) none (some (.s 89)) none, none⟩, 11, [83, 89], 0, [], [1, 2, 3, 4, 5, 6, 7, 8, 9, 10]⟩, ⟨nk 91 79, 12, [79], 0, [], (List.range 12)⟩, ⟨fd 92 91 0, 13, [91], 0, [], (List.range 13)⟩, ⟨⟨none, .store 1 (.s 92) (.s 90), none⟩, 14, [90, 92], 4, [], (List.range 14)⟩]
def a21r19 : List AOper := [mv 93 11, mv 94 11, nk 95 94, fd 96 95 0, ld 97 96, ⟨some 98, .len 1 (.s 97), none⟩, nk 99 93, fd 100 99 1, ⟨none, .store 1 (.s 100) (.s 98), none⟩]
def a21r20 : List AOper := [⟨some 101, .bin .add (.s 50) (.k (.int .i64 1)), none⟩, mv 50 101]
def a21l1 : ACode := (.seq (.reg 0 a21r10 [0, 2, 9, 12, 48, 49, 50, 51]) (.seq (.cond (.s 51) .skip (.exit 2)) (.seq (.block 3 (.seq (.reg 0 a21r11 [0, 2, 9, 11, 12, 48, 49, 50]) (.seq (.dreg 0 a21d12 [0, 2, 9, 11, 12, 48, 49, 50]) (.seq (.seq (.reg 0 a21r13 [0, 2, 9, 11, 12, 48, 49, 50, 65]) (.cond (.s 65) (.exit 3) .skip)) (.seq (.reg 0 a21r14 [0, 2, 9, 11, 12, 13, 48, 49, 50]) (.seq (.seq (.reg 0 a21r15 [0, 2, 9, 11, 12, 13, 48, 49, 50, 69]) (.cond (.s 69) (.reg 0 a21r16 [0, 2, 9, 11, 12, 13, 48, 49, 50]) .skip)) (.seq (.reg 0 a21r17 [0, 2, 9, 11, 12, 13, 48, 49, 50]) (.seq (.dreg 0 a21d18 [0, 2, 9, 11, 12, 48, 49, 50]) (.reg 0 a21r19 [0, 2, 9, 12, 48, 49, 50]))))))))) (.reg 0 a21r20 [0, 2, 9, 12, 48, 49, 50]))))
def a21r21 : List AOper := [⟨some 102, .mkmap 0, none⟩, ⟨some 14, .alloc false [.nilm] 1, none⟩, ⟨none, .store 1 (.s 14) (.s 102), none⟩]
def a21r22 : List AOper := [mv 103 0, nk 104 103, fd 105 104 2, ld 106 105, ⟨some 107, .range true (.s 106) 0, none⟩]
def a21r23 : List AOper := [⟨some 108, .next false (.s 107), none⟩, ⟨some 109, .ext (.s 108) 0, none⟩]
def a21r24 : List AOper := [⟨some 110, .entry (.s 107), none⟩, ⟨some 111, .ext (.s 110) 1, none⟩, mv 16 111]
def a21r25 : List AOper := [ld 112 14, mv 113 16, ⟨none, .mapupd 2 (.s 112) (.s 113) (.k (.bool true)), none⟩]
def a21l2 : ACode := (.seq (.reg 0 a21r23 [0, 14, 107, 109]) (.seq (.cond (.s 109) .skip (.exit 4)) (.block 5 (.seq (.reg 0 a21r24 [0, 14, 16, 107]) (.reg 0 a21r25 [0, 14, 107])))))
def a21r26 : List AOper := [mv 114 0, mv 115 0, nk 116 115, fd 117 116 3, ld 118 117, ⟨some 119, .mkfn 52 [(.s 14)], none⟩, ⟨some 120, .call 51 [(.s 118), (.s 119)] false, none⟩, nk 121 114, fd 122 121 3, ⟨none, .store 1 (.s 122) (.s 120), none⟩]
def a21r27 : List AOper := [mv 123 0, mv 124 0, mv 125 0, nk 126 125, fd 127 126 2, ld 128 127, ⟨some 129, .call 36 [(.s 128)] false, none⟩, nk 130 123, fd 131 130 1, ⟨none, .store 1 (.s 131) (.s 129), none⟩, nk 132 124, fd 133 132 4, ⟨none, .store 1 (.s 133) (.k (.nils)), none⟩]
def a21r28 : List AOper := [mv 134 0, mv 135 0, mv 136 0, nk 137 134, fd 138 137 5, ⟨none, .store 1 (.s 138) (.k (.bool false)), none⟩, nk 139 135, fd 140 139 7, ⟨none, .store 1 (.s 140) (.k (.int .i64 0)), none⟩, nk 141 136, fd 142 141 8, ⟨none, .store 1 (.s 142) (.k (.int .i64 0)), none⟩]
def a21r29 : List AOper := [⟨some 6, .mov (.k (.int .i64 0)), none⟩]
def a21c : ACode := (.seq (.reg 0 a21r0 [0, 1, 2, 12]) (.seq (.seq (.reg 0 a21r1 [0, 1, 2, 12, 19]) (.cond (.s 19) (.seq (.reg 0 a21r2 [6]) .ret) .skip)) (.seq (.seq (.dreg 0 a21d3 [0, 2, 12, 32, 33, 34]) (.block 0 (.loop a21l0))) (.seq (.reg 0 a21r8 [0, 2, 9, 12]) (.seq (.seq (.reg 0 a21r9 [0, 2, 9, 12, 48, 49, 50]) (.block 2 (.loop a21l1))) (.seq (.reg 2 a21r21 [0, 14]) (.seq (.seq (.reg 1 a21r22 [0, 14, 107]) (.block 4 (.loop a21l2))) (.seq (.reg 0 a21r26 [0]) (.seq (.reg 0 a21r27 [0]) (.seq (.reg 0 a21r28 []) (.seq (.reg 0 a21r29 [6]) .ret)))))))))))
def a21 : AFn := ⟨[.slot 6], a21c⟩
theorem ok21 : fnOkB 21 a21 = true := by decide +kernel
/- blazon/blazonref03.Bulk -/
def a22r0 : List AOper := [⟨some 4, .mov (.k (.int .i64 0)), none⟩]
def a22r1 : List AOper := [⟨some 5, .mov (.k (.int .i64 0)), none⟩]
def a22r2 : List AOper := [⟨some 6, .mov (.k (.int .i64 0)), none⟩]
def a22r3 : List AOper := [mv 7 6, mv 8 0, ⟨some 9, .len 1 (.s 8), none⟩, ⟨some 10, .bin .lss (.s 7) (.s 9), none⟩, mv 11 10, ⟨some 12, .mov (.s 5), (some (11, true))⟩, ⟨some 13, .mov (.s 1), (some (11, true))⟩, ⟨some 14, .bin .leq (.s 12) (.s 13), (some (11, true))⟩, ⟨some 15, .pick (.s 11) (.s 14) (.k (.bool false)), none⟩]
def a22d4 : List DItem := [⟨mv 18 5, 0, [5], 0, [], []⟩, ⟨⟨some 19, .bin .add (.s 18) (.k (.int .i64 1)), none⟩, 1, [18], 0, [], [0]⟩, ⟨mv 20 0, 2, [0], 0, [], []⟩, ⟨mv 21 6, 3, [6], 0, [], []⟩, ⟨⟨some 22, .idxa none 2 (.s 20) (.s 21), none⟩, 4, [20, 21], 0, [], [2, 3]⟩, ⟨fd 23 22 1, 5, [22], 0, [], [2, 3, 4]⟩, ⟨ld 24 23, 6, [23], 1, [], [2, 3, 4, 5]⟩, ⟨⟨some 25, .len 1 (.s 24), none⟩, 7, [24], 0, [], [2, 3, 4, 5, 6]⟩, ⟨mv 26 1, 8, [1], 0, [], []⟩, ⟨⟨some 27, .bin .add (.s 26) (.k (.int .i64 1)), none⟩, 9, [26], 0, [], [8]⟩, ⟨⟨some 28, .mm false (.s 25) (.s 27), none⟩, 10, [25, 27], 0, [], [2, 3, 4, 5, 6, 7, 8, 9]⟩, ⟨⟨some 29, .bin .add (.s 19) (.s 28), none⟩, 11, [19, 28], 0, [], (List.range 11)⟩, ⟨mv 30 0, 12, [0], 0, [], []⟩, ⟨mv 31 6, 13, [6], 0, [], []⟩, ⟨⟨some 32, .idxa none 2 (.s 30) (.s 31), none⟩, 14, [30, 31], 0, [], [12, 13]⟩, ⟨fd 33 32 0, 15, [32], 0, [], [12, 13, 14]⟩, ⟨ld 34 33, 16, [33], 1, [], [12, 13, 14, 15]⟩, ⟨⟨some 35, .len 0 (.s 34), none⟩, 17, [34], 0, [], [12, 13, 14, 15, 16]⟩, ⟨mv 36 1, 18, [1], 0, [], []⟩, ⟨⟨some 37, .bin .add (.s 36) (.k (.int .i64 1)), none⟩, 19, [36], 0, [], [18]⟩, ⟨⟨some 38, .mm false (.s 35) (.s 37), none⟩, 20, [35, 37], 0, [], [12, 13, 14, 15, 16, 17, 18, 19]⟩, ⟨⟨some 39, .bin .add (.s 29) (.s 38), none⟩, 21, [29, 38], 0, [], (List.range 21)⟩, ⟨mv 5 39, 22, [39], 3, [], (List.range 22)⟩]
def a22r5 : List AOper := [mv 16 6, ⟨some 17, .bin .add (.s 16) (.k (.int .i64 1)), none⟩, mv 6 17]
def a22l0 : ACode := (.seq (.seq (.reg 0 a22r3 [0, 1, 5, 6, 15]) (.cond (.s 15) .skip (.exit 0))) (.seq (.block 1 (.dreg 0 a22d4 [0, 1, 5, 6])) (.reg 0 a22r5 [0, 1, 5, 6])))
def a22r6 : List AOper := [mv 40 5, mv 4 40]
def a22c : ACode := (.seq (.reg 0 a22r0 [0, 1]) (.seq (.reg 0 a22r1 [0, 1, 5]) (.seq (.seq (.reg 0 a22r2 [0, 1, 5, 6]) (.block 0 (.loop a22l0))) (.seq (.reg 0 a22r6 [4]) .ret))))
def a22 : AFn := ⟨[.slot 4], a22c⟩
theorem ok22 : fnOkB 22 a22 = true := by decide +kernel
/- (*blazon/disk.Disk).Dead -/
def a23r0 : List AOper := [⟨some 2, .mov (.k (.bool false)), none⟩]
def a23r1 : List AOper := [mv 3 0, ⟨some 4, .cmp 1 true (.s 3) (.k (.nilp)), none⟩, mv 5 4, ⟨some 6, .mov (.s 0), (some (5, true))⟩, ⟨some 7, .nilck (.s 6), (some (5, true))⟩, ⟨some 8, .fadr (.s 7) 5, (some (5, true))⟩, ⟨some 9, .load none (.s 8), (some (5, true))⟩, ⟨some 10, .pick (.s 5) (.s 9) (.k (.bool false)), none⟩, mv 2 10]
def a23c : ACode := (.seq (.reg 0 a23r0 [0]) (.seq (.reg 0 a23r1 [2]) .ret))
def a23 : AFn := ⟨[.slot 2], a23c⟩
theorem ok23 : fnOkB 23 a23 = true := by decide +kernel
/- (*blazon/disk.Disk).List -/
def a24r0 : List AOper := [⟨some 2, .mov (.k (.nils)), none⟩]
def a24r1 : List AOper := [mv 3 0, ⟨some 4, .cmp 1 false (.s 3) (.k (.nilp)), none⟩, mv 5 4, ⟨some 6, .mov (.s 0), (some (5, false))⟩, ⟨some 7, .nilck (.s 6), (some (5, false))⟩, ⟨some 8, .fadr (.s 7) 5, (some (5, false))⟩, ⟨some 9, .load none (.s 8), (some (5, false))⟩, ⟨some 10, .pick (.s 5) (.k (.bool true)) (.s 9), none⟩]
def a24r2 : List AOper := [⟨some 2, .mov (.k (.nils)), none⟩]
def a24r3 : List AOper := [mv 11 0, nk 12 11, fd 13 12 1, ld 14 13, ⟨some 15, .call 54 [(.s 14)] false, none⟩, ⟨some 16, .call 53 [(.s 15)] false, none⟩, mv 2 16]
def a24c : ACode := (.seq (.reg 0 a24r0 [0]) (.seq (.seq (.reg 0 a24r1 [0, 10]) (.cond (.s 10) (.seq (.reg 0 a24r2 [2]) .ret) .skip)) (.seq (.reg 0 a24r3 [2]) .ret)))
def a24 : AFn := ⟨[.slot 2], a24c⟩
theorem ok24 : fnOkB 24 a24 = true := by decide +kernel
/- blazon/blazonref03.New -/
def a25r0 : List AOper := [⟨some 4, .mov (.k (.nilp)), none⟩]
def a25r1 : List AOper := [mv 9 1, ⟨some 10, .bin .lss (.s 9) (.k (.int .i64 0)), none⟩, mv 11 10, ⟨some 12, .mov (.s 1), (some (11, false))⟩, ⟨some 13, .bin .gtr (.s 12) (.k (.int .i64 1048576)), (some (11, false))⟩, ⟨some 14, .pick (.s 11) (.k (.bool true)) (.s 13), none⟩, mv 15 14, ⟨some 16, .mov (.s 0), (some (15, false))⟩, ⟨some 17, .len 1 (.s 16), (some (15, false))⟩, ⟨some 18, .bin .gtr (.s 17) (.k (.int .i64 64)), (some (15, false))⟩, ⟨some 19, .pick (.s 15) (.k (.bool true)) (.s 18), none⟩]
def a25r2 : List AOper := [⟨some 4, .mov (.k (.nilp)), none⟩]
def a25r3 : List AOper := [mv 20 1, ⟨some 21, .build [.nils, .nils, .nils, .nils, .int .i64 0, .bool false, .int .i64 0, .int .i64 0, .int .i64 0, .int .i64 0] [(4, 1, (.s 20))], none⟩, ⟨some 22, .box false (.s 21) 0, none⟩, mv 5 22]
def a25r4 : List AOper := [⟨some 6, .mov (.k (.int .i64 0)), none⟩]
def a25r5 : List AOper := [⟨some 7, .mov (.k (.int .i64 0)), none⟩]
def a25r6 : List AOper := [mv 23 7, mv 24 0, ⟨some 25, .len 1 (.s 24), none⟩, ⟨some 26, .bin .lss (.s 23) (.s 25), none⟩]
def a25r7 : List AOper := [mv 29 0, mv 30 7, ⟨some 31, .idxa none 2 (.s 29) (.s 30), none⟩, ⟨some 32, .load (some 2) (.s 31), none⟩, ⟨some 8, .alloc true [(strv []), .nils] 0, none⟩, ⟨none, .store 2 (.s 8) (.s 32), none⟩]
def a25d8 : List DItem := [⟨fd 33 8 0, 0, [8], 0, [], []⟩, ⟨ld 34 33, 1, [8, 33], 1, [], [0]⟩, ⟨⟨some 35, .call 29 [(.s 34)] false, none⟩, 2, [34], 4, [], [0, 1]⟩, ⟨⟨some 36, .un .not (.s 35), none⟩, 3, [35], 0, [], [0, 1, 2]⟩, ⟨mv 37 36, 4, [36], 0, [], [0, 1, 2, 3]⟩, ⟨⟨some 38, .mov (.s 5), (some (37, false))⟩, 5, [5, 37], 0, [], [0, 1, 2, 3, 4]⟩, ⟨⟨some 39, .nilck (.s 38), (some (37, false))⟩, 6, [37, 38], 0, [], (List.range 6)⟩, ⟨⟨some 40, .fadr (.s 39) 1, (some (37, false))⟩, 7, [37, 39], 0, [], (List.range 7)⟩, ⟨⟨some 41, .load none (.s 40), (some (37, false))⟩, 8, [37, 40], 1, [], (List.range 8)⟩, ⟨⟨some 42, .fadr (.s 8) 0, (some (37, false))⟩, 9, [8, 37], 0, [], [0, 1, 2, 3, 4]⟩, ⟨⟨some 43, .load none (.s 42), (some (37, false))⟩, 10, [8, 37, 42], 1, [], [0, 1, 2, 3, 4, 9]⟩, ⟨⟨some 44, .call 55 [(.s 41), (.s 43)] false, (some (37, false))⟩, 11, [37, 41, 43], 4, [], (List.range 11)⟩, ⟨⟨some 45, .bin .geq (.s 44) (.k (.int .i64 0)), (some (37, false))⟩, 12, [37, 44], 0, [], (List.range 12)⟩, ⟨⟨some 46, .pick (.s 37) (.k (.bool true)) (.s 45), none⟩, 13, [37, 45], 0, [], (List.range 13)⟩, ⟨mv 47 46, 14, [46], 0, [], (List.range 14)⟩, ⟨⟨some 48, .fadr (.s 8) 1, (some (47, false))⟩, 15, [8, 47], 0, [], (List.range 15)⟩, ⟨⟨some 49, .load none (.s 48), (some (47, false))⟩, 16, [8, 47, 48], 1, [], (List.range 16)⟩, ⟨⟨some 50, .len 1 (.s 49), (some (47, false))⟩, 17, [47, 49], 0, [], (List.range 17)⟩, ⟨⟨some 51, .mov (.s 1), (some (47, false))⟩, 18, [1, 47], 0, [], (List.range 15)⟩, ⟨⟨some 52, .mov (.s 6), (some (47, false))⟩, 19, [6, 47], 0, [], (List.range 15)⟩, ⟨⟨some 53, .bin .sub (.s 51) (.s 52), (some (47, false))⟩, 20, [47, 51, 52], 0, [], [0, 1, 2, 3, 4, 5, 6, 7, 8, 9, 10, 11, 12, 13, 14, 18, 19]⟩, ⟨⟨some 54, .bin .gtr (.s 50) (.s 53), (some (47, false))⟩, 21, [47, 50, 53], 0, [], (List.range 21)⟩, ⟨⟨some 55, .pick (.s 47) (.k (.bool true)) (.s 54), none⟩, 22, [47, 54], 0, [], (List.range 22)⟩]
def a25r9 : List AOper := [⟨some 4, .mov (.k (.nilp)), none⟩]
def a25r10 : List AOper := [mv 56 6, fd 57 8 1, ld 58 57, ⟨some 59, .len 1 (.s 58), none⟩, ⟨some 60, .bin .add (.s 56) (.s 59), none⟩, mv 6 60]
def a25d11 : List DItem := [⟨mv 61 5, 0, [5], 0, [], []⟩, ⟨mv 62 5, 1, [5], 0, [], []⟩, ⟨nk 63 62, 2, [62], 0, [], [1]⟩, ⟨fd 64 63 0, 3, [63], 0, [], [1, 2]⟩, ⟨ld 65 64, 4, [64], 1, [], [1, 2, 3]⟩, ⟨fd 66 8 1, 5, [8], 0, [], []⟩, ⟨ld 67 66, 6, [8, 66], 1, [], [5]⟩, ⟨fd 68 8 1, 7, [8], 0, [], []⟩, ⟨ld 69 68, 8, [8, 68], 1, [], [7]⟩, ⟨⟨some 70, .len 1 (.s 69), none⟩, 9, [69], 0, [], [7, 8]⟩, ⟨⟨some 71, .build [.nils, .int .i64 0] [(0, 1, (.s 67)), (1, 1, (.s 70))], none⟩, 10, [67, 70], 0, [], [5, 6, 7, 8, 9]⟩, ⟨⟨some 72, .lits 2 1 [.nils, .int .i64 0] [(0, 2, (.s 71))], none⟩, 11, [71], 0, [], [5, 6, 7, 8, 9, 10]⟩, ⟨⟨some 73, .app 2 32 (.s 65) (.s 72) 0, none⟩, 12, [65, 72], 4, [], [1, 2, 3, 4, 5, 6, 7, 8, 9, 10, 11]⟩, ⟨nk 74 61, 13, [61], 0, [], (List.range 13)⟩, ⟨fd 75 74 0, 14, [74], 0, [], (List.range 14)⟩, ⟨⟨none, .store 1 (.s 75) (.s 73), none⟩, 15, [73, 75], 4, [], (List.range 15)⟩]
def a25d12 : List DItem := [⟨mv 76 5, 0, [5], 0, [], []⟩, ⟨mv 77 5, 1, [5], 0, [], []⟩, ⟨nk 78 77, 2, [77], 0, [], [1]⟩, ⟨fd 79 78 1, 3, [78], 0, [], [1, 2]⟩, ⟨ld 80 79, 4, [79], 1, [], [1, 2, 3]⟩, ⟨fd 81 8 0, 5, [8], 0, [], []⟩, ⟨ld 82 81, 6, [8, 81], 1, [], [5]⟩, ⟨mv 83 7, 7, [7], 0, [], []⟩, ⟨⟨some 84, .build [(strv []), .int .i64 0] [(0, 1, (.s 82)), (1, 1, (.s 83))], none⟩, 8, [82, 83], 0, [], [5, 6, 7]⟩, ⟨⟨some 85, .call 56 [(.s 80), (.s 84)] false, none⟩, 9, [80, 84], 4, [], [1, 2, 3, 4, 5, 6, 7, 8]⟩, ⟨nk 86 76, 10, [76], 0, [], (List.range 10)⟩, ⟨fd 87 86 1, 11, [86], 0, [], (List.range 11)⟩, ⟨⟨none, .store 1 (.s 87) (.s 85), none⟩, 12, [85, 87], 4, [], (List.range 12)⟩]
def a25r13 : List AOper := [mv 27 7, ⟨some 28, .bin .add (.s 27) (.k (.int .i64 1)), none⟩, mv 7 28]
def a25l0 : ACode := (.seq (.seq (.reg 0 a25r6 [0, 1, 5, 6, 7, 26]) (.cond (.s 26) .skip (.exit 0))) (.seq (.block 1 (.seq (.reg 0 a25r7 [0, 1, 5, 6, 7, 8]) (.seq (.seq (.dreg 0 a25d8 [0, 1, 5, 6, 7, 8, 55]) (.cond (.s 55) (.seq (.reg 0 a25r9 [4]) .ret) .skip)) (.seq (.reg 0 a25r10 [0, 1, 5, 6, 7, 8]) (.seq (.dreg 1 a25d11 [0, 1, 5, 6, 7, 8]) (.dreg 0 a25d12 [0, 1, 5, 6, 7])))))) (.reg 0 a25r13 [0, 1, 5, 6, 7])))
def a25r14 : List AOper := [mv 88 5, mv 89 5, nk 90 89, fd 91 90 1, ld 92 91, nk 93 88, fd 94 93 2, ⟨none, .store 1 (.s 94) (.s 92), none⟩]
def a25r15 : List AOper := [mv 95 5, mv 4 95]
def a25c : ACode := (.seq (.reg 0 a25r0 [0, 1]) (.seq (.seq (.reg 0 a25r1 [0, 1, 19]) (.cond (.s 19) (.seq (.reg 0 a25r2 [4]) .ret) .skip)) (.seq (.reg 1 a25r3 [0, 1, 5]) (.seq (.reg 0 a25r4 [0, 1, 5, 6]) (.seq (.seq (.reg 0 a25r5 [0, 1, 5, 6, 7]) (.block 0 (.loop a25l0))) (.seq (.reg 0 a25r14 [5]) (.seq (.reg 0 a25r15 [4]) .ret)))))))
def a25 : AFn := ⟨[.slot 4], a25c⟩
theorem ok25 : fnOkB 25 a25 = true := by decide +kernel
/- blazon/blazonlaw03.alike -/
def a26r0 : List AOper := [⟨some 4, .mov (.k (.bool false)), none⟩]
def a26d1 : List DItem := [⟨mv 12 0, 0, [0], 0, [], []⟩, ⟨mv 14 1, 2, [1], 0, [], []⟩, ⟨nk 15 14, 3, [14], 0, [], [1]⟩, ⟨fd 16 15 5, 4, [15], 0, [], [1, 2]⟩, ⟨ld 17 16, 5, [16], 1, [], [1, 2, 3]⟩, ⟨⟨some 13, .call 23 [(.s 12)] false, none⟩, 1, [12], 4, [4], [0]⟩, ⟨⟨some 18, .cmp 0 true (.s 13) (.s 17), none⟩, 6, [13, 17], 0, [], (List.range 6)⟩, ⟨mv 19 18, 7, [18], 0, [], (List.range 7)⟩, ⟨⟨some 20, .mov (.s 0), (some (19, false))⟩, 8, [0, 19], 0, [], (List.range 8)⟩, ⟨⟨some 22, .mov (.s 1), (some (19, false))⟩, 10, [1, 19], 0, [], (List.range 8)⟩, ⟨⟨some 23, .nilck (.s 22), (some (19, false))⟩, 11, [19, 22], 0, [], [0, 1, 2, 3, 4, 5, 6, 7, 9]⟩, ⟨⟨some 24, .fadr (.s 23) 6, (some (19, false))⟩, 12, [19, 23], 0, [], [0, 1, 2, 3, 4, 5, 6, 7, 9, 10]⟩, ⟨⟨some 25, .load none (.s 24), (some (19, false))⟩, 13, [19, 24], 1, [], [0, 1, 2, 3, 4, 5, 6, 7, 9, 10, 11]⟩, ⟨⟨some 21, .call 34 [(.s 20)] false, (some (19, false))⟩, 9, [19, 20], 4, [12], (List.range 9)⟩, ⟨⟨some 26, .bin .neq (.s 21) (.s 25), (some (19, false))⟩, 14, [19, 21, 25], 0, [], (List.range 14)⟩, ⟨⟨some 27, .pick (.s 19) (.k (.bool true)) (.s 26), none⟩, 15, [19, 26], 0, [], (List.range 15)⟩]
def a26r2 : List AOper := [⟨some 4, .mov (.k (.bool false)), none⟩]
def a26r3 : List AOper := [mv 28 0, ⟨some 29, .call 24 [(.s 28)] false, none⟩, mv 5 29]
def a26r4 : List AOper := [mv 30 1, nk 31 30, fd 32 31 5, ld 33 32]
def a26r5 : List AOper := [mv 35 0, ⟨some 36, .call 13 [(.s 35), (.k ((strv [97])))] false, none⟩, mv 34 36, ⟨some 37, .ext (.s 34) 0, none⟩, ⟨some 38, .ext (.s 34) 1, none⟩, mv 6 37, mv 7 38]
def a26r6 : List AOper := [mv 39 5, ⟨some 40, .len 1 (.s 39), none⟩, ⟨some 41, .bin .eql (.s 40) (.k (.int .i64 0)), none⟩, mv 42 41, ⟨some 43, .mov (.s 0), (some (42, true))⟩, ⟨some 44, .call 33 [(.s 43)] false, (some (42, true))⟩, ⟨some 45, .bin .eql (.s 44) (.k (.int .i64 0)), (some (42, true))⟩, ⟨some 46, .pick (.s 42) (.s 45) (.k (.bool false)), none⟩, mv 47 46, ⟨some 48, .mov (.s 7), (some (47, true))⟩, ⟨some 49, .bin .eql (.s 48) (.k (.int .i64 9)), (some (47, true))⟩, ⟨some 50, .pick (.s 47) (.s 49) (.k (.bool false)), none⟩, mv 4 50]
def a26r7 : List AOper := [mv 51 1, ⟨some 52, .call 57 [(.s 51)] false, none⟩, mv 8 52]
def a26r8 : List AOper := [mv 53 5, ⟨some 54, .len 1 (.s 53), none⟩, mv 55 8, ⟨some 56, .len 1 (.s 55), none⟩, ⟨some 57, .bin .neq (.s 54) (.s 56), none⟩, mv 58 57, ⟨some 59, .mov (.s 0), (some (58, false))⟩, ⟨some 60, .call 33 [(.s 59)] false, (some (58, false))⟩, ⟨some 61, .mov (.s 1), (some (58, false))⟩, ⟨some 62, .call 58 [(.s 61)] false, (some (58, false))⟩, ⟨some 63, .bin .neq (.s 60) (.s 62), (some (58, false))⟩, ⟨some 64, .pick (.s 58) (.k (.bool true)) (.s 63), none⟩]
def a26r9 : List AOper := [⟨some 4, .mov (.k (.bool false)), none⟩]
def a26r10 : List AOper := [⟨some 9, .mov (.k (.int .i64 0)), none⟩]
def a26r11 : List AOper := [mv 65 9, mv 66 8, ⟨some 67, .len 1 (.s 66), none⟩, ⟨some 68, .bin .lss (.s 65) (.s 67), none⟩]
def a26r12 : List AOper := [mv 72 0, mv 73 8, mv 74 9, ⟨some 75, .idxa none 2 (.s 73) (.s 74), none⟩, fd 76 75 0, ld 77 76, ⟨some 78, .call 13 [(.s 72), (.s 77)] false, none⟩, mv 71 78, ⟨some 79, .ext (.s 71) 0, none⟩, ⟨some 80, .ext (.s 71) 1, none⟩, mv 10 79, mv 11 80]
def a26d13 : List DItem := [⟨mv 81 5, 0, [5], 0, [], []⟩, ⟨mv 82 9, 1, [9], 0, [], []⟩, ⟨⟨some 83, .idxa none 1 (.s 81) (.s 82), none⟩, 2, [81, 82], 0, [], [0, 1]⟩, ⟨ld 84 83, 3, [83], 1, [], [0, 1, 2]⟩, ⟨mv 85 8, 4, [8], 0, [], []⟩, ⟨mv 86 9, 5, [9], 0, [], []⟩, ⟨⟨some 87, .idxa none 2 (.s 85) (.s 86), none⟩, 6, [85, 86], 0, [], [4, 5]⟩, ⟨fd 88 87 0, 7, [87], 0, [], [4, 5, 6]⟩, ⟨ld 89 88, 8, [88], 1, [], [4, 5, 6, 7]⟩, ⟨⟨some 90, .bin .neq (.s 84) (.s 89), none⟩, 9, [84, 89], 0, [], (List.range 9)⟩, ⟨mv 91 90, 10, [90], 0, [], (List.range 10)⟩, ⟨⟨some 92, .mov (.s 11), (some (91, false))⟩, 11, [11, 91], 0, [], (List.range 11)⟩, ⟨⟨some 93, .bin .neq (.s 92) (.k (.int .i64 0)), (some (91, false))⟩, 12, [91, 92], 0, [], (List.range 12)⟩, ⟨⟨some 94, .pick (.s 91) (.k (.bool true)) (.s 93), none⟩, 13, [91, 93], 0, [], (List.range 13)⟩, ⟨mv 95 94, 14, [94], 0, [], (List.range 14)⟩, ⟨⟨some 96, .mov (.s 10), (some (95, false))⟩, 15, [10, 95], 0, [], (List.range 15)⟩, ⟨⟨some 97, .mov (.s 8), (some (95, false))⟩, 16, [8, 95], 0, [], (List.range 15)⟩, ⟨⟨some 98, .mov (.s 9), (some (95, false))⟩, 17, [9, 95], 0, [], (List.range 15)⟩, ⟨⟨some 99, .idxa none 2 (.s 97) (.s 98), (some (95, false))⟩, 18, [95, 97, 98], 0, [], [0, 1, 2, 3, 4, 5, 6, 7, 8, 9, 10, 11, 12, 13, 14, 16, 17]⟩, ⟨⟨some 100, .fadr (.s 99) 1, (some (95, false))⟩, 19, [95, 99], 0, [], [0, 1, 2, 3, 4, 5, 6, 7, 8, 9, 10, 11, 12, 13, 14, 16, 17, 18]⟩, ⟨⟨some 101, .load none (.s 100), (some (95, false))⟩, 20, [95, 100], 1, [], [0, 1, 2, 3, 4, 5, 6, 7, 8, 9, 10, 11, 12, 13, 14, 16, 17, 18, 19]⟩, ⟨⟨some 102, .call 14 [(.s 96), (.s 101)] false, (some (95, false))⟩, 21, [95, 96, 101], 4, [], (List.range 21)⟩, ⟨⟨some 103, .un .not (.s 102), (some (95, false))⟩, 22, [95, 102], 0, [], (List.range 22)⟩, ⟨⟨some 104, .pick (.s 95) (.k (.bool true)) (.s 103), none⟩, 23, [95, 103], 0, [], (List.range 23)⟩]
def a26r14 : List AOper := [⟨some 4, .mov (.k (.bool false)), none⟩]
def a26r15 : List AOper := [mv 69 9, ⟨some 70, .bin .add (.s 69) (.k (.int .i64 1)), none⟩, mv 9 70]
def a26l0 : ACode := (.seq (.seq (.reg 0 a26r11 [0, 5, 8, 9, 68]) (.cond (.s 68) .skip (.exit 0))) (.seq (.block 1 (.seq (.reg 0 a26r12 [0, 5, 8, 9, 10, 11]) (.seq (.dreg 0 a26d13 [0, 5, 8, 9, 104]) (.cond (.s 104) (.seq (.reg 0 a26r14 [4]) .ret) .skip)))) (.reg 0 a26r15 [0, 5, 8, 9])))
def a26r16 : List AOper := [⟨some 4, .mov (.k (.bool true)), none⟩]
def a26c : ACode := (.seq (.reg 0 a26r0 [0, 1]) (.seq (.seq (.dreg 0 a26d1 [0, 1, 27]) (.cond (.s 27) (.seq (.reg 0 a26r2 [4]) .ret) .skip)) (.seq (.reg 0 a26r3 [0, 1, 5]) (.seq (.seq (.reg 0 a26r4 [0, 1, 5, 33]) (.cond (.s 33) (.seq (.reg 0 a26r5 [0, 5, 7]) (.seq (.reg 0 a26r6 [4]) .ret)) .skip)) (.seq (.reg 0 a26r7 [0, 1, 5, 8]) (.seq (.seq (.reg 0 a26r8 [0, 5, 8, 64]) (.cond (.s 64) (.seq (.reg 0 a26r9 [4]) .ret) .skip)) (.seq (.seq (.reg 0 a26r10 [0, 5, 8, 9]) (.block 0 (.loop a26l0))) (.seq (.reg 0 a26r16 [4]) .ret))))))))
def a26 : AFn := ⟨[.slot 4], a26c⟩
theorem ok26 : fnOkB 26 a26 = true := by decide +kernel
/- (*blazon/blazonref03.Disk).Read -/
def a27r0 : List AOper := [⟨some 4, .mov (.k (.nils)), none⟩, ⟨some 5, .mov (.k (.int .i64 0)), none⟩]
def a27r1 : List AOper := [mv 7 0, nk 8 7, fd 9 8 5, ld 10 9]
def a27r2 : List AOper := [⟨some 4, .mov (.k (.nils)), none⟩, ⟨some 5, .mov (.k (.int .i64 9)), none⟩]
def a27r3 : List AOper := [mv 11 0, nk 12 11, fd 13 12 1, ld 14 13, mv 15 1, ⟨some 16, .call 55 [(.s 14), (.s 15)] false, none⟩, mv 6 16]
def a27r4 : List AOper := [mv 17 6, ⟨some 18, .bin .lss (.s 17) (.k (.int .i64 0)), none⟩]
def a27r5 : List AOper := [⟨some 4, .mov (.k (.nils)), none⟩, ⟨some 5, .mov (.k (.int .i64 6)), none⟩]
def a27r6 : List AOper := [mv 19 0, nk 20 19, fd 21 20 0, ld 22 21, mv 23 6, ⟨some 24, .idxa none 2 (.s 22) (.s 23), none⟩, fd 25 24 0, ld 26 25, mv 4 26, ⟨some 5, .mov (.k (.int .i64 0)), none⟩]
def a27c : ACode := (.seq (.reg 0 a27r0 [0, 1]) (.seq (.seq (.reg 0 a27r1 [0, 1, 10]) (.cond (.s 10) (.seq (.reg 0 a27r2 [4, 5]) .ret) .skip)) (.seq (.reg 0 a27r3 [0, 6]) (.seq (.seq (.reg 0 a27r4 [0, 6, 18]) (.cond (.s 18) (.seq (.reg 0 a27r5 [4, 5]) .ret) .skip)) (.seq (.reg 0 a27r6 [4, 5]) .ret)))))
def a27 : AFn := ⟨[.slot 4, .slot 5], a27c⟩
theorem ok27 : fnOkB 27 a27 = true := by decide +kernel
/- blazon/disk.Name -/
def a28r0 : List AOper := [⟨some 2, .mov (.k (.bool false)), none⟩]
def a28r1 : List AOper := [⟨some 3, .mov (.k (.fn 59 [])), none⟩]
def a28r2 : List AOper := [mv 4 0, ⟨some 5, .bin .neq (.s 4) (.k ((strv []))), none⟩, mv 6 5, ⟨some 7, .mov (.s 0), (some (6, true))⟩, ⟨some 8, .len 0 (.s 7), (some (6, true))⟩, ⟨some 9, .bin .leq (.s 8) (.k (.int .i64 24)), (some (6, true))⟩, ⟨some 10, .pick (.s 6) (.s 9) (.k (.bool false)), none⟩, mv 11 10, ⟨some 12, .mov (.s 0), (some (11, true))⟩, ⟨some 13, .mov (.s 3), (some (11, true))⟩, ⟨some 14, .call 60 [(.s 12), (.s 13)] false, (some (11, true))⟩, ⟨some 15, .un .not (.s 14), (some (11, true))⟩, ⟨some 16, .pick (.s 11) (.s 15) (.k (.bool false)), none⟩, mv 2 16]
def a28c : ACode := (.seq (.reg 0 a28r0 [0]) (.seq (.reg 0 a28r1 [0, 3]) (.seq (.reg 0 a28r2 [2]) .ret)))
def a28 : AFn := ⟨[.slot 2], a28c⟩
theorem ok28 : fnOkB 28 a28 = true := by decide +kernel
/- blazon/blazonref03.Name -/
def a29r0 : List AOper := [⟨some 2, .mov (.k (.bool false)), none⟩]
def a29r1 : List AOper := [⟨some 3, .mov (.k (.int .i64 0)), none⟩]
def a29r2 : List AOper := [mv 5 3, mv 6 0, ⟨some 7, .len 0 (.s 6), none⟩, ⟨some 8, .bin .lss (.s 5) (.s 7), none⟩]
def a29r3 : List AOper := [mv 11 0, mv 12 3, ⟨some 13, .idx (.s 11) (.s 12), none⟩, mv 4 13]
def a29r4 : List AOper := [mv 14 4, ⟨some 15, .bin .geq (.s 14) (.k (.int .u8 97)), none⟩, mv 16 15, ⟨some 17, .mov (.s 4), (some (16, true))⟩, ⟨some 18, .bin .leq (.s 17) (.k (.int .u8 122)), (some (16, true))⟩, ⟨some 19, .pick (.s 16) (.s 18) (.k (.bool false)), none⟩, ⟨some 20, .un .not (.s 19), none⟩, mv 21 20, ⟨some 22, .mov (.s 4), (some (21, true))⟩, ⟨some 23, .bin .geq (.s 22) (.k (.int .u8 48)), (some (21, true))⟩, ⟨some 24, .mov (.s 23), (some (21, true))⟩, ⟨some 25, .mov (.s 4), (some (24, true))⟩, ⟨some 26, .bin .leq (.s 25) (.k (.int .u8 57)), (some (24, true))⟩, ⟨some 27, .pick (.s 24) (.s 26) (.k (.bool false)), (some (21, true))⟩, ⟨some 28, .un .not (.s 27), (some (21, true))⟩, ⟨some 29, .pick (.s 21) (.s 28) (.k (.bool false)), none⟩, mv 30 29, ⟨some 31, .mov (.s 4), (some (30, true))⟩, ⟨some 32, .bin .neq (.s 31) (.k (.int .u8 45)), (some (30, true))⟩, ⟨some 33, .pick (.s 30) (.s 32) (.k (.bool false)), none⟩, mv 34 33, ⟨some 35, .mov (.s 4), (some (34, true))⟩, ⟨some 36, .bin .neq (.s 35) (.k (.int .u8 46)), (some (34, true))⟩, ⟨some 37, .pick (.s 34) (.s 36) (.k (.bool false)), none⟩, mv 38 37, ⟨some 39, .mov (.s 4), (some (38, true))⟩, ⟨some 40, .bin .neq (.s 39) (.k (.int .u8 126)), (some (38, true))⟩, ⟨some 41, .pick (.s 38) (.s 40) (.k (.bool false)), none⟩]
def a29r5 : List AOper := [⟨some 2, .mov (.k (.bool false)), none⟩]
def a29r6 : List AOper := [mv 9 3, ⟨some 10, .bin .add (.s 9) (.k (.int .i64 1)), none⟩, mv 3 10]
def a29l0 : ACode := (.seq (.seq (.reg 0 a29r2 [0, 3, 8]) (.cond (.s 8) .skip (.exit 0))) (.seq (.block 1 (.seq (.reg 0 a29r3 [0, 3, 4]) (.seq (.reg 0 a29r4 [0, 3, 41]) (.cond (.s 41) (.seq (.reg 0 a29r5 [2]) .ret) .skip)))) (.reg 0 a29r6 [0, 3])))
def a29r7 : List AOper := [mv 42 0, ⟨some 43, .len 0 (.s 42), none⟩, ⟨some 44, .bin .geq (.s 43) (.k (.int .i64 1)), none⟩, mv 45 44, ⟨some 46, .mov (.s 0), (some (45, true))⟩, ⟨some 47, .len 0 (.s 46), (some (45, true))⟩, ⟨some 48, .bin .leq (.s 47) (.k (.int .i64 24)), (some (45, true))⟩, ⟨some 49, .pick (.s 45) (.s 48) (.k (.bool false)), none⟩, mv 2 49]
def a29c : ACode := (.seq (.reg 0 a29r0 [0]) (.seq (.seq (.reg 0 a29r1 [0, 3]) (.block 0 (.loop a29l0))) (.seq (.reg 0 a29r7 [2]) .ret)))
def a29 : AFn := ⟨[.slot 2], a29c⟩
theorem ok29 : fnOkB 29 a29 = true := by decide +kernel
/- (*blazon/disk.Disk).Fault -/
def a30r0 : List AOper := [mv 6 0, ⟨some 7, .cmp 1 false (.s 6) (.k (.nilp)), none⟩]
def a30r1 : List AOper := [mv 8 0, mv 9 0, mv 10 0, mv 11 1, ⟨some 12, .call 49 [(.s 10), (.s 11)] false, none⟩, mv 13 2, nk 14 8, fd 15 14 8, ⟨none, .store 1 (.s 15) (.s 12), none⟩, nk 16 9, fd 17 16 9, ⟨none, .store 1 (.s 17) (.s 13), none⟩]
def a30r2 : List AOper := [mv 18 2, ⟨some 19, .bin .eql (.s 18) (.k (.int .i64 0)), none⟩, mv 20 19, ⟨some 21, .mov (.s 2), (some (20, false))⟩, ⟨some 22, .bin .eql (.s 21) (.k (.int .i64 9)), (some (20, false))⟩, ⟨some 23, .pick (.s 20) (.k (.bool true)) (.s 22), none⟩]
def a30r3 : List AOper := [mv 24 0, nk 25 24, fd 26 25 8, ⟨none, .store 1 (.s 26) (.k (.int .i64 0)), none⟩]
def a30c : ACode := (.seq (.seq (.reg 0 a30r0 [0, 1, 2, 7]) (.cond (.s 7) .ret .skip)) (.seq (.reg 0 a30r1 [0, 2]) (.seq (.reg 0 a30r2 [0, 23]) (.cond (.s 23) (.reg 0 a30r3 []) .skip))))
def a30 : AFn := ⟨[], a30c⟩
theorem ok30 : fnOkB 30 a30 = true := by decide +kernel
/- (*blazon/disk.Disk).Rename -/
def a31r0 : List AOper := [⟨some 6, .mov (.k (.int .i64 0)), none⟩]
def a31r1 : List AOper := [mv 10 0, mv 11 1, ⟨some 12, .call 37 [(.s 10), (.s 11)] false, none⟩, mv 9 12, ⟨some 13, .ext (.s 9) 0, none⟩, ⟨some 14, .ext (.s 9) 1, none⟩, mv 7 13, mv 8 14]
def a31r2 : List AOper := [mv 15 8, ⟨some 16, .bin .neq (.s 15) (.k (.int .i64 0)), none⟩]
def a31r3 : List AOper := [mv 17 8, mv 6 17]
def a31r4 : List AOper := [mv 18 2, ⟨some 19, .call 28 [(.s 18)] false, none⟩, ⟨some 20, .un .not (.s 19), none⟩]
def a31r5 : List AOper := [⟨some 6, .mov (.k (.int .i64 1)), none⟩]
def a31r6 : List AOper := [mv 21 0, mv 22 1, mv 23 2, ⟨some 24, .build [(strv []), (strv []), .nilp] [(0, 1, (.s 22)), (1, 1, (.s 23))], none⟩, ⟨some 25, .call 39 [(.s 21), (.s 24)] false, none⟩, mv 6 25]
def a31c : ACode := (.seq (.reg 0 a31r0 [0, 1, 2]) (.seq (.seq (.reg 0 a31r1 [0, 1, 2, 8]) (.seq (.reg 0 a31r2 [0, 1, 2, 8, 16]) (.cond (.s 16) (.seq (.reg 0 a31r3 [6]) .ret) .skip))) (.seq (.seq (.reg 0 a31r4 [0, 1, 2, 20]) (.cond (.s 20) (.seq (.reg 0 a31r5 [6]) .ret) .skip)) (.seq (.reg 0 a31r6 [6]) .ret))))
def a31 : AFn := ⟨[.slot 6], a31c⟩
theorem ok31 : fnOkB 31 a31 = true := by decide +kernel
/- (*blazon/disk.Disk).Remove -/
def a32r0 : List AOper := [⟨some 4, .mov (.k (.int .i64 0)), none⟩]
def a32r1 : List AOper := [mv 8 0, mv 9 1, ⟨some 10, .call 37 [(.s 8), (.s 9)] false, none⟩, mv 7 10, ⟨some 11, .ext (.s 7) 0, none⟩, ⟨some 12, .ext (.s 7) 1, none⟩, mv 5 11, mv 6 12]
def a32r2 : List AOper := [mv 13 6, ⟨some 14, .bin .neq (.s 13) (.k (.int .i64 0)), none⟩]
def a32r3 : List AOper := [mv 15 6, mv 4 15]
def a32r4 : List AOper := [mv 16 0, mv 17 1, ⟨some 18, .build [(strv []), (strv []), .nilp] [(0, 1, (.s 17))], none⟩, ⟨some 19, .call 39 [(.s 16), (.s 18)] false, none⟩, mv 4 19]
def a32c : ACode := (.seq (.reg 0 a32r0 [0, 1]) (.seq (.seq (.reg 0 a32r1 [0, 1, 6]) (.seq (.reg 0 a32r2 [0, 1, 6, 14]) (.cond (.s 14) (.seq (.reg 0 a32r3 [4]) .ret) .skip))) (.seq (.reg 0 a32r4 [4]) .ret)))
def a32 : AFn := ⟨[.slot 4], a32c⟩
theorem ok32 : fnOkB 32 a32 = true := by decide +kernel
/- (*blazon/disk.Disk).Used -/
def a33r0 : List AOper := [⟨some 2, .mov (.k (.int .i64 0)), none⟩]
def a33r1 : List AOper := [⟨some 3, .mov (.k (.int .i64 0)), none⟩]
def a33r2 : List AOper := [mv 6 0, ⟨some 7, .cmp 1 false (.s 6) (.k (.nilp)), none⟩, mv 8 7, ⟨some 9, .mov (.s 0), (some (8, false))⟩, ⟨some 10, .nilck (.s 9), (some (8, false))⟩, ⟨some 11, .fadr (.s 10) 5, (some (8, false))⟩, ⟨some 12, .load none (.s 11), (some (8, false))⟩, ⟨some 13, .pick (.s 8) (.k (.bool true)) (.s 12), none⟩]
def a33r3 : List AOper := [⟨some 2, .mov (.k (.int .i64 0)), none⟩]
def a33r4 : List AOper := [mv 14 0, nk 15 14, fd 16 15 1, ld 17 16, ⟨some 18, .range true (.s 17) 0, none⟩]
def a33r5 : List AOper := [⟨some 19, .next false (.s 18), none⟩, ⟨some 20, .ext (.s 19) 0, none⟩]
def a33r6 : List AOper := [⟨some 21, .entry (.s 18), none⟩, ⟨some 22, .ext (.s 21) 1, none⟩, mv 5 22]
def a33r7 : List AOper := [mv 23 3, mv 24 5, nk 25 24, fd 26 25 0, ld 27 26, ⟨some 28, .len 1 (.s 27), none⟩, ⟨some 29, .bin .add (.s 23) (.s 28), none⟩, mv 3 29]
def a33l0 : ACode := (.seq (.reg 0 a33r5 [3, 18, 20]) (.seq (.cond (.s 20) .skip (.exit 0)) (.block 1 (.seq (.reg 0 a33r6 [3, 5, 18]) (.reg 0 a33r7 [3, 18])))))
def a33r8 : List AOper := [mv 30 3, mv 2 30]
def a33c : ACode := (.seq (.reg 0 a33r0 [0]) (.seq (.reg 0 a33r1 [0, 3]) (.seq (.seq (.reg 0 a33r2 [0, 3, 13]) (.cond (.s 13) (.seq (.reg 0 a33r3 [2]) .ret) .skip)) (.seq (.seq (.reg 1 a33r4 [3, 18]) (.block 0 (.loop a33l0))) (.seq (.reg 0 a33r8 [2]) .ret)))))
def a33 : AFn := ⟨[.slot 2], a33c⟩
theorem ok33 : fnOkB 33 a33 = true := by decide +kernel
/- (*blazon/disk.Disk).Calls -/
def a34r0 : List AOper := [⟨some 2, .mov (.k (.int .i64 0)), none⟩]
def a34r1 : List AOper := [mv 3 0, ⟨some 4, .cmp 1 false (.s 3) (.k (.nilp)), none⟩]
def a34r2 : List AOper := [⟨some 2, .mov (.k (.int .i64 0)), none⟩]
def a34r3 : List AOper := [mv 5 0, nk 6 5, fd 7 6 6, ⟨some 8, .call 61 [(.s 7)] false, none⟩, mv 2 8]
def a34c : ACode := (.seq (.reg 0 a34r0 [0]) (.seq (.seq (.reg 0 a34r1 [0, 4]) (.cond (.s 4) (.seq (.reg 0 a34r2 [2]) .ret) .skip)) (.seq (.reg 0 a34r3 [2]) .ret)))
def a34 : AFn := ⟨[.slot 2], a34c⟩
theorem ok34 : fnOkB 34 a34 = true := by decide +kernel
/- slices.Clone[[]byte,byte] -/
def a35r0 : List AOper := [⟨some 2, .mov (.k (.nils)), none⟩]
def a35r1 : List AOper := [mv 3 0, ⟨some 4, .cmp 2 false (.s 3) (.k (.nils)), none⟩]
def a35r2 : List AOper := [⟨some 2, .mov (.k (.nils)), none⟩]
def a35r3 : List AOper := [⟨some 5, .buildsl 1 0 [.int .u8 0] [] 0, none⟩, mv 6 0, ⟨some 7, .app 1 1 (.s 5) (.s 6) 1, none⟩, mv 2 7]
def a35c : ACode := (.seq (.reg 0 a35r0 [0]) (.seq (.seq (.reg 0 a35r1 [0, 4]) (.cond (.s 4) (.seq (.reg 0 a35r2 [2]) .ret) .skip)) (.seq (.reg 2 a35r3 [2]) .ret)))
def a35 : AFn := ⟨[.slot 2], a35c⟩
theorem ok35 : fnOkB 35 a35 = true := by decide +kernel
/- (*blazon/disk.Disk).open -/
def a37r0 : List AOper := [⟨some 4, .mov (.k (.nilp)), none⟩, ⟨some 5, .mov (.k (.int .i64 0)), none⟩]
def a37r1 : List AOper := [mv 8 0, ⟨some 9, .call 38 [(.s 8)] false, none⟩, mv 6 9]
def a37r2 : List AOper := [mv 10 6, ⟨some 11, .bin .neq (.s 10) (.k (.int .i64 0)), none⟩]
def a37r3 : List AOper := [mv 12 6, ⟨some 4, .mov (.k (.nilp)), none⟩, mv 5 12]
def a37r4 : List AOper := [mv 13 0, nk 14 13, fd 15 14 1, ld 16 15, mv 17 1, ⟨some 18, .lookup 1 (.nilp) false (.s 16) (.s 17), none⟩, mv 7 18]
def a37r5 : List AOper := [mv 19 7, ⟨some 20, .cmp 1 false (.s 19) (.k (.nilp)), none⟩]
def a37r6 : List AOper := [⟨some 4, .mov (.k (.nilp)), none⟩, ⟨some 5, .mov (.k (.int .i64 6)), none⟩]
def a37r7 : List AOper := [mv 21 7, mv 4 21, ⟨some 5, .mov (.k (.int .i64 0)), none⟩]
def a37c : ACode := (.seq (.reg 0 a37r0 [0, 1]) (.seq (.seq (.reg 0 a37r1 [0, 1, 6]) (.seq (.reg 0 a37r2 [0, 1, 6, 11]) (.cond (.s 11) (.seq (.reg 0 a37r3 [4, 5]) .ret) .skip))) (.seq (.reg 0 a37r4 [7]) (.seq (.seq (.reg 0 a37r5 [7, 20]) (.cond (.s 20) (.seq (.reg 0 a37r6 [4, 5]) .ret) .skip)) (.seq (.reg 0 a37r7 [4, 5]) .ret)))))
def a37 : AFn := ⟨[.slot 4, .slot 5], a37c⟩
theorem ok37 : fnOkB 37 a37 = true := by decide +kernel
/- (*blazon/disk.Disk).begin -/
def a38r0 : List AOper := [⟨some 2, .mov (.k (.int .i64 0)), none⟩]
def a38r1 : List AOper := [mv 5 0, ⟨some 6, .cmp 1 false (.s 5) (.k (.nilp)), none⟩, mv 4 6]
def a38r2 : List AOper := [⟨some 2, .mov (.k (.int .i64 1)), none⟩]
def a38r3 : List AOper := [mv 8 0, nk 9 8, fd 10 9 5, ld 11 10, mv 7 11]
def a38r4 : List AOper := [⟨some 2, .mov (.k (.int .i64 9)), none⟩]
def a38r5 : List AOper := [mv 12 0, nk 13 12, fd 14 13 6, ⟨some 15, .call 63 [(.s 14), (.k (.int .i64 1))] false, none⟩, mv 3 15]
def a38r6 : List AOper := [mv 16 3, mv 17 0, nk 18 17, fd 19 18 7, ld 20 19, ⟨some 21, .bin .eql (.s 16) (.s 20), none⟩]
def a38r7 : List AOper := [mv 22 0, nk 23 22, fd 24 23 5, ⟨none, .store 1 (.s 24) (.k (.bool true)), none⟩]
def a38r8 : List AOper := [⟨some 2, .mov (.k (.int .i64 9)), none⟩]
def a38r9 : List AOper := [mv 25 3, mv 26 0, nk 27 26, fd 28 27 8, ld 29 28, ⟨some 30, .bin .eql (.s 25) (.s 29), none⟩]
def a38r10 : List AOper := [mv 31 0, nk 32 31, fd 33 32 8, ⟨none, .store 1 (.s 33) (.k (.int .i64 0)), none⟩]
def a38r11 : List AOper := [mv 34 0, nk 35 34, fd 36 35 9, ld 37 36, mv 2 37]
def a38r12 : List AOper := [⟨some 2, .mov (.k (.int .i64 0)), none⟩]
def a38c : ACode := (.seq (.reg 0 a38r0 [0]) (.seq (.block 0 (.seq (.reg 0 a38r1 [0, 4]) (.cond (.s 4) (.seq (.reg 0 a38r2 [2]) .ret) (.seq (.reg 0 a38r3 [0, 7]) (.cond (.s 7) (.seq (.reg 0 a38r4 [2]) .ret) .skip))))) (.seq (.reg 0 a38r5 [0, 3]) (.seq (.seq (.reg 0 a38r6 [0, 3, 21]) (.cond (.s 21) (.seq (.reg 0 a38r7 []) (.seq (.reg 0 a38r8 [2]) .ret)) .skip)) (.seq (.seq (.reg 0 a38r9 [0, 30]) (.cond (.s 30) (.seq (.reg 0 a38r10 [0]) (.seq (.reg 0 a38r11 [2]) .ret)) .skip)) (.seq (.reg 0 a38r12 [2]) .ret))))))
def a38 : AFn := ⟨[.slot 2], a38c⟩
theorem ok38 : fnOkB 38 a38 = true := by decide +kernel
/- (*blazon/disk.Disk).turns -/
def a39r0 : List AOper := [⟨some 3, .box true (.s 1) 0, none⟩, ⟨some 4, .mov (.k (.int .i64 0)), none⟩]
def a39d1 : List DItem := [⟨⟨some 5, .load (some 3) (.s 3), none⟩, 0, [3], 1, [], []⟩, ⟨mv 6 0, 1, [0], 0, [], []⟩, ⟨nk 7 6, 2, [6], 0, [], [1]⟩, ⟨fd 8 7 1, 3, [7], 0, [], [1, 2]⟩, ⟨ld 9 8, 4, [8], 1, [], [1, 2, 3]⟩, ⟨⟨some 10, .call 50 [(.s 5), (.s 9)] false, none⟩, 5, [5, 9], 4, [], [0, 1, 2, 3, 4]⟩]
def a39d2 : List DItem := [⟨mv 11 0, 0, [0], 0, [], []⟩, ⟨mv 12 0, 1, [0], 0, [], []⟩, ⟨nk 13 12, 2, [12], 0, [], [1]⟩, ⟨fd 14 13 4, 3, [13], 0, [], [1, 2]⟩, ⟨ld 15 14, 4, [14], 1, [], [1, 2, 3]⟩, ⟨⟨some 16, .load (some 3) (.s 3), none⟩, 5, [3], 1, [], []⟩, ⟨⟨some 17, .lits 3 1 [(strv []), (strv []), .nilp] [(0, 3, (.s 16))], none⟩, 6, [16], 0, [], [5]⟩, ⟨⟨some 18, .app 3 40 (.s 15) (.s 17) 0, none⟩, 7, [15, 17], 4, [], [1, 2, 3, 4, 5, 6]⟩, ⟨nk 19 11, 8, [11], 0, [], (List.range 8)⟩, ⟨fd 20 19 4, 9, [19], 0, [], (List.range 9)⟩, ⟨⟨none, .store 1 (.s 20) (.s 18), none⟩, 10, [18, 20], 4, [], (List.range 10)⟩]
def a39r3 : List AOper := [⟨some 4, .mov (.k (.int .i64 0)), none⟩]
def a39c : ACode := (.seq (.reg 0 a39r0 [0, 3]) (.seq (.dreg 0 a39d1 [0, 3]) (.seq (.dreg 1 a39d2 []) (.seq (.reg 0 a39r3 [4]) .ret))))
def a39 : AFn := ⟨[.slot 4], a39c⟩
theorem ok39 : fnOkB 39 a39 = true := by decide +kernel
/- (*blazon/blazonref03.Disk).Create -/
def a40r0 : List AOper := [⟨some 4, .mov (.k (.int .i64 0)), none⟩]
def a40r1 : List AOper := [mv 6 0, ⟨some 7, .call 64 [(.s 6)] false, none⟩, mv 5 7]
def a40r2 : List AOper := [mv 8 5, ⟨some 9, .bin .neq (.s 8) (.k (.int .i64 0)), none⟩]
def a40r3 : List AOper := [mv 10 5, mv 4 10]
def a40r4 : List AOper := [mv 11 1, ⟨some 12, .call 29 [(.s 11)] false, none⟩, ⟨some 13, .un .not (.s 12), none⟩]
def a40r5 : List AOper := [⟨some 4, .mov (.k (.int .i64 1)), none⟩]
def a40r6 : List AOper := [mv 14 0, nk 15 14, fd 16 15 1, ld 17 16, mv 18 1, ⟨some 19, .call 55 [(.s 17), (.s 18)] false, none⟩, ⟨some 20, .bin .geq (.s 19) (.k (.int .i64 0)), none⟩]
def a40r7 : List AOper := [⟨some 4, .mov (.k (.int .i64 7)), none⟩]
def a40r8 : List AOper := [mv 21 0, nk 22 21, fd 23 22 1, ld 24 23, ⟨some 25, .len 1 (.s 24), none⟩, ⟨some 26, .bin .geq (.s 25) (.k (.int .i64 64)), none⟩]
def a40r9 : List AOper := [⟨some 4, .mov (.k (.int .i64 8)), none⟩]
def a40r10 : List AOper := [mv 27 0, ⟨some 28, .buildsl 2 0 [.nils, .int .i64 0] [] 0, none⟩, mv 29 0, nk 30 29, fd 31 30 0, ld 32 31, ⟨some 33, .app 2 32 (.s 28) (.s 32) 1, none⟩, ⟨some 34, .build [.nils, .int .i64 0] [], none⟩, ⟨some 35, .lits 2 1 [.nils, .int .i64 0] [(0, 2, (.s 34))], none⟩, ⟨some 36, .app 2 32 (.s 33) (.s 35) 2, none⟩, nk 37 27, fd 38 37 0, ⟨none, .store 1 (.s 38) (.s 36), none⟩]
def a40r11 : List AOper := [mv 39 0, mv 40 1, mv 41 0, nk 42 41, fd 43 42 0, ld 44 43, ⟨some 45, .len 1 (.s 44), none⟩, ⟨some 46, .bin .sub (.s 45) (.k (.int .i64 1)), none⟩, ⟨some 47, .build [(strv []), (strv []), .int .i64 0] [(1, 1, (.s 40)), (2, 1, (.s 46))], none⟩, ⟨some 48, .call 65 [(.s 39), (.s 47)] false, none⟩]
def a40r12 : List AOper := [⟨some 4, .mov (.k (.int .i64 0)), none⟩]
def a40c : ACode := (.seq (.reg 0 a40r0 [0, 1]) (.seq (.seq (.reg 0 a40r1 [0, 1, 5]) (.seq (.reg 0 a40r2 [0, 1, 5, 9]) (.cond (.s 9) (.seq (.reg 0 a40r3 [4]) .ret) .skip))) (.seq (.seq (.reg 0 a40r4 [0, 1, 13]) (.cond (.s 13) (.seq (.reg 0 a40r5 [4]) .ret) .skip)) (.seq (.seq (.reg 0 a40r6 [0, 1, 20]) (.cond (.s 20) (.seq (.reg 0 a40r7 [4]) .ret) .skip)) (.seq (.seq (.reg 0 a40r8 [0, 1, 26]) (.cond (.s 26) (.seq (.reg 0 a40r9 [4]) .ret) .skip)) (.seq (.reg 3 a40r10 [0, 1]) (.seq (.reg 0 a40r11 []) (.seq (.reg 0 a40r12 [4]) .ret))))))))
def a40 : AFn := ⟨[.slot 4], a40c⟩
theorem ok40 : fnOkB 40 a40 = true := by decide +kernel
/- (*blazon/blazonref03.Disk).Append -/
def a41r0 : List AOper := [⟨some 6, .mov (.k (.int .i64 0)), none⟩]
def a41r1 : List AOper := [mv 9 0, ⟨some 10, .call 64 [(.s 9)] false, none⟩, mv 7 10]
def a41r2 : List AOper := [mv 11 7, ⟨some 12, .bin .neq (.s 11) (.k (.int .i64 0)), none⟩]
def a41r3 : List AOper := [mv 13 7, mv 6 13]
def a41r4 : List AOper := [mv 14 0, nk 15 14, fd 16 15 1, ld 17 16, mv 18 1, ⟨some 19, .call 55 [(.s 17), (.s 18)] false, none⟩, mv 8 19]
def a41r5 : List AOper := [mv 20 8, ⟨some 21, .bin .lss (.s 20) (.k (.int .i64 0)), none⟩]
def a41r6 : List AOper := [⟨some 6, .mov (.k (.int .i64 6)), none⟩]
def a41d7 : List DItem := [⟨mv 22 2, 0, [2], 0, [], []⟩, ⟨⟨some 23, .len 1 (.s 22), none⟩, 1, [22], 0, [], [0]⟩, ⟨mv 24 0, 2, [0], 0, [], []⟩, ⟨nk 25 24, 3, [24], 0, [], [2]⟩, ⟨fd 26 25 4, 4, [25], 0, [], [2, 3]⟩, ⟨ld 27 26, 5, [26], 1, [], [2, 3, 4]⟩, ⟨mv 28 0, 6, [0], 0, [], []⟩, ⟨⟨some 29, .call 58 [(.s 28)] false, none⟩, 7, [28], 4, [5], [6]⟩, ⟨⟨some 30, .bin .sub (.s 27) (.s 29), none⟩, 8, [27, 29], 0, [], [2, 3, 4, 5, 6, 7]⟩, ⟨⟨some 31, .bin .gtr (.s 23) (.s 30), none⟩, 9, [23, 30], 0, [], (List.range 9)⟩]
def a41r8 : List AOper := [⟨some 6, .mov (.k (.int .i64 8)), none⟩]
def a41d9 : List DItem := [⟨mv 32 0, 0, [0], 0, [], []⟩, ⟨mv 33 8, 1, [8], 0, [], []⟩, ⟨mv 35 0, 3, [0], 0, [], []⟩, ⟨nk 36 35, 4, [35], 0, [], [2]⟩, ⟨fd 37 36 0, 5, [36], 0, [], [2, 3]⟩, ⟨ld 38 37, 6, [37], 1, [], [2, 3, 4]⟩, ⟨mv 39 8, 7, [8], 0, [], []⟩, ⟨⟨some 40, .idxa none 2 (.s 38) (.s 39), none⟩, 8, [38, 39], 0, [], [2, 3, 4, 5, 6]⟩, ⟨fd 41 40 0, 9, [40], 0, [], [2, 3, 4, 5, 6, 7]⟩, ⟨ld 42 41, 10, [41], 1, [], [2, 3, 4, 5, 6, 7, 8]⟩, ⟨mv 44 2, 12, [2], 0, [], []⟩, ⟨mv 46 0, 14, [0], 0, [], []⟩, ⟨nk 47 46, 15, [46], 0, [], [11]⟩, ⟨fd 48 47 0, 16, [47], 0, [], [11, 12]⟩, ⟨ld 49 48, 17, [48], 1, [], [11, 12, 13]⟩, ⟨mv 50 8, 18, [8], 0, [], []⟩, ⟨⟨some 51, .idxa none 2 (.s 49) (.s 50), none⟩, 19, [49, 50], 0, [], [11, 12, 13, 14, 15]⟩, ⟨fd 52 51 1, 20, [51], 0, [], [11, 12, 13, 14, 15, 16]⟩, ⟨ld 53 52, 21, [52], 1, [], [11, 12, 13, 14, 15, 16, 17]⟩, ⟨⟨some 34, .buildsl 1 0 [.int .u8 0] [] 0, none⟩, 2, [], 4, [5, 9, 14, 18], []⟩, ⟨⟨some 43, .app 1 1 (.s 34) (.s 42) 1, none⟩, 11, [34, 42], 4, [14, 18], [2, 3, 4, 5, 6, 7, 8, 9, 19]⟩, ⟨⟨some 45, .app 1 1 (.s 43) (.s 44) 2, none⟩, 13, [43, 44], 4, [14, 18], [2, 3, 4, 5, 6, 7, 8, 9, 10, 19, 20]⟩, ⟨⟨some 54, .build [.nils, .int .i64 0] [(0, 1, (.s 45)), (1, 1, (.s 53))], none⟩, 22, [45, 53], 0, [], [2, 3, 4, 5, 6, 7, 8, 9, 10, 11, 12, 13, 14, 15, 16, 17, 18, 19, 20, 21]⟩, ⟨⟨some 55, .call 66 [(.s 32), (.s 33), (.s 54)] false, none⟩, 23, [32, 33, 54], 4, [], (List.range 23)⟩]
def a41r10 : List AOper := [⟨some 6, .mov (.k (.int .i64 0)), none⟩]
def a41c : ACode := (.seq (.reg 0 a41r0 [0, 1, 2]) (.seq (.seq (.reg 0 a41r1 [0, 1, 2, 7]) (.seq (.reg 0 a41r2 [0, 1, 2, 7, 12]) (.cond (.s 12) (.seq (.reg 0 a41r3 [6]) .ret) .skip))) (.seq (.reg 0 a41r4 [0, 2, 8]) (.seq (.seq (.reg 0 a41r5 [0, 2, 8, 21]) (.cond (.s 21) (.seq (.reg 0 a41r6 [6]) .ret) .skip)) (.seq (.seq (.dreg 0 a41d7 [0, 2, 8, 31]) (.cond (.s 31) (.seq (.reg 0 a41r8 [6]) .ret) .skip)) (.seq (.dreg 3 a41d9 []) (.seq (.reg 0 a41r10 [6]) .ret)))))))
def a41 : AFn := ⟨[.slot 6], a41c⟩
theorem ok41 : fnOkB 41 a41 = true := by decide +kernel
/- (*blazon/blazonref03.Disk).Sync -/
def a42r0 : List AOper := [⟨some 4, .mov (.k (.int .i64 0)), none⟩]
def a42r1 : List AOper := [mv 7 0, ⟨some 8, .call 64 [(.s 7)] false, none⟩, mv 5 8]
def a42r2 : List AOper := [mv 9 5, ⟨some 10, .bin .neq (.s 9) (.k (.int .i64 0)), none⟩]
def a42r3 : List AOper := [mv 11 5, mv 4 11]
def a42r4 : List AOper := [mv 12 0, nk 13 12, fd 14 13 1, ld 15 14, mv 16 1, ⟨some 17, .call 55 [(.s 15), (.s 16)] false, none⟩, mv 6 17]
def a42r5 : List AOper := [mv 18 6, ⟨some 19, .bin .lss (.s 18) (.k (.int .i64 0)), none⟩]
def a42r6 : List AOper := [⟨some 4, .mov (.k (.int .i64 6)), none⟩]
def a42d7 : List DItem := [⟨mv 20 0, 0, [0], 0, [], []⟩, ⟨mv 21 6, 1, [6], 0, [], []⟩, ⟨mv 22 0, 2, [0], 0, [], []⟩, ⟨nk 23 22, 3, [22], 0, [], [2]⟩, ⟨fd 24 23 0, 4, [23], 0, [], [2, 3]⟩, ⟨ld 25 24, 5, [24], 1, [], [2, 3, 4]⟩, ⟨mv 26 6, 6, [6], 0, [], []⟩, ⟨⟨some 27, .idxa none 2 (.s 25) (.s 26), none⟩, 7, [25, 26], 0, [], [2, 3, 4, 5, 6]⟩, ⟨fd 28 27 0, 8, [27], 0, [], [2, 3, 4, 5, 6, 7]⟩, ⟨ld 29 28, 9, [28], 1, [], [2, 3, 4, 5, 6, 7, 8]⟩, ⟨mv 30 0, 10, [0], 0, [], []⟩, ⟨nk 31 30, 11, [30], 0, [], [10]⟩, ⟨fd 32 31 0, 12, [31], 0, [], [10, 11]⟩, ⟨ld 33 32, 13, [32], 1, [], [10, 11, 12]⟩, ⟨mv 34 6, 14, [6], 0, [], []⟩, ⟨⟨some 35, .idxa none 2 (.s 33) (.s 34), none⟩, 15, [33, 34], 0, [], [10, 11, 12, 13, 14]⟩, ⟨fd 36 35 0, 16, [35], 0, [], [10, 11, 12, 13, 14, 15]⟩, ⟨ld 37 36, 17, [36], 1, [], [10, 11, 12, 13, 14, 15, 16]⟩, ⟨⟨some 38, .len 1 (.s 37), none⟩, 18, [37], 0, [], [10, 11, 12, 13, 14, 15, 16, 17]⟩, ⟨⟨some 39, .build [.nils, .int .i64 0] [(0, 1, (.s 29)), (1, 1, (.s 38))], none⟩, 19, [29, 38], 0, [], [2, 3, 4, 5, 6, 7, 8, 9, 10, 11, 12, 13, 14, 15, 16, 17, 18]⟩, ⟨⟨some 40, .call 66 [(.s 20), (.s 21), (.s 39)] false, none⟩, 20, [20, 21, 39], 4, [], (List.range 20)⟩]
def a42r8 : List AOper := [⟨some 4, .mov (.k (.int .i64 0)), none⟩]
def a42c : ACode := (.seq (.reg 0 a42r0 [0, 1]) (.seq (.seq (.reg 0 a42r1 [0, 1, 5]) (.seq (.reg 0 a42r2 [0, 1, 5, 10]) (.cond (.s 10) (.seq (.reg 0 a42r3 [4]) .ret) .skip))) (.seq (.reg 0 a42r4 [0, 6]) (.seq (.seq (.reg 0 a42r5 [0, 6, 19]) (.cond (.s 19) (.seq (.reg 0 a42r6 [4]) .ret) .skip)) (.seq (.dreg 0 a42d7 []) (.seq (.reg 0 a42r8 [4]) .ret))))))
def a42 : AFn := ⟨[.slot 4], a42c⟩
theorem ok42 : fnOkB 42 a42 = true := by decide +kernel
/- (*blazon/blazonref03.Disk).SyncDir -/
def a43r0 : List AOper := [⟨some 2, .mov (.k (.int .i64 0)), none⟩]
def a43r1 : List AOper := [mv 4 0, ⟨some 5, .call 64 [(.s 4)] false, none⟩, mv 3 5]
def a43r2 : List AOper := [mv 6 3, ⟨some 7, .bin .neq (.s 6) (.k (.int .i64 0)), none⟩]
def a43r3 : List AOper := [mv 8 3, mv 2 8]
def a43r4 : List AOper := [mv 9 0, mv 10 0, nk 11 10, fd 12 11 1, ld 13 12, nk 14 9, fd 15 14 2, ⟨none, .store 1 (.s 15) (.s 13), none⟩]
def a43r5 : List AOper := [mv 16 0, nk 17 16, fd 18 17 3, ⟨none, .store 1 (.s 18) (.k (.nils)), none⟩]
def a43r6 : List AOper := [⟨some 2, .mov (.k (.int .i64 0)), none⟩]
def a43c : ACode := (.seq (.reg 0 a43r0 [0]) (.seq (.seq (.reg 0 a43r1 [0, 3]) (.seq (.reg 0 a43r2 [0, 3, 7]) (.cond (.s 7) (.seq (.reg 0 a43r3 [2]) .ret) .skip))) (.seq (.reg 0 a43r4 [0]) (.seq (.reg 0 a43r5 []) (.seq (.reg 0 a43r6 [2]) .ret)))))
def a43 : AFn := ⟨[.slot 2], a43c⟩
theorem ok43 : fnOkB 43 a43 = true := by decide +kernel
/- (*blazon/blazonref03.Disk).Rename -/
def a44r0 : List AOper := [⟨some 6, .mov (.k (.int .i64 0)), none⟩]
def a44r1 : List AOper := [mv 8 0, ⟨some 9, .call 64 [(.s 8)] false, none⟩, mv 7 9]
def a44r2 : List AOper := [mv 10 7, ⟨some 11, .bin .neq (.s 10) (.k (.int .i64 0)), none⟩]
def a44r3 : List AOper := [mv 12 7, mv 6 12]
def a44r4 : List AOper := [mv 13 0, nk 14 13, fd 15 14 1, ld 16 15, mv 17 1, ⟨some 18, .call 55 [(.s 16), (.s 17)] false, none⟩, ⟨some 19, .bin .lss (.s 18) (.k (.int .i64 0)), none⟩]
def a44r5 : List AOper := [⟨some 6, .mov (.k (.int .i64 6)), none⟩]
def a44r6 : List AOper := [mv 20 2, ⟨some 21, .call 29 [(.s 20)] false, none⟩, ⟨some 22, .un .not (.s 21), none⟩]
def a44r7 : List AOper := [⟨some 6, .mov (.k (.int .i64 1)), none⟩]
def a44r8 : List AOper := [mv 23 0, mv 24 1, mv 25 2, ⟨some 26, .build [(strv []), (strv []), .int .i64 0] [(0, 1, (.s 24)), (1, 1, (.s 25)), (2, 1, (.k (.int .i64 (-1))))], none⟩, ⟨some 27, .call 65 [(.s 23), (.s 26)] false, none⟩]
def a44r9 : List AOper := [⟨some 6, .mov (.k (.int .i64 0)), none⟩]
def a44c : ACode := (.seq (.reg 0 a44r0 [0, 1, 2]) (.seq (.seq (.reg 0 a44r1 [0, 1, 2, 7]) (.seq (.reg 0 a44r2 [0, 1, 2, 7, 11]) (.cond (.s 11) (.seq (.reg 0 a44r3 [6]) .ret) .skip))) (.seq (.seq (.reg 0 a44r4 [0, 1, 2, 19]) (.cond (.s 19) (.seq (.reg 0 a44r5 [6]) .ret) .skip)) (.seq (.seq (.reg 0 a44r6 [0, 1, 2, 22]) (.cond (.s 22) (.seq (.reg 0 a44r7 [6]) .ret) .skip)) (.seq (.reg 0 a44r8 []) (.seq (.reg 0 a44r9 [6]) .ret))))))
def a44 : AFn := ⟨[.slot 6], a44c⟩
theorem ok44 : fnOkB 44 a44 = true := by decide +kernel
/- (*blazon/blazonref03.Disk).Remove -/
def a45r0 : List AOper := [⟨some 4, .mov (.k (.int .i64 0)), none⟩]
def a45r1 : List AOper := [mv 6 0, ⟨some 7, .call 64 [(.s 6)] false, none⟩, mv 5 7]
def a45r2 : List AOper := [mv 8 5, ⟨some 9, .bin .neq (.s 8) (.k (.int .i64 0)), none⟩]
def a45r3 : List AOper := [mv 10 5, mv 4 10]
def a45r4 : List AOper := [mv 11 0, nk 12 11, fd 13 12 1, ld 14 13, mv 15 1, ⟨some 16, .call 55 [(.s 14), (.s 15)] false, none⟩, ⟨some 17, .bin .lss (.s 16) (.k (.int .i64 0)), none⟩]
def a45r5 : List AOper := [⟨some 4, .mov (.k (.int .i64 6)), none⟩]
def a45r6 : List AOper := [mv 18 0, mv 19 1, ⟨some 20, .build [(strv []), (strv []), .int .i64 0] [(0, 1, (.s 19)), (2, 1, (.k (.int .i64 (-1))))], none⟩, ⟨some 21, .call 65 [(.s 18), (.s 20)] false, none⟩]
def a45r7 : List AOper := [⟨some 4, .mov (.k (.int .i64 0)), none⟩]
def a45c : ACode := (.seq (.reg 0 a45r0 [0, 1]) (.seq (.seq (.reg 0 a45r1 [0, 1, 5]) (.seq (.reg 0 a45r2 [0, 1, 5, 9]) (.cond (.s 9) (.seq (.reg 0 a45r3 [4]) .ret) .skip))) (.seq (.seq (.reg 0 a45r4 [0, 1, 17]) (.cond (.s 17) (.seq (.reg 0 a45r5 [4]) .ret) .skip)) (.seq (.reg 0 a45r6 []) (.seq (.reg 0 a45r7 [4]) .ret)))))
def a45 : AFn := ⟨[.slot 4], a45c⟩
theorem ok45 : fnOkB 45 a45 = true := by decide +kernel
/- blazon/blazonref03.Arm -/
def a46r0 : List AOper := [⟨some 2, .mov (.k (.int .i64 0)), none⟩]
def a46r1 : List AOper := [mv 3 0, ⟨some 4, .bin .lss (.s 3) (.k (.int .i64 1)), none⟩, mv 5 4, ⟨some 6, .mov (.s 0), (some (5, false))⟩, ⟨some 7, .bin .gtr (.s 6) (.k (.int .i64 1099511627776)), (some (5, false))⟩, ⟨some 8, .pick (.s 5) (.k (.bool true)) (.s 7), none⟩]
def a46r2 : List AOper := [⟨some 2, .mov (.k (.int .i64 0)), none⟩]
def a46r3 : List AOper := [mv 9 0, mv 2 9]
def a46c : ACode := (.seq (.reg 0 a46r0 [0]) (.seq (.seq (.reg 0 a46r1 [0, 8]) (.cond (.s 8) (.seq (.reg 0 a46r2 [2]) .ret) .skip)) (.seq (.reg 0 a46r3 [2]) .ret)))
def a46 : AFn := ⟨[.slot 2], a46c⟩
theorem ok46 : fnOkB 46 a46 = true := by decide +kernel
/- (*blazon/blazonref03.Disk).SetFault -/
def a47r0 : List AOper := [mv 6 0, mv 7 1, ⟨some 8, .call 46 [(.s 7)] false, none⟩, nk 9 6, fd 10 9 8, ⟨none, .store 1 (.s 10) (.s 8), none⟩]
def a47r1 : List AOper := [mv 11 0, mv 12 2, nk 13 11, fd 14 13 9, ⟨none, .store 1 (.s 14) (.s 12), none⟩]
def a47r2 : List AOper := [mv 15 2, ⟨some 16, .bin .eql (.s 15) (.k (.int .i64 0)), none⟩, mv 17 16, ⟨some 18, .mov (.s 2), (some (17, false))⟩, ⟨some 19, .bin .eql (.s 18) (.k (.int .i64 9)), (some (17, false))⟩, ⟨some 20, .pick (.s 17) (.k (.bool true)) (.s 19), none⟩]
def a47r3 : List AOper := [mv 21 0, nk 22 21, fd 23 22 8, ⟨none, .store 1 (.s 23) (.k (.int .i64 0)), none⟩]
def a47c : ACode := (.seq (.reg 0 a47r0 [0, 2]) (.seq (.reg 0 a47r1 [0, 2]) (.seq (.reg 0 a47r2 [0, 20]) (.cond (.s 20) (.reg 0 a47r3 []) .skip))))
def a47 : AFn := ⟨[], a47c⟩
theorem ok47 : fnOkB 47 a47 = true := by decide +kernel
/- (*blazon/blazonref03.Disk).Boot -/
def a48r0 : List AOper := [⟨some 6, .mov (.k (.int .i64 0)), none⟩]
def a48r1 : List AOper := [mv 13 0, nk 14 13, fd 15 14 5, ld 16 15, ⟨some 17, .un .not (.s 16), none⟩]
def a48r2 : List AOper := [⟨some 6, .mov (.k (.int .i64 1)), none⟩]
def a48r3 : List AOper := [mv 18 0, nk 19 18, fd 20 19 2, ld 21 20, mv 7 21]
def a48r4 : List AOper := [⟨some 8, .mov (.k (.int .i64 0)), none⟩]
def a48r5 : List AOper := [mv 22 8, mv 23 0, nk 24 23, fd 25 24 3, ld 26 25, ⟨some 27, .len 1 (.s 26), none⟩, ⟨some 28, .bin .lss (.s 22) (.s 27), none⟩, mv 29 28, ⟨some 30, .mov (.s 8), (some (29, true))⟩, ⟨some 31, .mov (.s 1), (some (29, true))⟩, ⟨some 32, .bin .lss (.s 30) (.s 31), (some (29, true))⟩, ⟨some 33, .pick (.s 29) (.s 32) (.k (.bool false)), none⟩]
def a48r6 : List AOper := [mv 36 7, mv 37 0, nk 38 37, fd 39 38 3, ld 40 39, mv 41 8, ⟨some 42, .idxa none 3 (.s 40) (.s 41), none⟩, ⟨some 43, .load (some 3) (.s 42), none⟩, ⟨some 44, .call 67 [(.s 36), (.s 43)] false, none⟩, mv 7 44]
def a48r7 : List AOper := [mv 34 8, ⟨some 35, .bin .add (.s 34) (.k (.int .i64 1)), none⟩, mv 8 35]
def a48l0 : ACode := (.seq (.seq (.reg 0 a48r5 [0, 1, 2, 7, 8, 33]) (.cond (.s 33) .skip (.exit 0))) (.seq (.block 1 (.reg 0 a48r6 [0, 1, 2, 7, 8])) (.reg 0 a48r7 [0, 1, 2, 7, 8])))
def a48r8 : List AOper := [⟨some 9, .mov (.k (.int .i64 0)), none⟩]
def a48r9 : List AOper := [⟨some 10, .mov (.k (.int .i64 0)), none⟩]
def a48r10 : List AOper := [mv 45 10, mv 46 0, nk 47 46, fd 48 47 0, ld 49 48, ⟨some 50, .len 1 (.s 49), none⟩, ⟨some 51, .bin .lss (.s 45) (.s 50), none⟩]
def a48r11 : List AOper := [mv 54 0, nk 55 54, fd 56 55 0, ld 57 56, mv 58 10, ⟨some 59, .idxa none 2 (.s 57) (.s 58), none⟩, ⟨some 60, .load (some 2) (.s 59), none⟩, ⟨some 11, .alloc true [.nils, .int .i64 0] 0, none⟩, ⟨none, .store 2 (.s 11) (.s 60), none⟩]
def a48r12 : List AOper := [fd 61 11 0, ld 62 61, ⟨some 63, .len 1 (.s 62), none⟩, fd 64 11 1, ld 65 64, ⟨some 66, .bin .eql (.s 63) (.s 65), none⟩]
def a48r13 : List AOper := [⟨some 12, .mov (.k (.int .i64 0)), none⟩]
def a48r14 : List AOper := [mv 67 9, mv 68 2, ⟨some 69, .len 1 (.s 68), none⟩, ⟨some 70, .bin .lss (.s 67) (.s 69), none⟩, mv 71 70, ⟨some 72, .mov (.s 2), (some (71, true))⟩, ⟨some 73, .mov (.s 9), (some (71, true))⟩, ⟨some 74, .idxa none 1 (.s 72) (.s 73), (some (71, true))⟩, ⟨some 75, .load none (.s 74), (some (71, true))⟩, ⟨some 76, .bin .gtr (.s 75) (.k (.int .i64 0)), (some (71, true))⟩, ⟨some 77, .pick (.s 71) (.s 76) (.k (.bool false)), none⟩]
def a48d15 : List DItem := [⟨mv 78 2, 0, [2], 0, [], []⟩, ⟨mv 79 9, 1, [9], 0, [], []⟩, ⟨⟨some 80, .idxa none 1 (.s 78) (.s 79), none⟩, 2, [78, 79], 0, [], [0, 1]⟩, ⟨ld 81 80, 3, [80], 1, [], [0, 1, 2]⟩, ⟨fd 82 11 0, 4, [11], 0, [], []⟩, ⟨ld 83 82, 5, [11, 82], 1, [], [4]⟩, ⟨⟨some 84, .len 1 (.s 83), none⟩, 6, [83], 0, [], [4, 5]⟩, ⟨fd 85 11 1, 7, [11], 0, [], []⟩, ⟨ld 86 85, 8, [11, 85], 1, [], [7]⟩, ⟨⟨some 87, .bin .sub (.s 84) (.s 86), none⟩, 9, [84, 86], 0, [], [4, 5, 6, 7, 8]⟩, ⟨⟨some 88, .mm false (.s 81) (.s 87), none⟩, 10, [81, 87], 0, [], (List.range 10)⟩, ⟨mv 12 88, 11, [88], 3, [], (List.range 11)⟩]
def a48r16 : List AOper := [mv 89 9, ⟨some 90, .bin .add (.s 89) (.k (.int .i64 1)), none⟩, mv 9 90]
def a48d17 : List DItem := [⟨mv 91 0, 0, [0], 0, [], []⟩, ⟨mv 92 10, 1, [10], 0, [], []⟩, ⟨fd 93 11 0, 2, [11], 0, [], []⟩, ⟨ld 94 93, 3, [11, 93], 1, [], [2]⟩, ⟨fd 95 11 1, 4, [11], 0, [], []⟩, ⟨ld 96 95, 5, [11, 95], 1, [], [4]⟩, ⟨mv 97 12, 6, [12], 0, [], []⟩, ⟨⟨some 98, .bin .add (.s 96) (.s 97), none⟩, 7, [96, 97], 0, [], [4, 5, 6]⟩, ⟨⟨some 99, .slice (some 1) (.s 94) none (some (.s 98)) none, none⟩, 8, [94, 98], 0, [], [2, 3, 4, 5, 6, 7]⟩, ⟨fd 100 11 1, 9, [11], 0, [], []⟩, ⟨ld 101 100, 10, [11, 100], 1, [], [9]⟩, ⟨mv 102 12, 11, [12], 0, [], []⟩, ⟨⟨some 103, .bin .add (.s 101) (.s 102), none⟩, 12, [101, 102], 0, [], [9, 10, 11]⟩, ⟨⟨some 104, .build [.nils, .int .i64 0] [(0, 1, (.s 99)), (1, 1, (.s 103))], none⟩, 13, [99, 103], 0, [], [2, 3, 4, 5, 6, 7, 8, 9, 10, 11, 12]⟩, ⟨⟨some 105, .call 66 [(.s 91), (.s 92), (.s 104)] false, none⟩, 14, [91, 92, 104], 4, [], (List.range 14)⟩]
def a48r18 : List AOper := [mv 52 10, ⟨some 53, .bin .add (.s 52) (.k (.int .i64 1)), none⟩, mv 10 53]
def a48l1 : ACode := (.seq (.seq (.reg 0 a48r10 [0, 2, 7, 9, 10, 51]) (.cond (.s 51) .skip (.exit 2))) (.seq (.block 3 (.seq (.reg 0 a48r11 [0, 2, 7, 9, 10, 11]) (.seq (.seq (.reg 0 a48r12 [0, 2, 7, 9, 10, 11, 66]) (.cond (.s 66) (.exit 3) .skip)) (.seq (.reg 0 a48r13 [0, 2, 7, 9, 10, 11, 12]) (.seq (.seq (.reg 0 a48r14 [0, 2, 7, 9, 10, 11, 12, 77]) (.cond (.s 77) (.dreg 0 a48d15 [0, 2, 7, 9, 10, 11, 12]) .skip)) (.seq (.reg 0 a48r16 [0, 2, 7, 9, 10, 11, 12]) (.dreg 0 a48d17 [0, 2, 7, 9, 10]))))))) (.reg 0 a48r18 [0, 2, 7, 9, 10])))
def a48r19 : List AOper := [mv 106 0, mv 107 7, ⟨some 108, .call 68 [(.s 106), (.s 107)] false, none⟩]
def a48r20 : List AOper := [mv 109 0, nk 110 109, fd 111 110 5, ⟨none, .store 1 (.s 111) (.k (.bool false)), none⟩]
def a48r21 : List AOper := [mv 112 0, nk 113 112, fd 114 113 7, ⟨none, .store 1 (.s 114) (.k (.int .i64 0)), none⟩]
def a48r22 : List AOper := [mv 115 0, nk 116 115, fd 117 116 8, ⟨none, .store 1 (.s 117) (.k (.int .i64 0)), none⟩]
def a48r23 : List AOper := [mv 118 0, nk 119 118, fd 120 119 3, ⟨none, .store 1 (.s 120) (.k (.nils)), none⟩]
def a48r24 : List AOper := [⟨some 6, .mov (.k (.int .i64 0)), none⟩]
def a48c : ACode := (.seq (.reg 0 a48r0 [0, 1, 2]) (.seq (.seq (.reg 0 a48r1 [0, 1, 2, 17]) (.cond (.s 17) (.seq (.reg 0 a48r2 [6]) .ret) .skip)) (.seq (.reg 0 a48r3 [0, 1, 2, 7]) (.seq (.seq (.reg 0 a48r4 [0, 1, 2, 7, 8]) (.block 0 (.loop a48l0))) (.seq (.reg 0 a48r8 [0, 2, 7, 9]) (.seq (.seq (.reg 0 a48r9 [0, 2, 7, 9, 10]) (.block 2 (.loop a48l1))) (.seq (.reg 0 a48r19 [0]) (.seq (.reg 0 a48r20 [0]) (.seq (.reg 0 a48r21 [0]) (.seq (.reg 0 a48r22 [0]) (.seq (.reg 0 a48r23 []) (.seq (.reg 0 a48r24 [6]) .ret))))))))))))
def a48 : AFn := ⟨[.slot 6], a48c⟩
theorem ok48 : fnOkB 48 a48 = true := by decide +kernel
/- (*blazon/disk.Disk).ahead -/
def a49r0 : List AOper := [⟨some 4, .mov (.k (.int .i64 0)), none⟩]
def a49r1 : List AOper := [mv 5 1, ⟨some 6, .bin .lss (.s 5) (.k (.int .i64 1)), none⟩, mv 7 6, ⟨some 8, .mov (.s 1), (some (7, false))⟩, ⟨some 9, .bin .gtr (.s 8) (.k (.int .i64 1099511627776)), (some (7, false))⟩, ⟨some 10, .pick (.s 7) (.k (.bool true)) (.s 9), none⟩]
def a49r2 : List AOper := [⟨some 4, .mov (.k (.int .i64 0)), none⟩]
def a49r3 : List AOper := [mv 11 0, nk 12 11, fd 13 12 6, ⟨some 14, .call 61 [(.s 13)] false, none⟩, mv 15 1, ⟨some 16, .bin .add (.s 14) (.s 15), none⟩, mv 4 16]
def a49c : ACode := (.seq (.reg 0 a49r0 [0, 1]) (.seq (.seq (.reg 0 a49r1 [0, 1, 10]) (.cond (.s 10) (.seq (.reg 0 a49r2 [4]) .ret) .skip)) (.seq (.reg 0 a49r3 [4]) .ret)))
def a49 : AFn := ⟨[.slot 4], a49c⟩
theorem ok49 : fnOkB 49 a49 = true := by decide +kernel
/- (blazon/disk.turn).do -/
def a50r0 : List AOper := [⟨some 2, .box true (.s 0) 0, none⟩]
def a50r1 : List AOper := [fd 5 2 2, ld 6 5, mv 4 6]
def a50r2 : List AOper := [mv 7 4, ⟨some 8, .cmp 1 false (.s 7) (.k (.nilp)), none⟩]
def a50r3 : List AOper := [mv 9 1, fd 10 2 0, ld 11 10, ⟨some 12, .lookup 1 (.nilp) false (.s 9) (.s 11), none⟩, mv 4 12]
def a50r4 : List AOper := [mv 13 1, fd 14 2 0, ld 15 14, ⟨none, .mapdel 1 (.s 13) (.s 15), none⟩]
def a50r5 : List AOper := [fd 16 2 1, ld 17 16, ⟨some 18, .bin .neq (.s 17) (.k ((strv []))), none⟩, mv 19 18, ⟨some 20, .mov (.s 4), (some (19, true))⟩, ⟨some 21, .cmp 1 true (.s 20) (.k (.nilp)), (some (19, true))⟩, ⟨some 22, .pick (.s 19) (.s 21) (.k (.bool false)), none⟩]
def a50r6 : List AOper := [mv 23 1, fd 24 2 1, ld 25 24, mv 26 4, ⟨none, .mapupd 1 (.s 23) (.s 25) (.s 26), none⟩]
def a50c : ACode := (.seq (.reg 0 a50r0 [1, 2]) (.seq (.reg 0 a50r1 [1, 2, 4]) (.seq (.seq (.reg 0 a50r2 [1, 2, 4, 8]) (.cond (.s 8) (.seq (.reg 0 a50r3 [1, 2, 4]) (.reg 0 a50r4 [1, 2, 4])) .skip)) (.seq (.reg 0 a50r5 [1, 2, 4, 22]) (.cond (.s 22) (.reg 0 a50r6 []) .skip)))))
def a50 : AFn := ⟨[], a50c⟩
theorem ok50 : fnOkB 50 a50 = true := by decide +kernel
/- slices.DeleteFunc[[]*blazon/disk.file,*blazon/disk.file] -/
def a51r0 : List AOper := [⟨some 4, .mov (.k (.nils)), none⟩]
def a51r1 : List AOper := [mv 8 0, mv 9 1, ⟨some 10, .call 69 [(.s 8), (.s 9)] false, none⟩, mv 5 10]
def a51r2 : List AOper := [mv 11 5, ⟨some 12, .bin .eql (.s 11) (.k (.int .i64 (-1))), none⟩]
def a51r3 : List AOper := [mv 13 0, mv 4 13]
def a51r4 : List AOper := [mv 14 5, ⟨some 15, .bin .add (.s 14) (.k (.int .i64 1)), none⟩, mv 6 15]
def a51r5 : List AOper := [mv 16 6, mv 17 0, ⟨some 18, .len 1 (.s 17), none⟩, ⟨some 19, .bin .lss (.s 16) (.s 18), none⟩]
def a51r6 : List AOper := [mv 22 0, mv 23 6, ⟨some 24, .idxa none 1 (.s 22) (.s 23), none⟩, ld 25 24, mv 7 25]
def a51r7 : List AOper := [mv 26 1, mv 27 7, ⟨some 28, .callv (.s 26) [(.s 27)] false, none⟩, ⟨some 29, .un .not (.s 28), none⟩]
def a51r8 : List AOper := [mv 30 0, mv 31 5, mv 32 7, ⟨some 33, .idxa none 1 (.s 30) (.s 31), none⟩, ⟨none, .store 1 (.s 33) (.s 32), none⟩]
def a51r9 : List AOper := [mv 34 5, ⟨some 35, .bin .add (.s 34) (.k (.int .i64 1)), none⟩, mv 5 35]
def a51r10 : List AOper := [mv 20 6, ⟨some 21, .bin .add (.s 20) (.k (.int .i64 1)), none⟩, mv 6 21]
def a51l0 : ACode := (.seq (.seq (.reg 0 a51r5 [0, 1, 5, 6, 19]) (.cond (.s 19) .skip (.exit 0))) (.seq (.block 1 (.seq (.reg 0 a51r6 [0, 1, 5, 6, 7]) (.seq (.reg 0 a51r7 [0, 1, 5, 6, 7, 29]) (.cond (.s 29) (.seq (.reg 0 a51r8 [0, 1, 5, 6]) (.reg 0 a51r9 [0, 1, 5, 6])) .skip)))) (.reg 0 a51r10 [0, 1, 5, 6])))
def a51r11 : List AOper := [mv 36 0, mv 37 5, ⟨some 38, .slice (some 1) (.s 36) (some (.s 37)) none none, none⟩, ⟨none, .clr (.nilp) (.s 38), none⟩]
def a51r12 : List AOper := [mv 39 0, mv 40 5, ⟨some 41, .slice (some 1) (.s 39) none (some (.s 40)) none, none⟩, mv 4 41]
def a51c : ACode := (.seq (.reg 0 a51r0 [0, 1]) (.seq (.reg 0 a51r1 [0, 1, 5]) (.seq (.seq (.reg 0 a51r2 [0, 1, 5, 12]) (.cond (.s 12) (.seq (.reg 0 a51r3 [4]) .ret) .skip)) (.seq (.seq (.reg 0 a51r4 [0, 1, 5, 6]) (.block 0 (.loop a51l0))) (.seq (.reg 0 a51r11 [0, 5]) (.seq (.reg 0 a51r12 [4]) .ret))))))
def a51 : AFn := ⟨[.slot 4], a51c⟩
theorem ok51 : fnOkB 51 a51 = true := by decide +kernel
/- (*blazon/disk.Disk).Boot$1 -/
def a52r0 : List AOper := [⟨some 3, .mov (.k (.bool false)), none⟩]
def a52r1 : List AOper := [ld 4 1, mv 5 0, ⟨some 6, .lookup 2 (.bool false) false (.s 4) (.s 5), none⟩, ⟨some 7, .un .not (.s 6), none⟩, mv 3 7]
def a52c : ACode := (.seq (.reg 0 a52r0 [0, 1]) (.seq (.reg 0 a52r1 [3]) .ret))
def a52 : AFn := ⟨[.slot 3], a52c⟩
theorem ok52 : fnOkB 52 a52 = true := by decide +kernel
/- maps.Keys[map[string]*blazon/disk.file,string,*blazon/disk.file] -/
def a54r0 : List AOper := [⟨some 1, .box false (.s 0) 0, none⟩, ⟨some 2, .mov (.k (.nilf)), none⟩]
def a54r1 : List AOper := [⟨some 3, .mkfn 72 [(.s 1)], none⟩, mv 2 3]
def a54c : ACode := (.seq (.reg 1 a54r0 [1]) (.seq (.reg 0 a54r1 [2]) .ret))
def a54 : AFn := ⟨[.slot 2], a54c⟩
theorem ok54 : fnOkB 54 a54 = true := by decide +kernel
/- blazon/blazonref03.find -/
def a55r0 : List AOper := [⟨some 4, .mov (.k (.int .i64 0)), none⟩]
def a55r1 : List AOper := [⟨some 5, .mov (.k (.int .i64 0)), none⟩]
def a55r2 : List AOper := [mv 6 5, mv 7 0, ⟨some 8, .len 1 (.s 7), none⟩, ⟨some 9, .bin .lss (.s 6) (.s 8), none⟩]
def a55r3 : List AOper := [mv 12 0, mv 13 5, ⟨some 14, .idxa none 2 (.s 12) (.s 13), none⟩, fd 15 14 0, ld 16 15, mv 17 1, ⟨some 18, .bin .eql (.s 16) (.s 17), none⟩]
def a55r4 : List AOper := [mv 19 0, mv 20 5, ⟨some 21, .idxa none 2 (.s 19) (.s 20), none⟩, fd 22 21 1, ld 23 22, mv 4 23]
def a55r5 : List AOper := [mv 10 5, ⟨some 11, .bin .add (.s 10) (.k (.int .i64 1)), none⟩, mv 5 11]
def a55l0 : ACode := (.seq (.seq (.reg 0 a55r2 [0, 1, 5, 9]) (.cond (.s 9) .skip (.exit 0))) (.seq (.block 1 (.seq (.reg 0 a55r3 [0, 1, 5, 18]) (.cond (.s 18) (.seq (.reg 0 a55r4 [4]) .ret) .skip))) (.reg 0 a55r5 [0, 1, 5])))
def a55r6 : List AOper := [⟨some 4, .mov (.k (.int .i64 (-1))), none⟩]
def a55c : ACode := (.seq (.reg 0 a55r0 [0, 1]) (.seq (.seq (.reg 0 a55r1 [0, 1, 5]) (.block 0 (.loop a55l0))) (.seq (.reg 0 a55r6 [4]) .ret)))
def a55 : AFn := ⟨[.slot 4], a55c⟩
theorem ok55 : fnOkB 55 a55 = true := by decide +kernel
/- blazon/blazonref03.put -/
def a56r0 : List AOper := [⟨some 3, .box true (.s 1) 0, none⟩, ⟨some 4, .mov (.k (.nils)), none⟩]
def a56r1 : List AOper := [⟨some 5, .mov (.k (.nils)), none⟩]
def a56r2 : List AOper := [⟨some 6, .mov (.k (.bool false)), none⟩]
def a56r3 : List AOper := [⟨some 7, .mov (.k (.int .i64 0)), none⟩]
def a56r4 : List AOper := [mv 8 7, mv 9 0, ⟨some 10, .len 1 (.s 9), none⟩, ⟨some 11, .bin .lss (.s 8) (.s 10), none⟩]
def a56d5 : List DItem := [⟨mv 14 0, 0, [0], 0, [], []⟩, ⟨mv 15 7, 1, [7], 0, [], []⟩, ⟨⟨some 16, .idxa none 2 (.s 14) (.s 15), none⟩, 2, [14, 15], 0, [], [0, 1]⟩, ⟨fd 17 16 0, 3, [16], 0, [], [0, 1, 2]⟩, ⟨ld 18 17, 4, [17], 1, [], [0, 1, 2, 3]⟩, ⟨fd 19 3 0, 5, [3], 0, [], []⟩, ⟨ld 20 19, 6, [3, 19], 1, [], [5]⟩, ⟨⟨some 21, .bin .eql (.s 18) (.s 20), none⟩, 7, [18, 20], 0, [], (List.range 7)⟩]
def a56d6 : List DItem := [⟨mv 22 6, 0, [6], 0, [], []⟩, ⟨⟨some 23, .un .not (.s 22), none⟩, 1, [22], 0, [], [0]⟩, ⟨mv 24 23, 2, [23], 0, [], [0, 1]⟩, ⟨⟨some 25, .mov (.s 0), (some (24, true))⟩, 3, [0, 24], 0, [], [0, 1, 2]⟩, ⟨⟨some 26, .mov (.s 7), (some (24, true))⟩, 4, [7, 24], 0, [], [0, 1, 2]⟩, ⟨⟨some 27, .idxa none 2 (.s 25) (.s 26), (some (24, true))⟩, 5, [24, 25, 26], 0, [], [0, 1, 2, 3, 4]⟩, ⟨⟨some 28, .fadr (.s 27) 0, (some (24, true))⟩, 6, [24, 27], 0, [], (List.range 6)⟩, ⟨⟨some 29, .load none (.s 28), (some (24, true))⟩, 7, [24, 28], 1, [], (List.range 7)⟩, ⟨⟨some 30, .fadr (.s 3) 0, (some (24, true))⟩, 8, [3, 24], 0, [], [0, 1, 2]⟩, ⟨⟨some 31, .load none (.s 30), (some (24, true))⟩, 9, [3, 24, 30], 1, [], [0, 1, 2, 8]⟩, ⟨⟨some 32, .bin .gtr (.s 29) (.s 31), (some (24, true))⟩, 10, [24, 29, 31], 0, [], (List.range 10)⟩, ⟨⟨some 33, .pick (.s 24) (.s 32) (.k (.bool false)), none⟩, 11, [24, 32], 0, [], (List.range 11)⟩]
def a56r7 : List AOper := [mv 34 5, ⟨some 35, .load (some 2) (.s 3), none⟩, ⟨some 36, .lits 2 1 [(strv []), .int .i64 0] [(0, 2, (.s 35))], none⟩, ⟨some 37, .app 2 24 (.s 34) (.s 36) 0, none⟩, mv 5 37]
def a56r8 : List AOper := [⟨some 6, .mov (.k (.bool true)), none⟩]
def a56r9 : List AOper := [mv 38 5, mv 39 0, mv 40 7, ⟨some 41, .idxa none 2 (.s 39) (.s 40), none⟩, ⟨some 42, .load (some 2) (.s 41), none⟩, ⟨some 43, .lits 2 1 [(strv []), .int .i64 0] [(0, 2, (.s 42))], none⟩, ⟨some 44, .app 2 24 (.s 38) (.s 43) 0, none⟩, mv 5 44]
def a56r10 : List AOper := [mv 12 7, ⟨some 13, .bin .add (.s 12) (.k (.int .i64 1)), none⟩, mv 7 13]
def a56l0 : ACode := (.seq (.seq (.reg 0 a56r4 [0, 3, 5, 6, 7, 11]) (.cond (.s 11) .skip (.exit 0))) (.seq (.block 1 (.seq (.seq (.dreg 0 a56d5 [0, 3, 5, 6, 7, 21]) (.cond (.s 21) (.exit 1) .skip)) (.seq (.seq (.dreg 0 a56d6 [0, 3, 5, 6, 7, 33]) (.cond (.s 33) (.seq (.reg 1 a56r7 [0, 3, 5, 7]) (.reg 0 a56r8 [0, 3, 5, 6, 7])) .skip)) (.reg 1 a56r9 [0, 3, 5, 6, 7])))) (.reg 0 a56r10 [0, 3, 5, 6, 7])))
def a56r11 : List AOper := [mv 45 6, ⟨some 46, .un .not (.s 45), none⟩]
def a56r12 : List AOper := [mv 47 5, ⟨some 48, .load (some 2) (.s 3), none⟩, ⟨some 49, .lits 2 1 [(strv []), .int .i64 0] [(0, 2, (.s 48))], none⟩, ⟨some 50, .app 2 24 (.s 47) (.s 49) 0, none⟩, mv 5 50]
def a56r13 : List AOper := [mv 51 5, mv 4 51]
def a56c : ACode := (.seq (.reg 0 a56r0 [0, 3]) (.seq (.reg 0 a56r1 [0, 3, 5]) (.seq (.reg 0 a56r2 [0, 3, 5, 6]) (.seq (.seq (.reg 0 a56r3 [0, 3, 5, 6, 7]) (.block 0 (.loop a56l0))) (.seq (.seq (.reg 0 a56r11 [3, 5, 46]) (.cond (.s 46) (.reg 1 a56r12 [5]) .skip)) (.seq (.reg 0 a56r13 [4]) .ret))))))
def a56 : AFn := ⟨[.slot 4], a56c⟩
theorem ok56 : fnOkB 56 a56 = true := by decide +kernel
/- (*blazon/blazonref03.Disk).List -/
def a57r0 : List AOper := [⟨some 2, .mov (.k (.nils)), none⟩]
def a57r1 : List AOper := [⟨some 3, .mov (.k (.nils)), none⟩]
def a57r2 : List AOper := [⟨some 4, .mov (.k (.int .i64 0)), none⟩]
def a57r3 : List AOper := [mv 5 4, mv 6 0, nk 7 6, fd 8 7 1, ld 9 8, ⟨some 10, .len 1 (.s 9), none⟩, ⟨some 11, .bin .lss (.s 5) (.s 10), none⟩]
def a57d4 : List DItem := [⟨mv 14 3, 0, [3], 0, [], []⟩, ⟨mv 15 0, 1, [0], 0, [], []⟩, ⟨nk 16 15, 2, [15], 0, [], [1]⟩, ⟨fd 17 16 1, 3, [16], 0, [], [1, 2]⟩, ⟨ld 18 17, 4, [17], 1, [], [1, 2, 3]⟩, ⟨mv 19 4, 5, [4], 0, [], []⟩, ⟨⟨some 20, .idxa none 2 (.s 18) (.s 19), none⟩, 6, [18, 19], 0, [], [1, 2, 3, 4, 5]⟩, ⟨fd 21 20 0, 7, [20], 0, [], [1, 2, 3, 4, 5, 6]⟩, ⟨ld 22 21, 8, [21], 1, [], [1, 2, 3, 4, 5, 6, 7]⟩, ⟨mv 23 0, 9, [0], 0, [], []⟩, ⟨nk 24 23, 10, [23], 0, [], [9]⟩, ⟨fd 25 24 0, 11, [24], 0, [], [9, 10]⟩, ⟨ld 26 25, 12, [25], 1, [], [9, 10, 11]⟩, ⟨mv 27 0, 13, [0], 0, [], []⟩, ⟨nk 28 27, 14, [27], 0, [], [13]⟩, ⟨fd 29 28 1, 15, [28], 0, [], [13, 14]⟩, ⟨ld 30 29, 16, [29], 1, [], [13, 14, 15]⟩, ⟨mv 31 4, 17, [4], 0, [], []⟩, ⟨⟨some 32, .idxa none 2 (.s 30) (.s 31), none⟩, 18, [30, 31], 0, [], [13, 14, 15, 16, 17]⟩, ⟨fd 33 32 1, 19, [32], 0, [], [13, 14, 15, 16, 17, 18]⟩, ⟨ld 34 33, 20, [33], 1, [], [13, 14, 15, 16, 17, 18, 19]⟩, ⟨⟨some 35, .idxa none 2 (.s 26) (.s 34), none⟩, 21, [26, 34], 0, [], [9, 10, 11, 12, 13, 14, 15, 16, 17, 18, 19, 20]⟩, ⟨fd 36 35 0, 22, [35], 0, [], [9, 10, 11, 12, 13, 14, 15, 16, 17, 18, 19, 20, 21]⟩, ⟨ld 37 36, 23, [36], 1, [], [9, 10, 11, 12, 13, 14, 15, 16, 17, 18, 19, 20, 21, 22]⟩, ⟨⟨some 38, .build [(strv []), .nils] [(0, 1, (.s 22)), (1, 1, (.s 37))], none⟩, 24, [22, 37], 0, [], [1, 2, 3, 4, 5, 6, 7, 8, 9, 10, 11, 12, 13, 14, 15, 16, 17, 18, 19, 20, 21, 22, 23]⟩, ⟨⟨some 39, .lits 2 1 [(strv []), .nils] [(0, 2, (.s 38))], none⟩, 25, [38], 0, [], [1, 2, 3, 4, 5, 6, 7, 8, 9, 10, 11, 12, 13, 14, 15, 16, 17, 18, 19, 20, 21, 22, 23, 24]⟩, ⟨⟨some 40, .app 2 40 (.s 14) (.s 39) 0, none⟩, 26, [14, 39], 4, [], (List.range 26)⟩, ⟨mv 3 40, 27, [40], 3, [], (List.range 27)⟩]
def a57r5 : List AOper := [mv 12 4, ⟨some 13, .bin .add (.s 12) (.k (.int .i64 1)), none⟩, mv 4 13]
def a57l0 : ACode := (.seq (.seq (.reg 0 a57r3 [0, 3, 4, 11]) (.cond (.s 11) .skip (.exit 0))) (.seq (.block 1 (.dreg 1 a57d4 [0, 3, 4])) (.reg 0 a57r5 [0, 3, 4])))
def a57r6 : List AOper := [mv 41 3, mv 2 41]
def a57c : ACode := (.seq (.reg 0 a57r0 [0]) (.seq (.reg 0 a57r1 [0, 3]) (.seq (.seq (.reg 0 a57r2 [0, 3, 4]) (.block 0 (.loop a57l0))) (.seq (.reg 0 a57r6 [2]) .ret))))
def a57 : AFn := ⟨[.slot 2], a57c⟩
theorem ok57 : fnOkB 57 a57 = true := by decide +kernel
/- (*blazon/blazonref03.Disk).Used -/
def a58r0 : List AOper := [⟨some 2, .mov (.k (.int .i64 0)), none⟩]
def a58r1 : List AOper := [⟨some 3, .mov (.k (.int .i64 0)), none⟩]
def a58r2 : List AOper := [⟨some 4, .mov (.k (.int .i64 0)), none⟩]
def a58r3 : List AOper := [mv 5 4, mv 6 0, nk 7 6, fd 8 7 1, ld 9 8, ⟨some 10, .len 1 (.s 9), none⟩, ⟨some 11, .bin .lss (.s 5) (.s 10), none⟩]
def a58d4 : List DItem := [⟨mv 14 3, 0, [3], 0, [], []⟩, ⟨mv 15 0, 1, [0], 0, [], []⟩, ⟨nk 16 15, 2, [15], 0, [], [1]⟩, ⟨fd 17 16 0, 3, [16], 0, [], [1, 2]⟩, ⟨ld 18 17, 4, [17], 1, [], [1, 2, 3]⟩, ⟨mv 19 0, 5, [0], 0, [], []⟩, ⟨nk 20 19, 6, [19], 0, [], [5]⟩, ⟨fd 21 20 1, 7, [20], 0, [], [5, 6]⟩, ⟨ld 22 21, 8, [21], 1, [], [5, 6, 7]⟩, ⟨mv 23 4, 9, [4], 0, [], []⟩, ⟨⟨some 24, .idxa none 2 (.s 22) (.s 23), none⟩, 10, [22, 23], 0, [], [5, 6, 7, 8, 9]⟩, ⟨fd 25 24 1, 11, [24], 0, [], [5, 6, 7, 8, 9, 10]⟩, ⟨ld 26 25, 12, [25], 1, [], [5, 6, 7, 8, 9, 10, 11]⟩, ⟨⟨some 27, .idxa none 2 (.s 18) (.s 26), none⟩, 13, [18, 26], 0, [], [1, 2, 3, 4, 5, 6, 7, 8, 9, 10, 11, 12]⟩, ⟨fd 28 27 0, 14, [27], 0, [], [1, 2, 3, 4, 5, 6, 7, 8, 9, 10, 11, 12, 13]⟩, ⟨ld 29 28, 15, [28], 1, [], [1, 2, 3, 4, 5, 6, 7, 8, 9, 10, 11, 12, 13, 14]⟩, ⟨⟨some 30, .len 1 (.s 29), none⟩, 16, [29], 0, [], [1, 2, 3, 4, 5, 6, 7, 8, 9, 10, 11, 12, 13, 14, 15]⟩, ⟨⟨some 31, .bin .add (.s 14) (.s 30), none⟩, 17, [14, 30], 0, [], (List.range 17)⟩, ⟨mv 3 31, 18, [31], 3, [], (List.range 18)⟩]
def a58r5 : List AOper := [mv 12 4, ⟨some 13, .bin .add (.s 12) (.k (.int .i64 1)), none⟩, mv 4 13]
def a58l0 : ACode := (.seq (.seq (.reg 0 a58r3 [0, 3, 4, 11]) (.cond (.s 11) .skip (.exit 0))) (.seq (.block 1 (.dreg 0 a58d4 [0, 3, 4])) (.reg 0 a58r5 [0, 3, 4])))
def a58r6 : List AOper := [mv 32 3, mv 2 32]
def a58c : ACode := (.seq (.reg 0 a58r0 [0]) (.seq (.reg 0 a58r1 [0, 3]) (.seq (.seq (.reg 0 a58r2 [0, 3, 4]) (.block 0 (.loop a58l0))) (.seq (.reg 0 a58r6 [2]) .ret))))
def a58 : AFn := ⟨[.slot 2], a58c⟩
theorem ok58 : fnOkB 58 a58 = true := by decide +kernel
/- blazon/disk.Name$1 -/
def a59r0 : List AOper := [⟨some 2, .mov (.k (.bool false)), none⟩]
def a59r1 : List AOper := [mv 3 0, ⟨some 4, .bin .geq (.s 3) (.k (.int .i32 97)), none⟩, mv 5 4, ⟨some 6, .mov (.s 0), (some (5, true))⟩, ⟨some 7, .bin .leq (.s 6) (.k (.int .i32 122)), (some (5, true))⟩, ⟨some 8, .pick (.s 5) (.s 7) (.k (.bool false)), none⟩, mv 9 8, ⟨some 10, .mov (.s 0), (some (9, false))⟩, ⟨some 11, .bin .geq (.s 10) (.k (.int .i32 48)), (some (9, false))⟩, ⟨some 12, .mov (.s 11), (some (9, false))⟩, ⟨some 13, .mov (.s 0), (some (12, true))⟩, ⟨some 14, .bin .leq (.s 13) (.k (.int .i32 57)), (some (12, true))⟩, ⟨some 15, .pick (.s 12) (.s 14) (.k (.bool false)), (some (9, false))⟩, ⟨some 16, .pick (.s 9) (.k (.bool true)) (.s 15), none⟩, mv 17 16, ⟨some 18, .mov (.s 0), (some (17, false))⟩, ⟨some 19, .bin .eql (.s 18) (.k (.int .i32 45)), (some (17, false))⟩, ⟨some 20, .pick (.s 17) (.k (.bool true)) (.s 19), none⟩, mv 21 20, ⟨some 22, .mov (.s 0), (some (21, false))⟩, ⟨some 23, .bin .eql (.s 22) (.k (.int .i32 46)), (some (21, false))⟩, ⟨some 24, .pick (.s 21) (.k (.bool true)) (.s 23), none⟩, mv 25 24, ⟨some 26, .mov (.s 0), (some (25, false))⟩, ⟨some 27, .bin .eql (.s 26) (.k (.int .i32 126)), (some (25, false))⟩, ⟨some 28, .pick (.s 25) (.k (.bool true)) (.s 27), none⟩, ⟨some 29, .un .not (.s 28), none⟩, mv 2 29]
def a59c : ACode := (.seq (.reg 0 a59r0 [0]) (.seq (.reg 0 a59r1 [2]) .ret))
def a59 : AFn := ⟨[.slot 2], a59c⟩
theorem ok59 : fnOkB 59 a59 = true := by decide +kernel
/- strings.ContainsFunc -/
def a60r0 : List AOper := [⟨some 4, .mov (.k (.bool false)), none⟩]
def a60r1 : List AOper := [mv 5 0, mv 6 1, ⟨some 7, .call 73 [(.s 5), (.s 6)] false, none⟩, ⟨some 8, .bin .geq (.s 7) (.k (.int .i64 0)), none⟩, mv 4 8]
def a60c : ACode := (.seq (.reg 0 a60r0 [0, 1]) (.seq (.reg 0 a60r1 [4]) .ret))
def a60 : AFn := ⟨[.slot 4], a60c⟩
theorem ok60 : fnOkB 60 a60 = true := by decide +kernel
/- (*blazon/blazonref03.Disk).begin -/
def a64r0 : List AOper := [⟨some 2, .mov (.k (.int .i64 0)), none⟩]
def a64r1 : List AOper := [mv 5 0, nk 6 5, fd 7 6 5, ld 8 7]
def a64r2 : List AOper := [⟨some 2, .mov (.k (.int .i64 9)), none⟩]
def a64r3 : List AOper := [mv 9 0, nk 10 9, fd 11 10 6, ld 12 11, ⟨some 13, .bin .add (.s 12) (.k (.int .i64 1)), none⟩, nk 14 9, fd 15 14 6, ⟨none, .store 1 (.s 15) (.s 13), none⟩]
def a64r4 : List AOper := [mv 16 0, nk 17 16, fd 18 17 7, ld 19 18, ⟨some 20, .bin .eql (.s 19) (.k (.int .i64 1)), none⟩, mv 3 20]
def a64r5 : List AOper := [mv 21 0, nk 22 21, fd 23 22 8, ld 24 23, ⟨some 25, .bin .eql (.s 24) (.k (.int .i64 1)), none⟩, mv 4 25]
def a64r6 : List AOper := [mv 26 0, nk 27 26, fd 28 27 7, ld 29 28, ⟨some 30, .bin .gtr (.s 29) (.k (.int .i64 0)), none⟩]
def a64r7 : List AOper := [mv 31 0, nk 32 31, fd 33 32 7, ld 34 33, ⟨some 35, .bin .sub (.s 34) (.k (.int .i64 1)), none⟩, nk 36 31, fd 37 36 7, ⟨none, .store 1 (.s 37) (.s 35), none⟩]
def a64r8 : List AOper := [mv 38 0, nk 39 38, fd 40 39 8, ld 41 40, ⟨some 42, .bin .gtr (.s 41) (.k (.int .i64 0)), none⟩]
def a64r9 : List AOper := [mv 43 0, nk 44 43, fd 45 44 8, ld 46 45, ⟨some 47, .bin .sub (.s 46) (.k (.int .i64 1)), none⟩, nk 48 43, fd 49 48 8, ⟨none, .store 1 (.s 49) (.s 47), none⟩]
def a64r10 : List AOper := [mv 50 3]
def a64r11 : List AOper := [mv 51 0, nk 52 51, fd 53 52 5, ⟨none, .store 1 (.s 53) (.k (.bool true)), none⟩]
def a64r12 : List AOper := [⟨some 2, .mov (.k (.int .i64 9)), none⟩]
def a64r13 : List AOper := [mv 54 4]
def a64r14 : List AOper := [mv 55 0, nk 56 55, fd 57 56 9, ld 58 57, mv 2 58]
def a64r15 : List AOper := [⟨some 2, .mov (.k (.int .i64 0)), none⟩]
def a64c : ACode := (.seq (.reg 0 a64r0 [0]) (.seq (.seq (.reg 0 a64r1 [0, 8]) (.cond (.s 8) (.seq (.reg 0 a64r2 [2]) .ret) .skip)) (.seq (.reg 0 a64r3 [0]) (.seq (.reg 0 a64r4 [0, 3]) (.seq (.reg 0 a64r5 [0, 3, 4]) (.seq (.seq (.reg 0 a64r6 [0, 3, 4, 30]) (.cond (.s 30) (.reg 0 a64r7 [0, 3, 4]) .skip)) (.seq (.seq (.reg 0 a64r8 [0, 3, 4, 42]) (.cond (.s 42) (.reg 0 a64r9 [0, 3, 4]) .skip)) (.seq (.seq (.reg 0 a64r10 [0, 4, 50]) (.cond (.s 50) (.seq (.reg 0 a64r11 []) (.seq (.reg 0 a64r12 [2]) .ret)) .skip)) (.seq (.seq (.reg 0 a64r13 [0, 54]) (.cond (.s 54) (.seq (.reg 0 a64r14 [2]) .ret) .skip)) (.seq (.reg 0 a64r15 [2]) .ret))))))))))
def a64 : AFn := ⟨[.slot 2], a64c⟩
theorem ok64 : fnOkB 64 a64 = true := by decide +kernel
/- (*blazon/blazonref03.Disk).turn -/
def a65r0 : List AOper := [⟨some 3, .box true (.s 1) 0, none⟩]
def a65d1 : List DItem := [⟨mv 4 0, 0, [0], 0, [], []⟩, ⟨mv 5 0, 1, [0], 0, [], []⟩, ⟨nk 6 5, 2, [5], 0, [], [1]⟩, ⟨fd 7 6 1, 3, [6], 0, [], [1, 2]⟩, ⟨ld 8 7, 4, [7], 1, [], [1, 2, 3]⟩, ⟨⟨some 9, .load (some 3) (.s 3), none⟩, 5, [3], 1, [], []⟩, ⟨⟨some 10, .call 67 [(.s 8), (.s 9)] false, none⟩, 6, [8, 9], 4, [], [1, 2, 3, 4, 5]⟩, ⟨nk 11 4, 7, [4], 0, [], (List.range 7)⟩, ⟨fd 12 11 1, 8, [11], 0, [], (List.range 8)⟩, ⟨⟨none, .store 1 (.s 12) (.s 10), none⟩, 9, [10, 12], 4, [], (List.range 9)⟩]
def a65d2 : List DItem := [⟨mv 13 0, 0, [0], 0, [], []⟩, ⟨mv 15 0, 2, [0], 0, [], []⟩, ⟨nk 16 15, 3, [15], 0, [], [1]⟩, ⟨fd 17 16 3, 4, [16], 0, [], [1, 2]⟩, ⟨ld 18 17, 5, [17], 1, [], [1, 2, 3]⟩, ⟨⟨some 20, .load (some 3) (.s 3), none⟩, 7, [3], 1, [], []⟩, ⟨⟨some 21, .lits 3 1 [(strv []), (strv []), .int .i64 0] [(0, 3, (.s 20))], none⟩, 8, [20], 0, [], [5]⟩, ⟨⟨some 14, .buildsl 3 0 [(strv []), (strv []), .int .i64 0] [] 0, none⟩, 1, [], 4, [4, 5], []⟩, ⟨⟨some 19, .app 3 40 (.s 14) (.s 18) 1, none⟩, 6, [14, 18], 4, [5], [1, 2, 3, 4, 7]⟩, ⟨⟨some 22, .app 3 40 (.s 19) (.s 21) 2, none⟩, 9, [19, 21], 4, [], [1, 2, 3, 4, 5, 6, 7, 8]⟩, ⟨nk 23 13, 10, [13], 0, [], (List.range 10)⟩, ⟨fd 24 23 3, 11, [23], 0, [], (List.range 11)⟩, ⟨⟨none, .store 1 (.s 24) (.s 22), none⟩, 12, [22, 24], 4, [], (List.range 12)⟩]
def a65c : ACode := (.seq (.reg 0 a65r0 [0, 3]) (.seq (.dreg 0 a65d1 [0, 3]) (.dreg 3 a65d2 [])))
def a65 : AFn := ⟨[], a65c⟩
theorem ok65 : fnOkB 65 a65 = true := by decide +kernel
/- (*blazon/blazonref03.Disk).with -/
def a66r0 : List AOper := [⟨some 5, .box true (.s 2) 0, none⟩]
def a66r1 : List AOper := [⟨some 7, .buildsl 2 0 [.nils, .int .i64 0] [] 0, none⟩, mv 8 0, nk 9 8, fd 10 9 0, ld 11 10, mv 12 1, ⟨some 13, .slice (some 2) (.s 11) none (some (.s 12)) none, none⟩, ⟨some 14, .app 2 32 (.s 7) (.s 13) 1, none⟩, mv 6 14]
def a66r2 : List AOper := [mv 15 6, ⟨some 16, .load (some 2) (.s 5), none⟩, ⟨some 17, .lits 2 1 [.nils, .int .i64 0] [(0, 2, (.s 16))], none⟩, ⟨some 18, .app 2 32 (.s 15) (.s 17) 0, none⟩, mv 6 18]
def a66r3 : List AOper := [mv 19 0, mv 20 6, mv 21 0, nk 22 21, fd 23 22 0, ld 24 23, mv 25 1, ⟨some 26, .bin .add (.s 25) (.k (.int .i64 1)), none⟩, ⟨some 27, .slice (some 2) (.s 24) (some (.s 26)) none none, none⟩, ⟨some 28, .app 2 32 (.s 20) (.s 27) 0, none⟩, nk 29 19, fd 30 29 0, ⟨none, .store 1 (.s 30) (.s 28), none⟩]
def a66c : ACode := (.seq (.reg 0 a66r0 [0, 1, 5]) (.seq (.reg 2 a66r1 [0, 1, 5, 6]) (.seq (.reg 1 a66r2 [0, 1, 6]) (.reg 1 a66r3 []))))
def a66 : AFn := ⟨[], a66c⟩
theorem ok66 : fnOkB 66 a66 = true := by decide +kernel
/- blazon/blazonref03.do -/
def a67r0 : List AOper := [⟨some 3, .box true (.s 1) 0, none⟩, ⟨some 4, .mov (.k (.nils)), none⟩]
def a67r1 : List AOper := [fd 6 3 2, ld 7 6, mv 5 7]
def a67r2 : List AOper := [mv 8 5, ⟨some 9, .bin .lss (.s 8) (.k (.int .i64 0)), none⟩]
def a67r3 : List AOper := [mv 10 0, fd 11 3 0, ld 12 11, ⟨some 13, .call 55 [(.s 10), (.s 12)] false, none⟩, mv 5 13]
def a67r4 : List AOper := [mv 14 0, fd 15 3 0, ld 16 15, ⟨some 17, .call 76 [(.s 14), (.s 16)] false, none⟩, mv 0 17]
def a67r5 : List AOper := [fd 18 3 1, ld 19 18, ⟨some 20, .bin .eql (.s 19) (.k ((strv []))), none⟩, mv 21 20, ⟨some 22, .mov (.s 5), (some (21, false))⟩, ⟨some 23, .bin .lss (.s 22) (.k (.int .i64 0)), (some (21, false))⟩, ⟨some 24, .pick (.s 21) (.k (.bool true)) (.s 23), none⟩]
def a67r6 : List AOper := [mv 25 0, mv 4 25]
def a67r7 : List AOper := [mv 26 0, fd 27 3 1, ld 28 27, mv 29 5, ⟨some 30, .build [(strv []), .int .i64 0] [(0, 1, (.s 28)), (1, 1, (.s 29))], none⟩, ⟨some 31, .call 56 [(.s 26), (.s 30)] false, none⟩, mv 4 31]
def a67c : ACode := (.seq (.reg 0 a67r0 [0, 3]) (.seq (.reg 0 a67r1 [0, 3, 5]) (.seq (.seq (.reg 0 a67r2 [0, 3, 5, 9]) (.cond (.s 9) (.seq (.reg 0 a67r3 [0, 3, 5]) (.reg 0 a67r4 [0, 3, 5])) .skip)) (.seq (.seq (.reg 0 a67r5 [0, 3, 5, 24]) (.cond (.s 24) (.seq (.reg 0 a67r6 [4]) .ret) .skip)) (.seq (.reg 0 a67r7 [4]) .ret)))))
def a67 : AFn := ⟨[.slot 4], a67c⟩
theorem ok67 : fnOkB 67 a67 = true := by decide +kernel
/- (*blazon/blazonref03.Disk).gone -/
def a68r0 : List AOper := [⟨some 4, .mov (.k (.nils)), none⟩]
def a68r1 : List AOper := [⟨some 5, .mov (.k (.nils)), none⟩]
def a68r2 : List AOper := [⟨some 6, .mov (.k (.int .i64 0)), none⟩]
def a68r3 : List AOper := [mv 9 6, mv 10 0, nk 11 10, fd 12 11 0, ld 13 12, ⟨some 14, .len 1 (.s 13), none⟩, ⟨some 15, .bin .lss (.s 9) (.s 14), none⟩]
def a68r4 : List AOper := [⟨some 7, .mov (.k (.bool false)), none⟩]
def a68r5 : List AOper := [⟨some 8, .mov (.k (.int .i64 0)), none⟩]
def a68r6 : List AOper := [mv 18 8, mv 19 1, ⟨some 20, .len 1 (.s 19), none⟩, ⟨some 21, .bin .lss (.s 18) (.s 20), none⟩]
def a68r7 : List AOper := [mv 24 1, mv 25 8, ⟨some 26, .idxa none 2 (.s 24) (.s 25), none⟩, fd 27 26 1, ld 28 27, mv 29 6, ⟨some 30, .bin .eql (.s 28) (.s 29), none⟩]
def a68r8 : List AOper := [mv 31 5, mv 32 1, mv 33 8, ⟨some 34, .idxa none 2 (.s 32) (.s 33), none⟩, fd 35 34 0, ld 36 35, mv 37 4, ⟨some 38, .len 1 (.s 37), none⟩, ⟨some 39, .build [(strv []), .int .i64 0] [(0, 1, (.s 36)), (1, 1, (.s 38))], none⟩, ⟨some 40, .call 56 [(.s 31), (.s 39)] false, none⟩, mv 5 40]
def a68r9 : List AOper := [⟨some 7, .mov (.k (.bool true)), none⟩]
def a68r10 : List AOper := [mv 22 8, ⟨some 23, .bin .add (.s 22) (.k (.int .i64 1)), none⟩, mv 8 23]
def a68l0 : ACode := (.seq (.seq (.reg 0 a68r6 [0, 1, 4, 5, 6, 7, 8, 21]) (.cond (.s 21) .skip (.exit 2))) (.seq (.block 3 (.seq (.reg 0 a68r7 [0, 1, 4, 5, 6, 7, 8, 30]) (.cond (.s 30) (.seq (.reg 0 a68r8 [0, 1, 4, 5, 6, 8]) (.reg 0 a68r9 [0, 1, 4, 5, 6, 7, 8])) .skip))) (.reg 0 a68r10 [0, 1, 4, 5, 6, 7, 8])))
def a68r11 : List AOper := [mv 41 7]
def a68r12 : List AOper := [mv 42 4, mv 43 0, nk 44 43, fd 45 44 0, ld 46 45, mv 47 6, ⟨some 48, .idxa none 2 (.s 46) (.s 47), none⟩, ⟨some 49, .load (some 2) (.s 48), none⟩, ⟨some 50, .lits 2 1 [.nils, .int .i64 0] [(0, 2, (.s 49))], none⟩, ⟨some 51, .app 2 32 (.s 42) (.s 50) 0, none⟩, mv 4 51]
def a68r13 : List AOper := [mv 16 6, ⟨some 17, .bin .add (.s 16) (.k (.int .i64 1)), none⟩, mv 6 17]
def a68l1 : ACode := (.seq (.seq (.reg 0 a68r3 [0, 1, 4, 5, 6, 15]) (.cond (.s 15) .skip (.exit 0))) (.seq (.block 1 (.seq (.reg 0 a68r4 [0, 1, 4, 5, 6, 7]) (.seq (.seq (.reg 0 a68r5 [0, 1, 4, 5, 6, 7, 8]) (.block 2 (.loop a68l0))) (.seq (.reg 0 a68r11 [0, 1, 4, 5, 6, 41]) (.cond (.s 41) (.reg 1 a68r12 [0, 1, 4, 5, 6]) .skip))))) (.reg 0 a68r13 [0, 1, 4, 5, 6])))
def a68r14 : List AOper := [mv 52 0, mv 53 4, nk 54 52, fd 55 54 0, ⟨none, .store 1 (.s 55) (.s 53), none⟩]
def a68r15 : List AOper := [mv 56 0, mv 57 5, nk 58 56, fd 59 58 1, ⟨none, .store 1 (.s 59) (.s 57), none⟩]
def a68r16 : List AOper := [mv 60 0, mv 61 5, nk 62 60, fd 63 62 2, ⟨none, .store 1 (.s 63) (.s 61), none⟩]
def a68c : ACode := (.seq (.reg 0 a68r0 [0, 1, 4]) (.seq (.reg 0 a68r1 [0, 1, 4, 5]) (.seq (.seq (.reg 0 a68r2 [0, 1, 4, 5, 6]) (.block 0 (.loop a68l1))) (.seq (.reg 0 a68r14 [0, 5]) (.seq (.reg 0 a68r15 [0, 5]) (.reg 0 a68r16 []))))))
def a68 : AFn := ⟨[], a68c⟩
theorem ok68 : fnOkB 68 a68 = true := by decide +kernel
/- slices.IndexFunc[[]*blazon/disk.file,*blazon/disk.file] -/
def a69r0 : List AOper := [⟨some 4, .mov (.k (.int .i64 0)), none⟩]
def a69r1 : List AOper := [mv 6 0, ⟨some 7, .len 1 (.s 6), none⟩, ⟨some 8, .mov (.k (.int .i64 0)), none⟩]
def a69r2 : List AOper := [⟨some 9, .bin .lss (.s 8) (.s 7), none⟩]
def a69r3 : List AOper := [mv 10 8, mv 5 10]
def a69r4 : List AOper := [mv 11 1, mv 12 0, mv 13 5, ⟨some 14, .idxa none 1 (.s 12) (.s 13), none⟩, ld 15 14, ⟨some 16, .callv (.s 11) [(.s 15)] false, none⟩]
def a69r5 : List AOper := [mv 17 5, mv 4 17]
def a69r6 : List AOper := [⟨some 18, .bin .add (.s 8) (.k (.int .i64 1)), none⟩, mv 8 18]
def a69l0 : ACode := (.seq (.reg 0 a69r2 [0, 1, 7, 8, 9]) (.seq (.cond (.s 9) .skip (.exit 0)) (.seq (.block 1 (.seq (.reg 0 a69r3 [0, 1, 5, 7, 8]) (.seq (.reg 0 a69r4 [0, 1, 5, 7, 8, 16]) (.cond (.s 16) (.seq (.reg 0 a69r5 [4]) .ret) .skip)))) (.reg 0 a69r6 [0, 1, 7, 8]))))
def a69r7 : List AOper := [⟨some 4, .mov (.k (.int .i64 (-1))), none⟩]
def a69c : ACode := (.seq (.reg 0 a69r0 [0, 1]) (.seq (.seq (.reg 0 a69r1 [0, 1, 7, 8]) (.block 0 (.loop a69l0))) (.seq (.reg 0 a69r7 [4]) .ret)))
def a69 : AFn := ⟨[.slot 4], a69c⟩
theorem ok69 : fnOkB 69 a69 = true := by decide +kernel
/- strings.IndexFunc -/
def a73r0 : List AOper := [⟨some 4, .mov (.k (.int .i64 0)), none⟩]
def a73r1 : List AOper := [mv 5 0, mv 6 1, ⟨some 7, .call 80 [(.s 5), (.s 6), (.k (.bool true))] false, none⟩, mv 4 7]
def a73c : ACode := (.seq (.reg 0 a73r0 [0, 1]) (.seq (.reg 0 a73r1 [4]) .ret))
def a73 : AFn := ⟨[.slot 4], a73c⟩
theorem ok73 : fnOkB 73 a73 = true := by decide +kernel
/- blazon/blazonref03.without -/
def a76r0 : List AOper := [⟨some 4, .mov (.k (.nils)), none⟩]
def a76r1 : List AOper := [⟨some 5, .mov (.k (.nils)), none⟩]
def a76r2 : List AOper := [⟨some 6, .mov (.k (.int .i64 0)), none⟩]
def a76r3 : List AOper := [mv 7 6, mv 8 0, ⟨some 9, .len 1 (.s 8), none⟩, ⟨some 10, .bin .lss (.s 7) (.s 9), none⟩]
def a76r4 : List AOper := [mv 13 0, mv 14 6, ⟨some 15, .idxa none 2 (.s 13) (.s 14), none⟩, fd 16 15 0, ld 17 16, mv 18 1, ⟨some 19, .bin .neq (.s 17) (.s 18), none⟩]
def a76r5 : List AOper := [mv 20 5, mv 21 0, mv 22 6, ⟨some 23, .idxa none 2 (.s 21) (.s 22), none⟩, ⟨some 24, .load (some 2) (.s 23), none⟩, ⟨some 25, .lits 2 1 [(strv []), .int .i64 0] [(0, 2, (.s 24))], none⟩, ⟨some 26, .app 2 24 (.s 20) (.s 25) 0, none⟩, mv 5 26]
def a76r6 : List AOper := [mv 11 6, ⟨some 12, .bin .add (.s 11) (.k (.int .i64 1)), none⟩, mv 6 12]
def a76l0 : ACode := (.seq (.seq (.reg 0 a76r3 [0, 1, 5, 6, 10]) (.cond (.s 10) .skip (.exit 0))) (.seq (.block 1 (.seq (.reg 0 a76r4 [0, 1, 5, 6, 19]) (.cond (.s 19) (.reg 1 a76r5 [0, 1, 5, 6]) .skip))) (.reg 0 a76r6 [0, 1, 5, 6])))
def a76r7 : List AOper := [mv 27 5, mv 4 27]
def a76c : ACode := (.seq (.reg 0 a76r0 [0, 1]) (.seq (.reg 0 a76r1 [0, 1, 5]) (.seq (.seq (.reg 0 a76r2 [0, 1, 5, 6]) (.block 0 (.loop a76l0))) (.seq (.reg 0 a76r7 [4]) .ret))))
def a76 : AFn := ⟨[.slot 4], a76c⟩
theorem ok76 : fnOkB 76 a76 = true := by decide +kernel
/- strings.indexFunc -/
def a80r0 : List AOper := [⟨some 6, .mov (.k (.int .i64 0)), none⟩]
def a80r1 : List AOper := [mv 9 0, ⟨some 10, .range false (.s 9) 0, none⟩]
def a80r2 : List AOper := [⟨some 11, .next true (.s 10), none⟩, ⟨some 12, .ext (.s 11) 0, none⟩]
def a80r3 : List AOper := [⟨some 13, .ext (.s 11) 1, none⟩, ⟨some 14, .ext (.s 11) 2, none⟩, mv 7 13, mv 8 14]
def a80r4 : List AOper := [mv 15 1, mv 16 8, ⟨some 17, .callv (.s 15) [(.s 16)] false, none⟩, mv 18 2, ⟨some 19, .cmp 0 false (.s 17) (.s 18), none⟩]
def a80r5 : List AOper := [mv 20 7, mv 6 20]
def a80l0 : ACode := (.seq (.reg 0 a80r2 [1, 2, 10, 11, 12]) (.seq (.cond (.s 12) .skip (.exit 0)) (.block 1 (.seq (.reg 0 a80r3 [1, 2, 7, 8, 10]) (.seq (.reg 0 a80r4 [1, 2, 7, 10, 19]) (.cond (.s 19) (.seq (.reg 0 a80r5 [6]) .ret) .skip))))))
def a80r6 : List AOper := [⟨some 6, .mov (.k (.int .i64 (-1))), none⟩]
def a80c : ACode := (.seq (.reg 0 a80r0 [0, 1, 2]) (.seq (.seq (.reg 1 a80r1 [1, 2, 10]) (.block 0 (.loop a80l0))) (.seq (.reg 0 a80r6 [6]) .ret)))
def a80 : AFn := ⟨[.slot 6], a80c⟩
theorem ok80 : fnOkB 80 a80 = true := by decide +kernel
def code : Nat → Option AFn
  | 6 => some a6
  | 8 => some a8
  | 10 => some a10
  | 11 => some a11
  | 13 => some a13
  | 14 => some a14
  | 15 => some a15
  | 16 => some a16
  | 17 => some a17
  | 18 => some a18
  | 19 => some a19
  | 20 => some a20
  | 21 => some a21
  | 22 => some a22
  | 23 => some a23
  | 24 => some a24
  | 25 => some a25
  | 26 => some a26
  | 27 => some a27
  | 28 => some a28
  | 29 => some a29
  | 30 => some a30
  | 31 => some a31
  | 32 => some a32
  | 33 => some a33
  | 34 => some a34
  | 35 => some a35
  | 37 => some a37
  | 38 => some a38
  | 39 => some a39
  | 40 => some a40
  | 41 => some a41
  | 42 => some a42
  | 43 => some a43
  | 44 => some a44
  | 45 => some a45
  | 46 => some a46
  | 47 => some a47
  | 48 => some a48
  | 49 => some a49
  | 50 => some a50
  | 51 => some a51
  | 52 => some a52
  | 54 => some a54
  | 55 => some a55
  | 56 => some a56
  | 57 => some a57
  | 58 => some a58
  | 59 => some a59
  | 60 => some a60
  | 64 => some a64
  | 65 => some a65
  | 66 => some a66
  | 67 => some a67
  | 68 => some a68
  | 69 => some a69
  | 73 => some a73
  | 76 => some a76
  | 80 => some a80
  | _ => none
def pures : Nat → Nat
  | 14 => 2
  | 15 => 1
  | 22 => 2
  | 29 => 2
  | 59 => 1
  | _ => 0
theorem fnSim_of {n : Nat} {fn : AFn} (h : fnOkB n fn = true) : FnSim L n fn := by
  unfold fnOkB at h
  split at h
  · rename_i F hF
    split at h
    · rename_i c hc
      simp only [Bool.and_eq_true] at h
      exact ⟨F, c, hF, hc, h.1, h.2⟩
    · cases h
  · cases h
theorem code_sim (n : Nat) (fn : AFn) (h : code n = some fn) : FnSim L n fn := by
  unfold code at h
  split at h <;> first | (cases h; done) | skip
  · cases h; exact fnSim_of ok6
  · cases h; exact fnSim_of ok8
  · cases h; exact fnSim_of ok10
  · cases h; exact fnSim_of ok11
  · cases h; exact fnSim_of ok13
  · cases h; exact fnSim_of ok14
  · cases h; exact fnSim_of ok15
  · cases h; exact fnSim_of ok16
  · cases h; exact fnSim_of ok17
  · cases h; exact fnSim_of ok18
  · cases h; exact fnSim_of ok19
  · cases h; exact fnSim_of ok20
  · cases h; exact fnSim_of ok21
  · cases h; exact fnSim_of ok22
  · cases h; exact fnSim_of ok23
  · cases h; exact fnSim_of ok24
  · cases h; exact fnSim_of ok25
  · cases h; exact fnSim_of ok26
  · cases h; exact fnSim_of ok27
  · cases h; exact fnSim_of ok28
  · cases h; exact fnSim_of ok29
  · cases h; exact fnSim_of ok30
  · cases h; exact fnSim_of ok31
  · cases h; exact fnSim_of ok32
  · cases h; exact fnSim_of ok33
  · cases h; exact fnSim_of ok34
  · cases h; exact fnSim_of ok35
  · cases h; exact fnSim_of ok37
  · cases h; exact fnSim_of ok38
  · cases h; exact fnSim_of ok39
  · cases h; exact fnSim_of ok40
  · cases h; exact fnSim_of ok41
  · cases h; exact fnSim_of ok42
  · cases h; exact fnSim_of ok43
  · cases h; exact fnSim_of ok44
  · cases h; exact fnSim_of ok45
  · cases h; exact fnSim_of ok46
  · cases h; exact fnSim_of ok47
  · cases h; exact fnSim_of ok48
  · cases h; exact fnSim_of ok49
  · cases h; exact fnSim_of ok50
  · cases h; exact fnSim_of ok51
  · cases h; exact fnSim_of ok52
  · cases h; exact fnSim_of ok54
  · cases h; exact fnSim_of ok55
  · cases h; exact fnSim_of ok56
  · cases h; exact fnSim_of ok57
  · cases h; exact fnSim_of ok58
  · cases h; exact fnSim_of ok59
  · cases h; exact fnSim_of ok60
  · cases h; exact fnSim_of ok64
  · cases h; exact fnSim_of ok65
  · cases h; exact fnSim_of ok66
  · cases h; exact fnSim_of ok67
  · cases h; exact fnSim_of ok68
  · cases h; exact fnSim_of ok69
  · cases h; exact fnSim_of ok73
  · cases h; exact fnSim_of ok76
  · cases h; exact fnSim_of ok80
end Go.Am.Dk
attribute [go_sem] ne_eq not_true_eq_false not_false_eq_true Nat.reduceEqDiff Nat.reduceAdd Nat.reduceLeDiff Int.toNat_natCast Int.reduceToNat and_self Bool.not_true Bool.not_false Bool.false_and Bool.and_false Bool.true_and Bool.and_true Int.reduceEq Int.reduceLT Int.reduceLE Int.reduceAdd Int.reduceSub Int.reduceNeg decide_true decide_false Option.bind_some Bool.or_true Bool.or_false Bool.true_or Bool.false_or
attribute [go_sem ↓] reduceIte
