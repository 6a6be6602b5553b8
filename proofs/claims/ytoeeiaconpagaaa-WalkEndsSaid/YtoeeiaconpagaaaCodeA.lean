/- Compiled code of functions of the program, written by program; each is what the compiler kFunc gives of the loaded function. -/
import Derived.Test.YtoeeiaconpagaaaProg
import Derived.Test.YtoeeiaconpagaaaAm5
import Derived.KernelRfl
namespace Go.Proofs.Ytoeeiaconpagaaa
open Go.AM

def F6 : RFunc := ⟨73, [.t 4], (.seq (.reg false [] [
  ⟨(some 2), none, .box (.t 0)⟩,
  ⟨(some 3), none, .box (.t 1)⟩,
  ⟨(some 4), none, .mv (.c (.bool false))⟩])
 (.seq (.seq (.reg false [] [
  ⟨(some 11), none, .call (.c (.fn 15 [])) []⟩,
  ⟨(some 12), none, .un .not (.t 11)⟩])
 (.cond (.t 12) (.seq (.reg false [] [
  ⟨(some 4), none, .mv (.c (.bool false))⟩])
 .ret)
 .skip))
 (.seq (.seq (.reg false [] [
  ⟨(some 13), none, .load (some 3) (.t 2)⟩,
  ⟨(some 14), none, .call (.c (.fn 12 [])) [(.t 13)]⟩,
  ⟨(some 15), none, .eq true .i (.t 14) (.c (.int .i64 (0)))⟩])
 (.cond (.t 15) (.seq (.reg false [] [
  ⟨(some 4), none, .mv (.c (.bool true))⟩])
 .ret)
 .skip))
 (.seq (.reg false [] [
  ⟨(some 17), none, .load (some 3) (.t 2)⟩,
  ⟨(some 18), none, .load (some 8) (.t 3)⟩,
  ⟨(some 19), none, .call (.c (.fn 22 [])) [(.t 17), (.t 18)]⟩,
  ⟨(some 16), none, .mv (.t 19)⟩,
  ⟨(some 20), none, .ext (.t 16) 0⟩,
  ⟨(some 21), none, .ext (.t 16) 1⟩,
  ⟨(some 5), none, .alloc [(.int .u16 (0)), (.int .u16 (0)), (.int .u16 (0)), (.int .u16 (0)), (.int .u16 (0)), (.int .u16 (0)), (.int .u16 (0)), (.int .u16 (0))]⟩,
  ⟨none, none, .store 8 (.t 5) (.t 20)⟩,
  ⟨(some 6), none, .mv (.t 21)⟩])
 (.seq (.seq (.reg false [] [
  ⟨(some 22), none, .mv (.t 6)⟩])
 (.block 0 (.seq (.reg false [] [
  ⟨(some 24), none, .eq false .i (.t 22) (.c (.int .i64 (0)))⟩,
  ⟨(some 23), none, .mv (.t 24)⟩])
 (.cond (.t 23) (.seq (.reg false [] [
  ⟨(some 26), none, .load (some 3) (.t 2)⟩,
  ⟨(some 27), none, .load (some 8) (.t 5)⟩,
  ⟨(some 28), none, .call (.c (.fn 22 [])) [(.t 26), (.t 27)]⟩,
  ⟨(some 25), none, .mv (.t 28)⟩,
  ⟨(some 29), none, .ext (.t 25) 0⟩,
  ⟨(some 30), none, .ext (.t 25) 1⟩,
  ⟨(some 7), none, .alloc [(.int .u16 (0)), (.int .u16 (0)), (.int .u16 (0)), (.int .u16 (0)), (.int .u16 (0)), (.int .u16 (0)), (.int .u16 (0)), (.int .u16 (0))]⟩,
  ⟨none, none, .store 8 (.t 7) (.t 29)⟩,
  ⟨(some 8), none, .mv (.t 30)⟩])
 (.seq (.reg false [] [
  ⟨(some 31), none, .mv (.t 8)⟩,
  ⟨(some 32), none, .eq false .i (.t 31) (.c (.int .i64 (0)))⟩,
  ⟨(some 33), none, .mv (.t 32)⟩,
  ⟨(some 34), (some (33, true)), .load (some 8) (.t 7)⟩,
  ⟨(some 35), (some (33, true)), .load (some 8) (.t 3)⟩,
  ⟨(some 36), (some (33, true)), .eq false (.g 8) (.t 34) (.t 35)⟩,
  ⟨(some 37), none, .pick (.t 33) (.t 36) (.c (.bool false))⟩,
  ⟨(some 4), none, .mv (.t 37)⟩])
 .ret))
 (.seq (.reg false [] [
  ⟨(some 39), none, .eq false .i (.t 22) (.c (.int .i64 (1)))⟩,
  ⟨(some 38), none, .mv (.t 39)⟩])
 (.cond (.t 38) (.seq (.reg false [] [
  ⟨(some 40), none, .load (some 8) (.t 5)⟩,
  ⟨(some 41), none, .load (some 8) (.t 3)⟩,
  ⟨(some 42), none, .eq false (.g 8) (.t 40) (.t 41)⟩,
  ⟨(some 43), none, .mv (.t 42)⟩,
  ⟨(some 44), (some (43, true)), .load (some 3) (.t 2)⟩,
  ⟨(some 45), (some (43, true)), .iaA 8 1 (.t 3) (.c (.int .i64 (0)))⟩,
  ⟨(some 46), (some (43, true)), .load none (.t 45)⟩,
  ⟨(some 47), (some (43, true)), .iaA 8 1 (.t 3) (.c (.int .i64 (1)))⟩,
  ⟨(some 48), (some (43, true)), .load none (.t 47)⟩,
  ⟨(some 49), (some (43, true)), .build [(.int .u16 (0)), (.int .u16 (0))] [(0, 1, (.t 46)), (1, 1, (.t 48))]⟩,
  ⟨(some 50), (some (43, true)), .call (.c (.fn 23 [])) [(.t 44), (.t 49)]⟩,
  ⟨(some 51), none, .pick (.t 43) (.t 50) (.c (.bool false))⟩,
  ⟨(some 4), none, .mv (.t 51)⟩])
 .ret)
 .skip))))))
 (.seq (.reg false [] [
  ⟨(some 53), none, .load (some 3) (.t 2)⟩,
  ⟨(some 54), none, .iaA 8 1 (.t 3) (.c (.int .i64 (0)))⟩,
  ⟨(some 55), none, .load none (.t 54)⟩,
  ⟨(some 56), none, .iaA 8 1 (.t 3) (.c (.int .i64 (1)))⟩,
  ⟨(some 57), none, .load none (.t 56)⟩,
  ⟨(some 58), none, .build [(.int .u16 (0)), (.int .u16 (0))] [(0, 1, (.t 55)), (1, 1, (.t 57))]⟩,
  ⟨(some 59), none, .call (.c (.fn 24 [])) [(.t 53), (.t 58)]⟩,
  ⟨(some 52), none, .mv (.t 59)⟩,
  ⟨(some 60), none, .ext (.t 52) 0⟩,
  ⟨(some 61), none, .ext (.t 52) 1⟩,
  ⟨(some 9), none, .alloc [(.int .u16 (0)), (.int .u16 (0))]⟩,
  ⟨none, none, .store 2 (.t 9) (.t 60)⟩,
  ⟨(some 10), none, .mv (.t 61)⟩])
 (.seq (.reg false [] [
  ⟨(some 62), none, .mv (.t 6)⟩,
  ⟨(some 63), none, .eq false .i (.t 62) (.c (.int .i64 (2)))⟩,
  ⟨(some 64), none, .mv (.t 63)⟩,
  ⟨(some 65), (some (64, true)), .load (some 8) (.t 5)⟩,
  ⟨(some 66), (some (64, true)), .load (some 8) (.t 3)⟩,
  ⟨(some 67), (some (64, true)), .eq false (.g 8) (.t 65) (.t 66)⟩,
  ⟨(some 68), none, .pick (.t 64) (.t 67) (.c (.bool false))⟩,
  ⟨(some 69), none, .mv (.t 68)⟩,
  ⟨(some 70), (some (69, true)), .mv (.t 10)⟩,
  ⟨(some 71), (some (69, true)), .un .not (.t 70)⟩,
  ⟨(some 72), none, .pick (.t 69) (.t 71) (.c (.bool false))⟩,
  ⟨(some 4), none, .mv (.t 72)⟩])
 .ret)))))))⟩
theorem k6 : kFunc Try.prog Try.f6 = some F6 := by kernel_rfl

def F12 : RFunc := ⟨76, [.t 2], (.seq (.reg false [] [
  ⟨(some 1), none, .box (.t 0)⟩,
  ⟨(some 2), none, .mv (.c (.int .i64 (0)))⟩])
 (.seq (.seq (.reg false [] [
  ⟨(some 8), none, .faddr 0 (.t 1)⟩,
  ⟨(some 9), none, .load none (.t 8)⟩,
  ⟨(some 10), none, .len 1 (.t 9)⟩,
  ⟨(some 11), none, .bin .gtr (.t 10) (.c (.int .i64 (12)))⟩,
  ⟨(some 12), none, .mv (.t 11)⟩,
  ⟨(some 13), (some (12, false)), .faddr 1 (.t 1)⟩,
  ⟨(some 14), (some (12, false)), .load none (.t 13)⟩,
  ⟨(some 15), (some (12, false)), .len 1 (.t 14)⟩,
  ⟨(some 16), (some (12, false)), .bin .gtr (.t 15) (.c (.int .i64 (24)))⟩,
  ⟨(some 17), none, .pick (.t 12) (.c (.bool true)) (.t 16)⟩,
  ⟨(some 18), none, .mv (.t 17)⟩,
  ⟨(some 19), (some (18, false)), .faddr 2 (.t 1)⟩,
  ⟨(some 20), (some (18, false)), .load none (.t 19)⟩,
  ⟨(some 21), (some (18, false)), .len 1 (.t 20)⟩,
  ⟨(some 22), (some (18, false)), .bin .gtr (.t 21) (.c (.int .i64 (24)))⟩,
  ⟨(some 23), none, .pick (.t 18) (.c (.bool true)) (.t 22)⟩])
 (.cond (.t 23) (.seq (.reg false [] [
  ⟨(some 2), none, .mv (.c (.int .i64 (2)))⟩])
 .ret)
 .skip))
 (.seq (.seq (.reg false [] [
  ⟨(some 3), none, .mv (.c (.int .i64 (0)))⟩])
 (.block 0 (.loop (.seq (.seq (.reg false [] [
  ⟨(some 24), none, .mv (.t 3)⟩,
  ⟨(some 25), none, .faddr 0 (.t 1)⟩,
  ⟨(some 26), none, .load none (.t 25)⟩,
  ⟨(some 27), none, .len 1 (.t 26)⟩,
  ⟨(some 28), none, .bin .lss (.t 24) (.t 27)⟩])
 (.cond (.t 28) .skip
 (.exit 0)))
 (.seq (.block 1 (.seq (.reg true [0, 0, 2, 0, 14, 30, 63, 0, 255] [
  ⟨(some 31), none, .load (some 3) (.t 1)⟩,
  ⟨(some 32), none, .faddr 0 (.t 1)⟩,
  ⟨(some 33), none, .load none (.t 32)⟩,
  ⟨(some 34), none, .mv (.t 3)⟩,
  ⟨(some 35), none, .iaS 1 (.t 33) (.t 34)⟩,
  ⟨(some 36), none, .load none (.t 35)⟩,
  ⟨(some 37), none, .call (.c (.fn 36 [])) [(.t 31), (.t 36)]⟩,
  ⟨(some 38), none, .mv (.t 3)⟩,
  ⟨(some 39), none, .eq true .i (.t 37) (.t 38)⟩])
 (.cond (.t 39) (.seq (.reg false [] [
  ⟨(some 2), none, .mv (.c (.int .i64 (12)))⟩])
 .ret)
 .skip)))
 (.reg false [] [
  ⟨(some 29), none, .mv (.t 3)⟩,
  ⟨(some 30), none, .bin .add (.t 29) (.c (.int .i64 (1)))⟩,
  ⟨(some 3), none, .mv (.t 30)⟩]))))))
 (.seq (.reg false [] [
  ⟨(some 40), none, .load (some 3) (.t 1)⟩,
  ⟨(some 41), none, .call (.c (.fn 37 [])) [(.t 40)]⟩,
  ⟨(some 4), none, .mv (.t 41)⟩])
 (.seq (.seq (.reg false [] [
  ⟨(some 5), none, .mv (.c (.int .i64 (0)))⟩])
 (.block 2 (.loop (.seq (.seq (.reg false [] [
  ⟨(some 42), none, .mv (.t 5)⟩,
  ⟨(some 43), none, .mv (.t 4)⟩,
  ⟨(some 44), none, .len 1 (.t 43)⟩,
  ⟨(some 45), none, .bin .lss (.t 42) (.t 44)⟩])
 (.cond (.t 45) .skip
 (.exit 2)))
 (.seq (.block 3 (.seq (.reg true [0, 0, 0, 6, 14, 30, 63, 127] [
  ⟨(some 48), none, .load (some 3) (.t 1)⟩,
  ⟨(some 49), none, .mv (.t 4)⟩,
  ⟨(some 50), none, .mv (.t 5)⟩,
  ⟨(some 51), none, .iaS 2 (.t 49) (.t 50)⟩,
  ⟨(some 52), none, .faddr 0 (.t 51)⟩,
  ⟨(some 53), none, .load none (.t 52)⟩,
  ⟨(some 54), none, .call (.c (.fn 36 [])) [(.t 48), (.t 53)]⟩,
  ⟨(some 55), none, .bin .lss (.t 54) (.c (.int .i64 (0)))⟩])
 (.cond (.t 55) (.seq (.reg false [] [
  ⟨(some 2), none, .mv (.c (.int .i64 (12)))⟩])
 .ret)
 .skip)))
 (.reg false [] [
  ⟨(some 46), none, .mv (.t 5)⟩,
  ⟨(some 47), none, .bin .add (.t 46) (.c (.int .i64 (1)))⟩,
  ⟨(some 5), none, .mv (.t 47)⟩]))))))
 (.seq (.seq (.reg false [] [
  ⟨(some 6), none, .mv (.c (.int .i64 (0)))⟩])
 (.block 4 (.loop (.seq (.seq (.reg false [] [
  ⟨(some 56), none, .mv (.t 6)⟩,
  ⟨(some 57), none, .mv (.t 4)⟩,
  ⟨(some 58), none, .len 1 (.t 57)⟩,
  ⟨(some 59), none, .bin .lss (.t 56) (.t 58)⟩])
 (.cond (.t 59) .skip
 (.exit 4)))
 (.seq (.block 5 (.seq (.reg false [] [
  ⟨(some 7), none, .mv (.c (.int .i64 (0)))⟩])
 (.block 6 (.loop (.seq (.seq (.reg false [] [
  ⟨(some 62), none, .mv (.t 7)⟩,
  ⟨(some 63), none, .mv (.t 6)⟩,
  ⟨(some 64), none, .bin .lss (.t 62) (.t 63)⟩])
 (.cond (.t 64) .skip
 (.exit 6)))
 (.seq (.block 7 (.seq (.reg true [0, 0, 3, 7, 0, 0, 48, 112, 255] [
  ⟨(some 67), none, .mv (.t 4)⟩,
  ⟨(some 68), none, .mv (.t 6)⟩,
  ⟨(some 69), none, .iaS 2 (.t 67) (.t 68)⟩,
  ⟨(some 70), none, .load (some 2) (.t 69)⟩,
  ⟨(some 71), none, .mv (.t 4)⟩,
  ⟨(some 72), none, .mv (.t 7)⟩,
  ⟨(some 73), none, .iaS 2 (.t 71) (.t 72)⟩,
  ⟨(some 74), none, .load (some 2) (.t 73)⟩,
  ⟨(some 75), none, .eq false (.g 2) (.t 70) (.t 74)⟩])
 (.cond (.t 75) (.seq (.reg false [] [
  ⟨(some 2), none, .mv (.c (.int .i64 (11)))⟩])
 .ret)
 .skip)))
 (.reg false [] [
  ⟨(some 65), none, .mv (.t 7)⟩,
  ⟨(some 66), none, .bin .add (.t 65) (.c (.int .i64 (1)))⟩,
  ⟨(some 7), none, .mv (.t 66)⟩])))))))
 (.reg false [] [
  ⟨(some 60), none, .mv (.t 6)⟩,
  ⟨(some 61), none, .bin .add (.t 60) (.c (.int .i64 (1)))⟩,
  ⟨(some 6), none, .mv (.t 61)⟩]))))))
 (.seq (.reg false [] [
  ⟨(some 2), none, .mv (.c (.int .i64 (0)))⟩])
 .ret)))))))⟩
theorem k12 : kFunc Try.prog Try.f12 = some F12 := by kernel_rfl

def F23 : RFunc := ⟨20, [.t 4], (.seq (.reg false [] [
  ⟨(some 2), none, .box (.t 0)⟩,
  ⟨(some 3), none, .box (.t 1)⟩,
  ⟨(some 4), none, .mv (.c (.bool false))⟩])
 (.seq (.seq (.reg false [] [
  ⟨(some 5), none, .mv (.c (.int .i64 (0)))⟩])
 (.block 0 (.loop (.seq (.seq (.reg false [] [
  ⟨(some 6), none, .mv (.t 5)⟩,
  ⟨(some 7), none, .faddr 2 (.t 2)⟩,
  ⟨(some 8), none, .load none (.t 7)⟩,
  ⟨(some 9), none, .len 1 (.t 8)⟩,
  ⟨(some 10), none, .bin .lss (.t 6) (.t 9)⟩])
 (.cond (.t 10) .skip
 (.exit 0)))
 (.seq (.block 1 (.seq (.reg true [0, 1, 0, 7, 15, 0, 63] [
  ⟨(some 13), none, .faddr 2 (.t 2)⟩,
  ⟨(some 14), none, .load none (.t 13)⟩,
  ⟨(some 15), none, .mv (.t 5)⟩,
  ⟨(some 16), none, .iaS 2 (.t 14) (.t 15)⟩,
  ⟨(some 17), none, .load (some 2) (.t 16)⟩,
  ⟨(some 18), none, .load (some 2) (.t 3)⟩,
  ⟨(some 19), none, .eq false (.g 2) (.t 17) (.t 18)⟩])
 (.cond (.t 19) (.seq (.reg false [] [
  ⟨(some 4), none, .mv (.c (.bool true))⟩])
 .ret)
 .skip)))
 (.reg false [] [
  ⟨(some 11), none, .mv (.t 5)⟩,
  ⟨(some 12), none, .bin .add (.t 11) (.c (.int .i64 (1)))⟩,
  ⟨(some 5), none, .mv (.t 12)⟩]))))))
 (.seq (.reg false [] [
  ⟨(some 4), none, .mv (.c (.bool false))⟩])
 .ret)))⟩
theorem k23 : kFunc Try.prog Try.f23 = some F23 := by kernel_rfl

def F24 : RFunc := ⟨43, [.cell 4 (some 2), .t 5], (.seq (.reg false [] [
  ⟨(some 2), none, .box (.t 0)⟩,
  ⟨(some 3), none, .box (.t 1)⟩,
  ⟨(some 4), none, .alloc [(.int .u16 (0)), (.int .u16 (0))]⟩,
  ⟨(some 5), none, .mv (.c (.bool false))⟩])
 (.seq (.seq (.reg false [] [
  ⟨(some 6), none, .mv (.c (.int .i64 (0)))⟩])
 (.block 0 (.loop (.seq (.seq (.reg false [] [
  ⟨(some 7), none, .mv (.t 6)⟩,
  ⟨(some 8), none, .faddr 1 (.t 2)⟩,
  ⟨(some 9), none, .load none (.t 8)⟩,
  ⟨(some 10), none, .len 1 (.t 9)⟩,
  ⟨(some 11), none, .bin .lss (.t 7) (.t 10)⟩])
 (.cond (.t 11) .skip
 (.exit 0)))
 (.seq (.block 1 (.seq (.seq (.reg true [0, 1, 0, 7, 15, 31, 0, 127] [
  ⟨(some 14), none, .faddr 1 (.t 2)⟩,
  ⟨(some 15), none, .load none (.t 14)⟩,
  ⟨(some 16), none, .mv (.t 6)⟩,
  ⟨(some 17), none, .iaS 4 (.t 15) (.t 16)⟩,
  ⟨(some 18), none, .iaA 2 2 (.t 17) (.c (.int .i64 (0)))⟩,
  ⟨(some 19), none, .load (some 2) (.t 18)⟩,
  ⟨(some 20), none, .load (some 2) (.t 3)⟩,
  ⟨(some 21), none, .eq false (.g 2) (.t 19) (.t 20)⟩])
 (.cond (.t 21) (.seq (.reg false [] [
  ⟨(some 22), none, .faddr 1 (.t 2)⟩,
  ⟨(some 23), none, .load none (.t 22)⟩,
  ⟨(some 24), none, .mv (.t 6)⟩,
  ⟨(some 25), none, .iaS 4 (.t 23) (.t 24)⟩,
  ⟨(some 26), none, .iaA 2 2 (.t 25) (.c (.int .i64 (1)))⟩,
  ⟨(some 27), none, .load (some 2) (.t 26)⟩,
  ⟨none, none, .store 2 (.t 4) (.t 27)⟩,
  ⟨(some 5), none, .mv (.c (.bool true))⟩])
 .ret)
 .skip))
 (.seq (.reg true [0, 1, 0, 7, 15, 31, 0, 127] [
  ⟨(some 28), none, .faddr 1 (.t 2)⟩,
  ⟨(some 29), none, .load none (.t 28)⟩,
  ⟨(some 30), none, .mv (.t 6)⟩,
  ⟨(some 31), none, .iaS 4 (.t 29) (.t 30)⟩,
  ⟨(some 32), none, .iaA 2 2 (.t 31) (.c (.int .i64 (1)))⟩,
  ⟨(some 33), none, .load (some 2) (.t 32)⟩,
  ⟨(some 34), none, .load (some 2) (.t 3)⟩,
  ⟨(some 35), none, .eq false (.g 2) (.t 33) (.t 34)⟩])
 (.cond (.t 35) (.seq (.reg false [] [
  ⟨(some 36), none, .faddr 1 (.t 2)⟩,
  ⟨(some 37), none, .load none (.t 36)⟩,
  ⟨(some 38), none, .mv (.t 6)⟩,
  ⟨(some 39), none, .iaS 4 (.t 37) (.t 38)⟩,
  ⟨(some 40), none, .iaA 2 2 (.t 39) (.c (.int .i64 (0)))⟩,
  ⟨(some 41), none, .load (some 2) (.t 40)⟩,
  ⟨none, none, .store 2 (.t 4) (.t 41)⟩,
  ⟨(some 5), none, .mv (.c (.bool true))⟩])
 .ret)
 .skip))))
 (.reg false [] [
  ⟨(some 12), none, .mv (.t 6)⟩,
  ⟨(some 13), none, .bin .add (.t 12) (.c (.int .i64 (1)))⟩,
  ⟨(some 6), none, .mv (.t 13)⟩]))))))
 (.seq (.reg false [] [
  ⟨(some 42), none, .build [(.int .u16 (0)), (.int .u16 (0))] []⟩,
  ⟨none, none, .store 2 (.t 4) (.t 42)⟩,
  ⟨(some 5), none, .mv (.c (.bool false))⟩])
 .ret)))⟩
theorem k24 : kFunc Try.prog Try.f24 = some F24 := by kernel_rfl

def F36 : RFunc := ⟨21, [.t 4], (.seq (.reg false [] [
  ⟨(some 2), none, .box (.t 0)⟩,
  ⟨(some 4), none, .mv (.c (.int .i64 (0)))⟩])
 (.seq (.seq (.reg false [] [
  ⟨(some 5), none, .mv (.c (.int .i64 (0)))⟩])
 (.block 0 (.loop (.seq (.seq (.reg false [] [
  ⟨(some 6), none, .mv (.t 5)⟩,
  ⟨(some 7), none, .faddr 0 (.t 2)⟩,
  ⟨(some 8), none, .load none (.t 7)⟩,
  ⟨(some 9), none, .len 1 (.t 8)⟩,
  ⟨(some 10), none, .bin .lss (.t 6) (.t 9)⟩])
 (.cond (.t 10) .skip
 (.exit 0)))
 (.seq (.block 1 (.seq (.reg false [] [
  ⟨(some 13), none, .faddr 0 (.t 2)⟩,
  ⟨(some 14), none, .load none (.t 13)⟩,
  ⟨(some 15), none, .mv (.t 5)⟩,
  ⟨(some 16), none, .iaS 1 (.t 14) (.t 15)⟩,
  ⟨(some 17), none, .load none (.t 16)⟩,
  ⟨(some 18), none, .mv (.t 1)⟩,
  ⟨(some 19), none, .eq false .i (.t 17) (.t 18)⟩])
 (.cond (.t 19) (.seq (.reg false [] [
  ⟨(some 20), none, .mv (.t 5)⟩,
  ⟨(some 4), none, .mv (.t 20)⟩])
 .ret)
 .skip)))
 (.reg false [] [
  ⟨(some 11), none, .mv (.t 5)⟩,
  ⟨(some 12), none, .bin .add (.t 11) (.c (.int .i64 (1)))⟩,
  ⟨(some 5), none, .mv (.t 12)⟩]))))))
 (.seq (.reg false [] [
  ⟨(some 4), none, .mv (.c (.int .i64 (-1)))⟩])
 .ret)))⟩
theorem k36 : kFunc Try.prog Try.f36 = some F36 := by kernel_rfl

def F37 : RFunc := ⟨31, [.t 2], (.seq (.reg false [] [
  ⟨(some 1), none, .box (.t 0)⟩,
  ⟨(some 2), none, .mv (.c .nils)⟩])
 (.seq (.reg false [] [
  ⟨(some 3), none, .mv (.c .nils)⟩])
 (.seq (.seq (.reg false [] [
  ⟨(some 4), none, .mv (.c (.int .i64 (0)))⟩])
 (.block 0 (.loop (.seq (.seq (.reg false [] [
  ⟨(some 5), none, .mv (.t 4)⟩,
  ⟨(some 6), none, .faddr 1 (.t 1)⟩,
  ⟨(some 7), none, .load none (.t 6)⟩,
  ⟨(some 8), none, .len 1 (.t 7)⟩,
  ⟨(some 9), none, .bin .lss (.t 5) (.t 8)⟩])
 (.cond (.t 9) .skip
 (.exit 0)))
 (.seq (.block 1 (.reg true [0, 0, 2, 0, 14, 30, 62, 0, 128, 0, 896, 1920, 3968, 8190, 16383, 32767] [
  ⟨(some 12), none, .mv (.t 3)⟩,
  ⟨(some 13), none, .faddr 1 (.t 1)⟩,
  ⟨(some 14), none, .load none (.t 13)⟩,
  ⟨(some 15), none, .mv (.t 4)⟩,
  ⟨(some 16), none, .iaS 4 (.t 14) (.t 15)⟩,
  ⟨(some 17), none, .iaA 2 2 (.t 16) (.c (.int .i64 (0)))⟩,
  ⟨(some 18), none, .load (some 2) (.t 17)⟩,
  ⟨(some 19), none, .faddr 1 (.t 1)⟩,
  ⟨(some 20), none, .load none (.t 19)⟩,
  ⟨(some 21), none, .mv (.t 4)⟩,
  ⟨(some 22), none, .iaS 4 (.t 20) (.t 21)⟩,
  ⟨(some 23), none, .iaA 2 2 (.t 22) (.c (.int .i64 (1)))⟩,
  ⟨(some 24), none, .load (some 2) (.t 23)⟩,
  ⟨(some 25), none, .bslice 2 2 [(.int .u16 (0)), (.int .u16 (0))] [(0, (.t 18)), (1, (.t 24))]⟩,
  ⟨(some 26), none, .app 2 4 (.t 12) (.t 25)⟩,
  ⟨(some 3), none, .mv (.t 26)⟩]))
 (.reg false [] [
  ⟨(some 10), none, .mv (.t 4)⟩,
  ⟨(some 11), none, .bin .add (.t 10) (.c (.int .i64 (1)))⟩,
  ⟨(some 4), none, .mv (.t 11)⟩]))))))
 (.seq (.reg false [] [
  ⟨(some 27), none, .mv (.t 3)⟩,
  ⟨(some 28), none, .faddr 2 (.t 1)⟩,
  ⟨(some 29), none, .load none (.t 28)⟩,
  ⟨(some 30), none, .app 2 4 (.t 27) (.t 29)⟩,
  ⟨(some 2), none, .mv (.t 30)⟩])
 .ret))))⟩
theorem k37 : kFunc Try.prog Try.f37 = some F37 := by kernel_rfl

def F15 : RFunc := ⟨80, [.t 0], (.seq (.reg false [] [
  ⟨(some 0), none, .mv (.c (.bool false))⟩])
 (.seq (.reg false [] [
  ⟨(some 5), none, .bslice 1 2 [(.int .u16 (0))] [(0, (.c (.int .u16 (1)))), (1, (.c (.int .u16 (2))))]⟩,
  ⟨(some 6), none, .build [(.int .u16 (0)), (.int .u16 (0))] [(0, 1, (.c (.int .u16 (1)))), (1, 1, (.c (.int .u16 (2))))]⟩,
  ⟨(some 7), none, .build [(.int .u16 (0)), (.int .u16 (0))] [(0, 1, (.c (.int .u16 (2)))), (1, 1, (.c (.int .u16 (2))))]⟩,
  ⟨(some 8), none, .build [(.int .u16 (0)), (.int .u16 (0)), (.int .u16 (0)), (.int .u16 (0))] [(0, 2, (.t 6)), (2, 2, (.t 7))]⟩,
  ⟨(some 9), none, .bslice 4 1 [(.int .u16 (0)), (.int .u16 (0)), (.int .u16 (0)), (.int .u16 (0))] [(0, (.t 8))]⟩,
  ⟨(some 10), none, .build [(.int .u16 (0)), (.int .u16 (0))] [(0, 1, (.c (.int .u16 (1)))), (1, 1, (.c (.int .u16 (1))))]⟩,
  ⟨(some 11), none, .build [(.int .u16 (0)), (.int .u16 (0))] [(0, 1, (.c (.int .u16 (2)))), (1, 1, (.c (.int .u16 (1))))]⟩,
  ⟨(some 12), none, .bslice 2 2 [(.int .u16 (0)), (.int .u16 (0))] [(0, (.t 10)), (1, (.t 11))]⟩,
  ⟨(some 13), none, .build [.nils, .nils, .nils] [(0, 1, (.t 5)), (1, 1, (.t 9)), (2, 1, (.t 12))]⟩,
  ⟨(some 1), none, .alloc [.nils, .nils, .nils]⟩,
  ⟨none, none, .store 3 (.t 1) (.t 13)⟩])
 (.seq (.reg false [] [
  ⟨(some 14), none, .build [(.int .i64 (0)), (.int .i64 (0)), (.int .u16 (0)), .nils] [(0, 1, (.c (.int .i64 (2)))), (1, 1, (.c (.int .i64 (0)))), (2, 1, (.c (.int .u16 (1))))]⟩,
  ⟨(some 15), none, .build [(.int .i64 (0)), (.int .i64 (0)), (.int .u16 (0)), .nils] [(0, 1, (.c (.int .i64 (5)))), (1, 1, (.c (.int .i64 (1)))), (2, 1, (.c (.int .u16 (2))))]⟩,
  ⟨(some 16), none, .bslice 4 2 [(.int .i64 (0)), (.int .i64 (0)), (.int .u16 (0)), .nils] [(0, (.t 14)), (1, (.t 15))]⟩,
  ⟨(some 17), none, .build [(.int .i64 (0)), (.int .i64 (0)), (.int .u16 (0)), .nils] [(0, 1, (.c (.int .i64 (6)))), (3, 1, (.t 16))]⟩,
  ⟨(some 18), none, .build [(.int .i64 (0)), (.int .i64 (0)), (.int .u16 (0)), .nils] [(0, 1, (.c (.int .i64 (2)))), (1, 1, (.c (.int .i64 (0)))), (2, 1, (.c (.int .u16 (2))))]⟩,
  ⟨(some 19), none, .build [(.int .i64 (0)), (.int .i64 (0)), (.int .u16 (0)), .nils] [(0, 1, (.c (.int .i64 (5)))), (1, 1, (.c (.int .i64 (1)))), (2, 1, (.c (.int .u16 (1))))]⟩,
  ⟨(some 20), none, .bslice 4 2 [(.int .i64 (0)), (.int .i64 (0)), (.int .u16 (0)), .nils] [(0, (.t 18)), (1, (.t 19))]⟩,
  ⟨(some 21), none, .build [(.int .i64 (0)), (.int .i64 (0)), (.int .u16 (0)), .nils] [(0, 1, (.c (.int .i64 (6)))), (3, 1, (.t 20))]⟩,
  ⟨(some 22), none, .bslice 4 2 [(.int .i64 (0)), (.int .i64 (0)), (.int .u16 (0)), .nils] [(0, (.t 17)), (1, (.t 21))]⟩,
  ⟨(some 23), none, .build [(.int .i64 (0)), (.int .i64 (0)), (.int .u16 (0)), .nils] [(0, 1, (.c (.int .i64 (7)))), (3, 1, (.t 22))]⟩,
  ⟨(some 2), none, .alloc [(.int .i64 (0)), (.int .i64 (0)), (.int .u16 (0)), .nils]⟩,
  ⟨none, none, .store 4 (.t 2) (.t 23)⟩])
 (.seq (.reg false [] [
  ⟨(some 25), none, .load (some 3) (.t 1)⟩,
  ⟨(some 26), none, .load (some 4) (.t 2)⟩,
  ⟨(some 27), none, .build [(.int .u16 (0)), (.int .u16 (0)), (.int .u16 (0)), (.int .u16 (0)), (.int .u16 (0)), (.int .u16 (0)), (.int .u16 (0)), (.int .u16 (0))] [(0, 1, (.c (.int .u16 (1)))), (1, 1, (.c (.int .u16 (1))))]⟩,
  ⟨(some 28), none, .call (.c (.fn 17 [])) [(.t 25), (.t 26), (.c .nils), (.t 27)]⟩,
  ⟨(some 24), none, .mv (.t 28)⟩,
  ⟨(some 29), none, .ext (.t 24) 0⟩,
  ⟨(some 30), none, .ext (.t 24) 1⟩,
  ⟨(some 3), none, .mv (.t 29)⟩,
  ⟨(some 4), none, .mv (.t 30)⟩])
 (.seq (.reg true [0, 1, 3, 7, 15, 31, 63, 127, 255, 511, 1023, 2047, 4095, 8191, 16383, 32767, 65535, 131071, 262143, 524287, 32767, 2097151, 4194303, 8388607, 16777215, 16777215, 16777215, 83886079, 218103807, 536870911, 1073741823, 2147483647, 4294967295, 4294967295, 4294967295, 21474836479, 55834574847, 137438953471, 274877906943, 549755813887, 1099511627775, 1099511627775, 1099511627775, 5497558138879, 14293651161087, 31885837205503, 70368744177663, 140737488355327, 281474976710655, 562949953421311] [
  ⟨(some 31), none, .mv (.t 4)⟩,
  ⟨(some 32), none, .eq false .i (.t 31) (.c (.int .i64 (0)))⟩,
  ⟨(some 33), none, .mv (.t 32)⟩,
  ⟨(some 34), (some (33, true)), .mv (.t 3)⟩,
  ⟨(some 35), (some (33, true)), .len 1 (.t 34)⟩,
  ⟨(some 36), (some (33, true)), .eq false .i (.t 35) (.c (.int .i64 (1)))⟩,
  ⟨(some 37), none, .pick (.t 33) (.t 36) (.c (.bool false))⟩,
  ⟨(some 38), none, .mv (.t 37)⟩,
  ⟨(some 39), (some (38, true)), .mv (.t 3)⟩,
  ⟨(some 40), (some (38, true)), .iaS 1 (.t 39) (.c (.int .i64 (0)))⟩,
  ⟨(some 41), (some (38, true)), .load none (.t 40)⟩,
  ⟨(some 42), (some (38, true)), .len 1 (.t 41)⟩,
  ⟨(some 43), (some (38, true)), .eq false .i (.t 42) (.c (.int .i64 (4)))⟩,
  ⟨(some 44), none, .pick (.t 38) (.t 43) (.c (.bool false))⟩,
  ⟨(some 45), none, .mv (.t 44)⟩,
  ⟨(some 46), (some (45, true)), .mv (.t 3)⟩,
  ⟨(some 47), (some (45, true)), .iaS 1 (.t 46) (.c (.int .i64 (0)))⟩,
  ⟨(some 48), (some (45, true)), .load none (.t 47)⟩,
  ⟨(some 49), (some (45, true)), .iaS 8 (.t 48) (.c (.int .i64 (3)))⟩,
  ⟨(some 50), (some (45, true)), .load (some 8) (.t 49)⟩,
  ⟨(some 51), (some (45, true)), .build [(.int .u16 (0)), (.int .u16 (0)), (.int .u16 (0)), (.int .u16 (0)), (.int .u16 (0)), (.int .u16 (0)), (.int .u16 (0)), (.int .u16 (0))] [(0, 1, (.c (.int .u16 (2)))), (1, 1, (.c (.int .u16 (1))))]⟩,
  ⟨(some 52), (some (45, true)), .eq false (.g 8) (.t 50) (.t 51)⟩,
  ⟨(some 53), none, .pick (.t 45) (.t 52) (.c (.bool false))⟩,
  ⟨(some 54), none, .mv (.t 53)⟩,
  ⟨(some 55), (some (54, true)), .load (some 3) (.t 1)⟩,
  ⟨(some 56), (some (54, true)), .load (some 4) (.t 2)⟩,
  ⟨(some 57), (some (54, true)), .mv (.t 3)⟩,
  ⟨(some 58), (some (54, true)), .iaS 1 (.t 57) (.c (.int .i64 (0)))⟩,
  ⟨(some 59), (some (54, true)), .load none (.t 58)⟩,
  ⟨(some 60), (some (54, true)), .call (.c (.fn 20 [])) [(.t 55), (.t 56), (.c .nils), (.t 59)]⟩,
  ⟨(some 61), none, .pick (.t 54) (.t 60) (.c (.bool false))⟩,
  ⟨(some 62), none, .mv (.t 61)⟩,
  ⟨(some 63), (some (62, true)), .load (some 3) (.t 1)⟩,
  ⟨(some 64), (some (62, true)), .load (some 4) (.t 2)⟩,
  ⟨(some 65), (some (62, true)), .mv (.t 3)⟩,
  ⟨(some 66), (some (62, true)), .iaS 1 (.t 65) (.c (.int .i64 (0)))⟩,
  ⟨(some 67), (some (62, true)), .load none (.t 66)⟩,
  ⟨(some 68), (some (62, true)), .call (.c (.fn 18 [])) [(.t 63), (.t 64), (.c .nils), (.t 67)]⟩,
  ⟨(some 69), none, .pick (.t 62) (.t 68) (.c (.bool false))⟩,
  ⟨(some 70), none, .mv (.t 69)⟩,
  ⟨(some 71), (some (70, true)), .load (some 3) (.t 1)⟩,
  ⟨(some 72), (some (70, true)), .load (some 4) (.t 2)⟩,
  ⟨(some 73), (some (70, true)), .mv (.t 3)⟩,
  ⟨(some 74), (some (70, true)), .iaS 1 (.t 73) (.c (.int .i64 (0)))⟩,
  ⟨(some 75), (some (70, true)), .load none (.t 74)⟩,
  ⟨(some 76), (some (70, true)), .slc 8 (.t 75) none (some (.c (.int .i64 (3))))⟩,
  ⟨(some 77), (some (70, true)), .call (.c (.fn 18 [])) [(.t 71), (.t 72), (.c .nils), (.t 76)]⟩,
  ⟨(some 78), (some (70, true)), .un .not (.t 77)⟩,
  ⟨(some 79), none, .pick (.t 70) (.t 78) (.c (.bool false))⟩,
  ⟨(some 0), none, .mv (.t 79)⟩])
 .ret)))))⟩
theorem k15 : kFunc Try.prog Try.f15 = some F15 := by kernel_rfl

def F17 : RFunc := ⟨27, [.t 8, .t 9], (.seq (.reg false [] [
  ⟨(some 4), none, .box (.t 0)⟩,
  ⟨(some 5), none, .box (.t 1)⟩,
  ⟨(some 7), none, .box (.t 3)⟩,
  ⟨(some 8), none, .mv (.c .nils)⟩,
  ⟨(some 9), none, .mv (.c (.int .i64 (0)))⟩])
 (.seq (.reg false [] [
  ⟨(some 12), none, .load (some 3) (.t 4)⟩,
  ⟨(some 13), none, .load (some 4) (.t 5)⟩,
  ⟨(some 14), none, .mv (.t 2)⟩,
  ⟨(some 15), none, .build [.nils, .nils, .nils, (.int .i64 (0)), (.int .i64 (0)), (.int .u16 (0)), .nils, .nils, .nils] [(0, 3, (.t 12)), (3, 4, (.t 13)), (7, 1, (.t 14))]⟩,
  ⟨(some 16), none, .box (.t 15)⟩,
  ⟨(some 10), none, .mv (.t 16)⟩])
 (.seq (.seq (.reg false [] [
  ⟨(some 17), none, .mv (.t 10)⟩,
  ⟨(some 18), none, .load (some 8) (.t 7)⟩,
  ⟨(some 19), none, .call (.c (.fn 40 [])) [(.t 17), (.c .nils), (.t 18)]⟩,
  ⟨(some 11), none, .mv (.t 19)⟩])
 (.seq (.reg false [] [
  ⟨(some 20), none, .mv (.t 11)⟩,
  ⟨(some 21), none, .eq true .i (.t 20) (.c (.int .i64 (0)))⟩])
 (.cond (.t 21) (.seq (.reg false [] [
  ⟨(some 22), none, .mv (.t 11)⟩,
  ⟨(some 8), none, .mv (.c .nils)⟩,
  ⟨(some 9), none, .mv (.t 22)⟩])
 .ret)
 .skip)))
 (.seq (.reg false [] [
  ⟨(some 23), none, .mv (.t 10)⟩,
  ⟨(some 24), none, .nilck (.t 23)⟩,
  ⟨(some 25), none, .faddr 8 (.t 24)⟩,
  ⟨(some 26), none, .load none (.t 25)⟩,
  ⟨(some 8), none, .mv (.t 26)⟩,
  ⟨(some 9), none, .mv (.c (.int .i64 (0)))⟩])
 .ret))))⟩
theorem k17 : kFunc Try.prog Try.f17 = some F17 := by kernel_rfl

def F18 : RFunc := ⟨57, [.t 8], (.seq (.reg false [] [
  ⟨(some 4), none, .box (.t 0)⟩,
  ⟨(some 5), none, .box (.t 1)⟩,
  ⟨(some 8), none, .mv (.c (.bool false))⟩])
 (.seq (.seq (.reg false [] [
  ⟨(some 14), none, .load (some 3) (.t 4)⟩,
  ⟨(some 15), none, .load (some 4) (.t 5)⟩,
  ⟨(some 16), none, .mv (.t 2)⟩,
  ⟨(some 17), none, .mv (.t 3)⟩,
  ⟨(some 18), none, .call (.c (.fn 20 [])) [(.t 14), (.t 15), (.t 16), (.t 17)]⟩,
  ⟨(some 19), none, .un .not (.t 18)⟩])
 (.cond (.t 19) (.seq (.reg false [] [
  ⟨(some 8), none, .mv (.c (.bool false))⟩])
 .ret)
 .skip))
 (.seq (.reg false [] [
  ⟨(some 20), none, .mv (.t 3)⟩,
  ⟨(some 21), none, .mv (.t 3)⟩,
  ⟨(some 22), none, .len 1 (.t 21)⟩,
  ⟨(some 23), none, .bin .sub (.t 22) (.c (.int .i64 (1)))⟩,
  ⟨(some 24), none, .iaS 8 (.t 20) (.t 23)⟩,
  ⟨(some 25), none, .load (some 8) (.t 24)⟩,
  ⟨(some 9), none, .alloc [(.int .u16 (0)), (.int .u16 (0)), (.int .u16 (0)), (.int .u16 (0)), (.int .u16 (0)), (.int .u16 (0)), (.int .u16 (0)), (.int .u16 (0))]⟩,
  ⟨none, none, .store 8 (.t 9) (.t 25)⟩])
 (.seq (.seq (.reg false [] [
  ⟨(some 26), none, .mv (.t 3)⟩,
  ⟨(some 27), none, .len 1 (.t 26)⟩,
  ⟨(some 28), none, .bin .rem (.t 27) (.c (.int .i64 (2)))⟩,
  ⟨(some 29), none, .eq false .i (.t 28) (.c (.int .i64 (1)))⟩])
 (.cond (.t 29) (.seq (.reg false [] [
  ⟨(some 31), none, .load (some 4) (.t 5)⟩,
  ⟨(some 32), none, .mv (.t 2)⟩,
  ⟨(some 33), none, .load (some 8) (.t 9)⟩,
  ⟨(some 34), none, .call (.c (.fn 21 [])) [(.t 31), (.t 32), (.t 33)]⟩,
  ⟨(some 30), none, .mv (.t 34)⟩,
  ⟨(some 35), none, .ext (.t 30) 0⟩,
  ⟨(some 36), none, .ext (.t 30) 1⟩,
  ⟨(some 10), none, .mv (.t 35)⟩,
  ⟨(some 11), none, .mv (.t 36)⟩])
 (.seq (.reg false [] [
  ⟨(some 37), none, .mv (.t 11)⟩,
  ⟨(some 38), none, .eq false .i (.t 37) (.c (.int .i64 (0)))⟩,
  ⟨(some 39), none, .mv (.t 38)⟩,
  ⟨(some 40), (some (39, true)), .mv (.t 10)⟩,
  ⟨(some 41), (some (39, true)), .len 1 (.t 40)⟩,
  ⟨(some 42), (some (39, true)), .eq false .i (.t 41) (.c (.int .i64 (0)))⟩,
  ⟨(some 43), none, .pick (.t 39) (.t 42) (.c (.bool false))⟩,
  ⟨(some 8), none, .mv (.t 43)⟩])
 .ret))
 .skip))
 (.seq (.reg false [] [
  ⟨(some 45), none, .load (some 3) (.t 4)⟩,
  ⟨(some 46), none, .load (some 8) (.t 9)⟩,
  ⟨(some 47), none, .call (.c (.fn 22 [])) [(.t 45), (.t 46)]⟩,
  ⟨(some 44), none, .mv (.t 47)⟩,
  ⟨(some 48), none, .ext (.t 44) 0⟩,
  ⟨(some 49), none, .ext (.t 44) 1⟩,
  ⟨(some 12), none, .alloc [(.int .u16 (0)), (.int .u16 (0)), (.int .u16 (0)), (.int .u16 (0)), (.int .u16 (0)), (.int .u16 (0)), (.int .u16 (0)), (.int .u16 (0))]⟩,
  ⟨none, none, .store 8 (.t 12) (.t 48)⟩,
  ⟨(some 13), none, .mv (.t 49)⟩])
 (.seq (.reg false [] [
  ⟨(some 50), none, .mv (.t 13)⟩,
  ⟨(some 51), none, .eq true .i (.t 50) (.c (.int .i64 (0)))⟩,
  ⟨(some 52), none, .mv (.t 51)⟩,
  ⟨(some 53), (some (52, false)), .mv (.t 3)⟩,
  ⟨(some 54), (some (52, false)), .len 1 (.t 53)⟩,
  ⟨(some 55), (some (52, false)), .eq false .i (.t 54) (.c (.int .i64 (24)))⟩,
  ⟨(some 56), none, .pick (.t 52) (.c (.bool true)) (.t 55)⟩,
  ⟨(some 8), none, .mv (.t 56)⟩])
 .ret))))))⟩
theorem k18 : kFunc Try.prog Try.f18 = some F18 := by kernel_rfl

def F20 : RFunc := ⟨69, [.t 8], (.seq (.reg false [] [
  ⟨(some 4), none, .box (.t 0)⟩,
  ⟨(some 5), none, .box (.t 1)⟩,
  ⟨(some 8), none, .mv (.c (.bool false))⟩])
 (.seq (.seq (.reg false [] [
  ⟨(some 9), none, .mv (.c (.int .i64 (1)))⟩])
 (.block 0 (.loop (.seq (.seq (.reg false [] [
  ⟨(some 14), none, .mv (.t 9)⟩,
  ⟨(some 15), none, .mv (.t 3)⟩,
  ⟨(some 16), none, .len 1 (.t 15)⟩,
  ⟨(some 17), none, .bin .lss (.t 14) (.t 16)⟩])
 (.cond (.t 17) .skip
 (.exit 0)))
 (.seq (.block 1 (.seq (.seq (.reg false [] [
  ⟨(some 20), none, .mv (.t 9)⟩,
  ⟨(some 21), none, .bin .rem (.t 20) (.c (.int .i64 (2)))⟩,
  ⟨(some 22), none, .eq false .i (.t 21) (.c (.int .i64 (0)))⟩])
 (.cond (.t 22) (.seq (.seq (.reg true [0, 0, 0, 4, 14, 30, 63, 127, 255, 255, 0, 1535, 4095] [
  ⟨(some 24), none, .load (some 3) (.t 4)⟩,
  ⟨(some 25), none, .mv (.t 3)⟩,
  ⟨(some 26), none, .mv (.t 9)⟩,
  ⟨(some 27), none, .bin .sub (.t 26) (.c (.int .i64 (1)))⟩,
  ⟨(some 28), none, .iaS 8 (.t 25) (.t 27)⟩,
  ⟨(some 29), none, .load (some 8) (.t 28)⟩,
  ⟨(some 30), none, .call (.c (.fn 22 [])) [(.t 24), (.t 29)]⟩,
  ⟨(some 23), none, .mv (.t 30)⟩,
  ⟨(some 31), none, .ext (.t 23) 0⟩,
  ⟨(some 32), none, .ext (.t 23) 1⟩,
  ⟨(some 10), none, .alloc [(.int .u16 (0)), (.int .u16 (0)), (.int .u16 (0)), (.int .u16 (0)), (.int .u16 (0)), (.int .u16 (0)), (.int .u16 (0)), (.int .u16 (0))]⟩,
  ⟨none, none, .store 8 (.t 10) (.t 31)⟩,
  ⟨(some 11), none, .mv (.t 32)⟩])
 (.seq (.reg true [0, 1, 3, 7, 7, 7, 55, 119, 255, 511] [
  ⟨(some 33), none, .mv (.t 11)⟩,
  ⟨(some 34), none, .eq true .i (.t 33) (.c (.int .i64 (0)))⟩,
  ⟨(some 35), none, .mv (.t 34)⟩,
  ⟨(some 36), (some (35, false)), .load (some 8) (.t 10)⟩,
  ⟨(some 37), (some (35, false)), .mv (.t 3)⟩,
  ⟨(some 38), (some (35, false)), .mv (.t 9)⟩,
  ⟨(some 39), (some (35, false)), .iaS 8 (.t 37) (.t 38)⟩,
  ⟨(some 40), (some (35, false)), .load (some 8) (.t 39)⟩,
  ⟨(some 41), (some (35, false)), .eq true (.g 8) (.t 36) (.t 40)⟩,
  ⟨(some 42), none, .pick (.t 35) (.c (.bool true)) (.t 41)⟩])
 (.cond (.t 42) (.seq (.reg false [] [
  ⟨(some 8), none, .mv (.c (.bool false))⟩])
 .ret)
 .skip)))
 (.exit 1))
 .skip))
 (.seq (.reg true [0, 0, 0, 0, 8, 28, 60, 127, 255, 511, 511, 1023, 4095] [
  ⟨(some 44), none, .load (some 4) (.t 5)⟩,
  ⟨(some 45), none, .mv (.t 2)⟩,
  ⟨(some 46), none, .mv (.t 3)⟩,
  ⟨(some 47), none, .mv (.t 9)⟩,
  ⟨(some 48), none, .bin .sub (.t 47) (.c (.int .i64 (1)))⟩,
  ⟨(some 49), none, .iaS 8 (.t 46) (.t 48)⟩,
  ⟨(some 50), none, .load (some 8) (.t 49)⟩,
  ⟨(some 51), none, .call (.c (.fn 21 [])) [(.t 44), (.t 45), (.t 50)]⟩,
  ⟨(some 43), none, .mv (.t 51)⟩,
  ⟨(some 52), none, .ext (.t 43) 0⟩,
  ⟨(some 53), none, .ext (.t 43) 1⟩,
  ⟨(some 12), none, .mv (.t 52)⟩,
  ⟨(some 13), none, .mv (.t 53)⟩])
 (.seq (.reg false [] [
  ⟨(some 54), none, .mv (.t 12)⟩,
  ⟨(some 55), none, .mv (.t 3)⟩,
  ⟨(some 56), none, .mv (.t 9)⟩,
  ⟨(some 57), none, .iaS 8 (.t 55) (.t 56)⟩,
  ⟨(some 58), none, .load (some 8) (.t 57)⟩,
  ⟨(some 59), none, .call (.c (.fn 42 [])) [(.t 54), (.t 58)]⟩,
  ⟨(some 60), none, .un .not (.t 59)⟩])
 (.cond (.t 60) (.seq (.reg false [] [
  ⟨(some 8), none, .mv (.c (.bool false))⟩])
 .ret)
 .skip)))))
 (.reg false [] [
  ⟨(some 18), none, .mv (.t 9)⟩,
  ⟨(some 19), none, .bin .add (.t 18) (.c (.int .i64 (1)))⟩,
  ⟨(some 9), none, .mv (.t 19)⟩]))))))
 (.seq (.reg false [] [
  ⟨(some 61), none, .mv (.t 3)⟩,
  ⟨(some 62), none, .len 1 (.t 61)⟩,
  ⟨(some 63), none, .bin .gtr (.t 62) (.c (.int .i64 (0)))⟩,
  ⟨(some 64), none, .mv (.t 63)⟩,
  ⟨(some 65), (some (64, true)), .mv (.t 3)⟩,
  ⟨(some 66), (some (64, true)), .len 1 (.t 65)⟩,
  ⟨(some 67), (some (64, true)), .bin .leq (.t 66) (.c (.int .i64 (24)))⟩,
  ⟨(some 68), none, .pick (.t 64) (.t 67) (.c (.bool false))⟩,
  ⟨(some 8), none, .mv (.t 68)⟩])
 .ret)))⟩
theorem k20 : kFunc Try.prog Try.f20 = some F20 := by kernel_rfl

def F21 : RFunc := ⟨14, [.t 6, .t 7], (.seq (.reg false [] [
  ⟨(some 3), none, .box (.t 0)⟩,
  ⟨(some 5), none, .box (.t 2)⟩,
  ⟨(some 6), none, .mv (.c .nils)⟩,
  ⟨(some 7), none, .mv (.c (.int .i64 (0)))⟩])
 (.seq (.reg false [] [
  ⟨(some 8), none, .load (some 4) (.t 3)⟩,
  ⟨(some 9), none, .mv (.t 1)⟩,
  ⟨(some 10), none, .load (some 8) (.t 5)⟩,
  ⟨(some 11), none, .call (.c (.fn 43 [])) [(.t 8), (.t 9), (.t 10)]⟩,
  ⟨(some 12), none, .ext (.t 11) 0⟩,
  ⟨(some 13), none, .ext (.t 11) 1⟩,
  ⟨(some 6), none, .mv (.t 12)⟩,
  ⟨(some 7), none, .mv (.t 13)⟩])
 .ret))⟩
theorem k21 : kFunc Try.prog Try.f21 = some F21 := by kernel_rfl

def F22 : RFunc := ⟨26, [.cell 4 (some 8), .t 5], (.seq (.reg false [] [
  ⟨(some 2), none, .box (.t 0)⟩,
  ⟨(some 3), none, .box (.t 1)⟩,
  ⟨(some 4), none, .alloc [(.int .u16 (0)), (.int .u16 (0)), (.int .u16 (0)), (.int .u16 (0)), (.int .u16 (0)), (.int .u16 (0)), (.int .u16 (0)), (.int .u16 (0))]⟩,
  ⟨(some 5), none, .mv (.c (.int .i64 (0)))⟩])
 (.seq (.reg false [] [
  ⟨(some 9), none, .load (some 8) (.t 3)⟩,
  ⟨(some 10), none, .call (.c (.fn 44 [])) [(.t 9)]⟩,
  ⟨(some 6), none, .alloc [(.int .u16 (0)), (.int .u16 (0))]⟩,
  ⟨none, none, .store 2 (.t 6) (.t 10)⟩])
 (.seq (.seq (.reg false [] [
  ⟨(some 12), none, .load (some 3) (.t 2)⟩,
  ⟨(some 13), none, .load (some 2) (.t 6)⟩,
  ⟨(some 14), none, .call (.c (.fn 45 [])) [(.t 12), (.t 13)]⟩,
  ⟨(some 11), none, .mv (.t 14)⟩,
  ⟨(some 15), none, .ext (.t 11) 0⟩,
  ⟨(some 16), none, .ext (.t 11) 1⟩,
  ⟨(some 7), none, .alloc [(.int .u16 (0)), (.int .u16 (0))]⟩,
  ⟨none, none, .store 2 (.t 7) (.t 15)⟩,
  ⟨(some 8), none, .mv (.t 16)⟩])
 (.seq (.reg false [] [
  ⟨(some 17), none, .mv (.t 8)⟩])
 (.cond (.t 17) (.seq (.reg false [] [
  ⟨(some 18), none, .load (some 8) (.t 3)⟩,
  ⟨(some 19), none, .load (some 2) (.t 7)⟩,
  ⟨(some 20), none, .call (.c (.fn 46 [])) [(.t 18), (.t 19)]⟩,
  ⟨none, none, .store 8 (.t 4) (.t 20)⟩,
  ⟨(some 5), none, .mv (.c (.int .i64 (0)))⟩])
 .ret)
 .skip)))
 (.seq (.seq (.reg false [] [
  ⟨(some 21), none, .load (some 3) (.t 2)⟩,
  ⟨(some 22), none, .load (some 2) (.t 6)⟩,
  ⟨(some 23), none, .call (.c (.fn 47 [])) [(.t 21), (.t 22)]⟩])
 (.cond (.t 23) (.seq (.reg false [] [
  ⟨(some 24), none, .load (some 8) (.t 3)⟩,
  ⟨none, none, .store 8 (.t 4) (.t 24)⟩,
  ⟨(some 5), none, .mv (.c (.int .i64 (1)))⟩])
 .ret)
 .skip))
 (.seq (.reg false [] [
  ⟨(some 25), none, .load (some 8) (.t 3)⟩,
  ⟨none, none, .store 8 (.t 4) (.t 25)⟩,
  ⟨(some 5), none, .mv (.c (.int .i64 (2)))⟩])
 .ret)))))⟩
theorem k22 : kFunc Try.prog Try.f22 = some F22 := by kernel_rfl

def F31 : RFunc := ⟨19, [.t 2], (.seq (.reg false [] [
  ⟨(some 1), none, .box (.t 0)⟩,
  ⟨(some 2), none, .mv (.c (.int .i64 (0)))⟩])
 (.seq (.reg false [] [
  ⟨(some 3), none, .mv (.c (.int .i64 (1)))⟩])
 (.seq (.seq (.reg false [] [
  ⟨(some 6), none, .faddr 3 (.t 1)⟩,
  ⟨(some 7), none, .load none (.t 6)⟩,
  ⟨(some 8), none, .len 1 (.t 7)⟩,
  ⟨(some 9), none, .mv (.c (.int .i64 (0)))⟩])
 (.block 0 (.loop (.seq (.reg false [] [
  ⟨(some 10), none, .bin .lss (.t 9) (.t 8)⟩])
 (.seq (.cond (.t 10) .skip
 (.exit 0))
 (.seq (.block 1 (.seq (.reg false [] [
  ⟨(some 11), none, .iaS 4 (.t 7) (.t 9)⟩,
  ⟨(some 12), none, .load (some 4) (.t 11)⟩,
  ⟨(some 5), none, .alloc [(.int .i64 (0)), (.int .i64 (0)), (.int .u16 (0)), .nils]⟩,
  ⟨none, none, .store 4 (.t 5) (.t 12)⟩])
 (.reg false [] [
  ⟨(some 13), none, .mv (.t 3)⟩,
  ⟨(some 14), none, .load (some 4) (.t 5)⟩,
  ⟨(some 15), none, .call (.c (.fn 31 [])) [(.t 14)]⟩,
  ⟨(some 16), none, .bin .add (.t 13) (.t 15)⟩,
  ⟨(some 3), none, .mv (.t 16)⟩])))
 (.reg false [] [
  ⟨(some 17), none, .bin .add (.t 9) (.c (.int .i64 (1)))⟩,
  ⟨(some 9), none, .mv (.t 17)⟩])))))))
 (.seq (.reg false [] [
  ⟨(some 18), none, .mv (.t 3)⟩,
  ⟨(some 2), none, .mv (.t 18)⟩])
 .ret))))⟩
theorem k31 : kFunc Try.prog Try.f31 = some F31 := by kernel_rfl

def F32 : RFunc := ⟨20, [.t 2], (.seq (.reg false [] [
  ⟨(some 1), none, .box (.t 0)⟩,
  ⟨(some 2), none, .mv (.c (.int .i64 (0)))⟩])
 (.seq (.reg false [] [
  ⟨(some 3), none, .mv (.c (.int .i64 (0)))⟩])
 (.seq (.seq (.reg false [] [
  ⟨(some 6), none, .faddr 3 (.t 1)⟩,
  ⟨(some 7), none, .load none (.t 6)⟩,
  ⟨(some 8), none, .len 1 (.t 7)⟩,
  ⟨(some 9), none, .mv (.c (.int .i64 (0)))⟩])
 (.block 0 (.loop (.seq (.reg false [] [
  ⟨(some 10), none, .bin .lss (.t 9) (.t 8)⟩])
 (.seq (.cond (.t 10) .skip
 (.exit 0))
 (.seq (.block 1 (.seq (.reg false [] [
  ⟨(some 11), none, .iaS 4 (.t 7) (.t 9)⟩,
  ⟨(some 12), none, .load (some 4) (.t 11)⟩,
  ⟨(some 5), none, .alloc [(.int .i64 (0)), (.int .i64 (0)), (.int .u16 (0)), .nils]⟩,
  ⟨none, none, .store 4 (.t 5) (.t 12)⟩])
 (.reg false [] [
  ⟨(some 13), none, .mv (.t 3)⟩,
  ⟨(some 14), none, .load (some 4) (.t 5)⟩,
  ⟨(some 15), none, .call (.c (.fn 32 [])) [(.t 14)]⟩,
  ⟨(some 16), none, .mm true (.t 13) (.t 15)⟩,
  ⟨(some 3), none, .mv (.t 16)⟩])))
 (.reg false [] [
  ⟨(some 17), none, .bin .add (.t 9) (.c (.int .i64 (1)))⟩,
  ⟨(some 9), none, .mv (.t 17)⟩])))))))
 (.seq (.reg false [] [
  ⟨(some 18), none, .mv (.t 3)⟩,
  ⟨(some 19), none, .bin .add (.t 18) (.c (.int .i64 (1)))⟩,
  ⟨(some 2), none, .mv (.t 19)⟩])
 .ret))))⟩
theorem k32 : kFunc Try.prog Try.f32 = some F32 := by kernel_rfl

def F40 : RFunc := ⟨81, [.t 6], (.seq (.reg false [] [
  ⟨(some 5), none, .box (.t 2)⟩,
  ⟨(some 6), none, .mv (.c (.int .i64 (0)))⟩])
 (.seq (.reg true [0, 1, 0, 4, 15, 31] [
  ⟨(some 13), none, .mv (.t 1)⟩,
  ⟨(some 14), none, .call (.c (.fn 59 [])) [(.t 13)]⟩,
  ⟨(some 15), none, .load (some 8) (.t 5)⟩,
  ⟨(some 16), none, .bslice 8 1 [(.int .u16 (0)), (.int .u16 (0)), (.int .u16 (0)), (.int .u16 (0)), (.int .u16 (0)), (.int .u16 (0)), (.int .u16 (0)), (.int .u16 (0))] [(0, (.t 15))]⟩,
  ⟨(some 17), none, .app 8 16 (.t 14) (.t 16)⟩,
  ⟨(some 1), none, .mv (.t 17)⟩])
 (.seq (.reg true [0, 1, 3, 7, 0, 16, 48, 112, 0, 511, 1023, 2047, 2047, 4095, 16383] [
  ⟨(some 19), none, .mv (.t 0)⟩,
  ⟨(some 20), none, .nilck (.t 19)⟩,
  ⟨(some 21), none, .faddr 3 (.t 20)⟩,
  ⟨(some 22), none, .load (some 4) (.t 21)⟩,
  ⟨(some 23), none, .mv (.t 0)⟩,
  ⟨(some 24), none, .nilck (.t 23)⟩,
  ⟨(some 25), none, .faddr 7 (.t 24)⟩,
  ⟨(some 26), none, .load none (.t 25)⟩,
  ⟨(some 27), none, .load (some 8) (.t 5)⟩,
  ⟨(some 28), none, .call (.c (.fn 21 [])) [(.t 22), (.t 26), (.t 27)]⟩,
  ⟨(some 18), none, .mv (.t 28)⟩,
  ⟨(some 29), none, .ext (.t 18) 0⟩,
  ⟨(some 30), none, .ext (.t 18) 1⟩,
  ⟨(some 7), none, .mv (.t 29)⟩,
  ⟨(some 8), none, .mv (.t 30)⟩])
 (.seq (.seq (.reg false [] [
  ⟨(some 31), none, .mv (.t 8)⟩,
  ⟨(some 32), none, .eq true .i (.t 31) (.c (.int .i64 (0)))⟩])
 (.cond (.t 32) (.seq (.reg false [] [
  ⟨(some 33), none, .mv (.t 8)⟩,
  ⟨(some 6), none, .mv (.t 33)⟩])
 .ret)
 .skip))
 (.seq (.seq (.reg false [] [
  ⟨(some 34), none, .mv (.t 7)⟩,
  ⟨(some 35), none, .len 1 (.t 34)⟩,
  ⟨(some 36), none, .eq false .i (.t 35) (.c (.int .i64 (0)))⟩])
 (.cond (.t 36) (.seq (.reg false [] [
  ⟨(some 37), none, .mv (.t 0)⟩,
  ⟨(some 38), none, .mv (.t 1)⟩,
  ⟨(some 39), none, .call (.c (.fn 60 [])) [(.t 37), (.t 38)]⟩,
  ⟨(some 6), none, .mv (.t 39)⟩])
 .ret)
 .skip))
 (.seq (.seq (.reg false [] [
  ⟨(some 40), none, .mv (.t 7)⟩,
  ⟨(some 41), none, .len 1 (.t 40)⟩,
  ⟨(some 42), none, .mv (.c (.int .i64 (0)))⟩])
 (.block 0 (.loop (.seq (.reg false [] [
  ⟨(some 43), none, .bin .lss (.t 42) (.t 41)⟩])
 (.seq (.cond (.t 43) .skip
 (.exit 0))
 (.seq (.block 1 (.seq (.reg false [] [
  ⟨(some 44), none, .iaS 8 (.t 40) (.t 42)⟩,
  ⟨(some 45), none, .load (some 8) (.t 44)⟩,
  ⟨(some 10), none, .alloc [(.int .u16 (0)), (.int .u16 (0)), (.int .u16 (0)), (.int .u16 (0)), (.int .u16 (0)), (.int .u16 (0)), (.int .u16 (0)), (.int .u16 (0))]⟩,
  ⟨none, none, .store 8 (.t 10) (.t 45)⟩])
 (.seq (.reg true [0, 1, 3, 7, 0, 31, 63, 127, 127, 0, 767, 2047] [
  ⟨(some 47), none, .mv (.t 0)⟩,
  ⟨(some 48), none, .nilck (.t 47)⟩,
  ⟨(some 49), none, .faddr 0 (.t 48)⟩,
  ⟨(some 50), none, .load (some 3) (.t 49)⟩,
  ⟨(some 51), none, .load (some 8) (.t 10)⟩,
  ⟨(some 52), none, .call (.c (.fn 22 [])) [(.t 50), (.t 51)]⟩,
  ⟨(some 46), none, .mv (.t 52)⟩,
  ⟨(some 53), none, .ext (.t 46) 0⟩,
  ⟨(some 54), none, .ext (.t 46) 1⟩,
  ⟨(some 11), none, .alloc [(.int .u16 (0)), (.int .u16 (0)), (.int .u16 (0)), (.int .u16 (0)), (.int .u16 (0)), (.int .u16 (0)), (.int .u16 (0)), (.int .u16 (0))]⟩,
  ⟨none, none, .store 8 (.t 11) (.t 53)⟩,
  ⟨(some 12), none, .mv (.t 54)⟩])
 (.seq (.seq (.reg false [] [
  ⟨(some 55), none, .mv (.t 12)⟩,
  ⟨(some 56), none, .eq false .i (.t 55) (.c (.int .i64 (0)))⟩,
  ⟨(some 57), none, .mv (.t 56)⟩,
  ⟨(some 58), (some (57, true)), .mv (.t 1)⟩,
  ⟨(some 59), (some (57, true)), .len 1 (.t 58)⟩,
  ⟨(some 60), (some (57, true)), .bin .lss (.t 59) (.c (.int .i64 (23)))⟩,
  ⟨(some 61), none, .pick (.t 57) (.t 60) (.c (.bool false))⟩])
 (.cond (.t 61) (.reg true [0, 0, 2, 0, 8, 30, 0, 127, 255] [
  ⟨(some 62), none, .mv (.t 0)⟩,
  ⟨(some 63), none, .mv (.t 1)⟩,
  ⟨(some 64), none, .call (.c (.fn 59 [])) [(.t 63)]⟩,
  ⟨(some 65), none, .load (some 8) (.t 10)⟩,
  ⟨(some 66), none, .bslice 8 1 [(.int .u16 (0)), (.int .u16 (0)), (.int .u16 (0)), (.int .u16 (0)), (.int .u16 (0)), (.int .u16 (0)), (.int .u16 (0)), (.int .u16 (0))] [(0, (.t 65))]⟩,
  ⟨(some 67), none, .app 8 16 (.t 64) (.t 66)⟩,
  ⟨(some 68), none, .load (some 8) (.t 11)⟩,
  ⟨(some 69), none, .call (.c (.fn 40 [])) [(.t 62), (.t 67), (.t 68)]⟩,
  ⟨(some 8), none, .mv (.t 69)⟩])
 (.reg true [0, 0, 2, 0, 8, 30, 63, 127] [
  ⟨(some 70), none, .mv (.t 0)⟩,
  ⟨(some 71), none, .mv (.t 1)⟩,
  ⟨(some 72), none, .call (.c (.fn 59 [])) [(.t 71)]⟩,
  ⟨(some 73), none, .load (some 8) (.t 10)⟩,
  ⟨(some 74), none, .bslice 8 1 [(.int .u16 (0)), (.int .u16 (0)), (.int .u16 (0)), (.int .u16 (0)), (.int .u16 (0)), (.int .u16 (0)), (.int .u16 (0)), (.int .u16 (0))] [(0, (.t 73))]⟩,
  ⟨(some 75), none, .app 8 16 (.t 72) (.t 74)⟩,
  ⟨(some 76), none, .call (.c (.fn 60 [])) [(.t 70), (.t 75)]⟩,
  ⟨(some 8), none, .mv (.t 76)⟩])))
 (.seq (.reg false [] [
  ⟨(some 77), none, .mv (.t 8)⟩,
  ⟨(some 78), none, .eq true .i (.t 77) (.c (.int .i64 (0)))⟩])
 (.cond (.t 78) (.seq (.reg false [] [
  ⟨(some 79), none, .mv (.t 8)⟩,
  ⟨(some 6), none, .mv (.t 79)⟩])
 .ret)
 .skip))))))
 (.reg false [] [
  ⟨(some 80), none, .bin .add (.t 42) (.c (.int .i64 (1)))⟩,
  ⟨(some 42), none, .mv (.t 80)⟩])))))))
 (.seq (.reg false [] [
  ⟨(some 6), none, .mv (.c (.int .i64 (0)))⟩])
 .ret)))))))⟩
theorem k40 : kFunc Try.prog Try.f40 = some F40 := by kernel_rfl

def F42 : RFunc := ⟨9, [.t 4], (.seq (.reg false [] [
  ⟨(some 3), none, .box (.t 1)⟩,
  ⟨(some 4), none, .mv (.c (.bool false))⟩])
 (.seq (.reg false [] [
  ⟨(some 5), none, .mv (.t 0)⟩,
  ⟨(some 6), none, .load (some 8) (.t 3)⟩,
  ⟨(some 7), none, .call (.c (.fn 61 [])) [(.t 5), (.t 6)]⟩,
  ⟨(some 8), none, .bin .geq (.t 7) (.c (.int .i64 (0)))⟩,
  ⟨(some 4), none, .mv (.t 8)⟩])
 .ret))⟩
theorem k42 : kFunc Try.prog Try.f42 = some F42 := by kernel_rfl

def G43 : GFunc := ⟨18, [.cell 6 none, .cell 7 none], (.seq (.reg false [] [
  ⟨(some 3), none, .box (.t 0)⟩,
  ⟨(some 5), none, .box (.t 2)⟩,
  ⟨(some 6), none, .alloc [.nils]⟩,
  ⟨(some 7), none, .alloc [(.int .i64 (0))]⟩])
 (.seq (.seq (.reg true [0, 0, 3, 7, 15] [
  ⟨(some 8), none, .mkslice 1 2 [(.int .u16 (0))] (.c (.int .i64 (4))) (.c (.int .i64 (4)))⟩,
  ⟨(some 9), none, .load (some 4) (.t 3)⟩,
  ⟨(some 10), none, .build [.nils, (.int .i64 (0)), (.int .i64 (0)), (.int .u16 (0)), .nils, .nils] [(0, 1, (.t 8)), (1, 4, (.t 9))]⟩,
  ⟨(some 11), none, .call (.c (.fn 62 [])) [(.t 10)]⟩,
  ⟨(some 12), none, .eq true .i (.t 11) (.c (.int .i64 (0)))⟩])
 (.cond (.t 12) (.seq (.reg false [] [
  ⟨none, none, .store 1 (.t 6) (.c .nils)⟩,
  ⟨none, none, .store 1 (.t 7) (.c (.int .i64 (11)))⟩])
 .ret)
 .skip))
 .skip)), 13, 63, [(.t 6), (.t 7)], (.seq (.reg false [] [
  ⟨(some 14), none, .load (some 4) (.t 3)⟩,
  ⟨(some 15), none, .mv (.t 1)⟩,
  ⟨(some 16), none, .load (some 8) (.t 5)⟩,
  ⟨(some 17), none, .call (.c (.fn 64 [])) [(.t 14), (.t 15), (.t 16)]⟩,
  ⟨none, none, .store 1 (.t 6) (.t 17)⟩,
  ⟨none, none, .store 1 (.t 7) (.c (.int .i64 (0)))⟩])
 .ret)⟩
theorem k43 : gFunc Try.prog Try.f43 = some G43 := by kernel_rfl

def H63 : HFunc := ⟨16, 5, 2, (.seq (.reg false [] [
  ⟨(some 6), none, .mv (.t 2)⟩,
  ⟨(some 7), none, .isnil 4 true (.t 6)⟩])
 (.cond (.t 7) (.seq (.seq (.reg false [] [
  ⟨(some 9), none, .mv (.t 2)⟩,
  ⟨(some 10), none, .tassert 126 (.agg []) true (.t 9)⟩,
  ⟨(some 8), none, .mv (.t 10)⟩,
  ⟨(some 11), none, .ext (.t 8) 0⟩,
  ⟨(some 12), none, .ext (.t 8) 1⟩,
  ⟨(some 3), none, .alloc []⟩,
  ⟨none, none, .store 0 (.t 3) (.t 11)⟩,
  ⟨(some 4), none, .mv (.t 12)⟩])
 (.seq (.reg false [] [
  ⟨(some 13), none, .mv (.t 4)⟩,
  ⟨(some 14), none, .un .not (.t 13)⟩])
 (.cond (.t 14) (.reg false [] [
  ⟨(some 15), none, .mv (.t 2)⟩,
  ⟨none, none, .panic (.t 15)⟩])
 .skip)))
 (.reg false [] [
  ⟨none, none, .store 1 (.t 0) (.c .nils)⟩,
  ⟨none, none, .store 1 (.t 1) (.c (.int .i64 (24)))⟩]))
 .skip))⟩
theorem k63 : hFunc Try.prog Try.f63 = some H63 := by kernel_rfl

def F44 : RFunc := ⟨8, [.cell 2 (some 2)], (.seq (.reg false [] [
  ⟨(some 1), none, .box (.t 0)⟩,
  ⟨(some 2), none, .alloc [(.int .u16 (0)), (.int .u16 (0))]⟩])
 (.seq (.reg false [] [
  ⟨(some 3), none, .iaA 8 1 (.t 1) (.c (.int .i64 (0)))⟩,
  ⟨(some 4), none, .load none (.t 3)⟩,
  ⟨(some 5), none, .iaA 8 1 (.t 1) (.c (.int .i64 (1)))⟩,
  ⟨(some 6), none, .load none (.t 5)⟩,
  ⟨(some 7), none, .build [(.int .u16 (0)), (.int .u16 (0))] [(0, 1, (.t 4)), (1, 1, (.t 6))]⟩,
  ⟨none, none, .store 2 (.t 2) (.t 7)⟩])
 .ret))⟩
theorem k44 : kFunc Try.prog Try.f44 = some F44 := by kernel_rfl

def F45 : RFunc := ⟨30, [.cell 4 (some 2), .t 5], (.seq (.reg false [] [
  ⟨(some 2), none, .box (.t 0)⟩,
  ⟨(some 3), none, .box (.t 1)⟩,
  ⟨(some 4), none, .alloc [(.int .u16 (0)), (.int .u16 (0))]⟩,
  ⟨(some 5), none, .mv (.c (.bool false))⟩])
 (.seq (.seq (.reg false [] [
  ⟨(some 8), none, .faddr 1 (.t 2)⟩,
  ⟨(some 9), none, .load none (.t 8)⟩,
  ⟨(some 10), none, .len 1 (.t 9)⟩,
  ⟨(some 11), none, .mv (.c (.int .i64 (0)))⟩])
 (.block 0 (.loop (.seq (.reg false [] [
  ⟨(some 12), none, .bin .lss (.t 11) (.t 10)⟩])
 (.seq (.cond (.t 12) .skip
 (.exit 0))
 (.seq (.block 1 (.seq (.reg false [] [
  ⟨(some 13), none, .iaS 4 (.t 9) (.t 11)⟩,
  ⟨(some 14), none, .load (some 4) (.t 13)⟩,
  ⟨(some 7), none, .alloc [(.int .u16 (0)), (.int .u16 (0)), (.int .u16 (0)), (.int .u16 (0))]⟩,
  ⟨none, none, .store 4 (.t 7) (.t 14)⟩])
 (.seq (.reg false [] [
  ⟨(some 15), none, .load (some 2) (.t 3)⟩])
 (.block 2 (.seq (.reg false [] [
  ⟨(some 17), none, .iaA 2 2 (.t 7) (.c (.int .i64 (0)))⟩,
  ⟨(some 18), none, .load (some 2) (.t 17)⟩,
  ⟨(some 19), none, .eq false (.g 2) (.t 15) (.t 18)⟩,
  ⟨(some 16), none, .mv (.t 19)⟩])
 (.cond (.t 16) (.seq (.reg false [] [
  ⟨(some 20), none, .iaA 2 2 (.t 7) (.c (.int .i64 (1)))⟩,
  ⟨(some 21), none, .load (some 2) (.t 20)⟩,
  ⟨none, none, .store 2 (.t 4) (.t 21)⟩,
  ⟨(some 5), none, .mv (.c (.bool true))⟩])
 .ret)
 (.seq (.reg false [] [
  ⟨(some 23), none, .iaA 2 2 (.t 7) (.c (.int .i64 (1)))⟩,
  ⟨(some 24), none, .load (some 2) (.t 23)⟩,
  ⟨(some 25), none, .eq false (.g 2) (.t 15) (.t 24)⟩,
  ⟨(some 22), none, .mv (.t 25)⟩])
 (.cond (.t 22) (.seq (.reg false [] [
  ⟨(some 26), none, .iaA 2 2 (.t 7) (.c (.int .i64 (0)))⟩,
  ⟨(some 27), none, .load (some 2) (.t 26)⟩,
  ⟨none, none, .store 2 (.t 4) (.t 27)⟩,
  ⟨(some 5), none, .mv (.c (.bool true))⟩])
 .ret)
 .skip))))))))
 (.reg false [] [
  ⟨(some 28), none, .bin .add (.t 11) (.c (.int .i64 (1)))⟩,
  ⟨(some 11), none, .mv (.t 28)⟩])))))))
 (.seq (.reg false [] [
  ⟨(some 29), none, .build [(.int .u16 (0)), (.int .u16 (0))] []⟩,
  ⟨none, none, .store 2 (.t 4) (.t 29)⟩,
  ⟨(some 5), none, .mv (.c (.bool false))⟩])
 .ret)))⟩
theorem k45 : kFunc Try.prog Try.f45 = some F45 := by kernel_rfl

def F46 : RFunc := ⟨12, [.cell 4 (some 8)], (.seq (.reg false [] [
  ⟨(some 2), none, .box (.t 0)⟩,
  ⟨(some 3), none, .box (.t 1)⟩,
  ⟨(some 4), none, .alloc [(.int .u16 (0)), (.int .u16 (0)), (.int .u16 (0)), (.int .u16 (0)), (.int .u16 (0)), (.int .u16 (0)), (.int .u16 (0)), (.int .u16 (0))]⟩])
 (.seq (.reg true [0, 1, 0, 4, 3, 19, 63, 127] [
  ⟨(some 5), none, .faddr 0 (.t 3)⟩,
  ⟨(some 6), none, .load none (.t 5)⟩,
  ⟨(some 7), none, .faddr 1 (.t 3)⟩,
  ⟨(some 8), none, .load none (.t 7)⟩,
  ⟨(some 9), none, .iaA 8 1 (.t 2) (.c (.int .i64 (0)))⟩,
  ⟨none, none, .store 1 (.t 9) (.t 6)⟩,
  ⟨(some 10), none, .iaA 8 1 (.t 2) (.c (.int .i64 (1)))⟩,
  ⟨none, none, .store 1 (.t 10) (.t 8)⟩])
 (.seq (.reg false [] [
  ⟨(some 11), none, .load (some 8) (.t 2)⟩,
  ⟨none, none, .store 8 (.t 4) (.t 11)⟩])
 .ret)))⟩
theorem k46 : kFunc Try.prog Try.f46 = some F46 := by kernel_rfl

def F47 : RFunc := ⟨9, [.t 4], (.seq (.reg false [] [
  ⟨(some 2), none, .box (.t 0)⟩,
  ⟨(some 3), none, .box (.t 1)⟩,
  ⟨(some 4), none, .mv (.c (.bool false))⟩])
 (.seq (.reg false [] [
  ⟨(some 5), none, .faddr 2 (.t 2)⟩,
  ⟨(some 6), none, .load none (.t 5)⟩,
  ⟨(some 7), none, .load (some 2) (.t 3)⟩,
  ⟨(some 8), none, .call (.c (.fn 65 [])) [(.t 6), (.t 7)]⟩,
  ⟨(some 4), none, .mv (.t 8)⟩])
 .ret))⟩
theorem k47 : kFunc Try.prog Try.f47 = some F47 := by kernel_rfl

def F59 : RFunc := ⟨8, [.t 2], (.seq (.reg false [] [
  ⟨(some 2), none, .mv (.c .nils)⟩])
 (.seq (.seq (.reg false [] [
  ⟨(some 3), none, .mv (.t 0)⟩,
  ⟨(some 4), none, .isnil 1 false (.t 3)⟩])
 (.cond (.t 4) (.seq (.reg false [] [
  ⟨(some 2), none, .mv (.c .nils)⟩])
 .ret)
 .skip))
 (.seq (.reg false [] [
  ⟨(some 5), none, .bslice 8 0 [(.int .u16 (0)), (.int .u16 (0)), (.int .u16 (0)), (.int .u16 (0)), (.int .u16 (0)), (.int .u16 (0)), (.int .u16 (0)), (.int .u16 (0))] []⟩,
  ⟨(some 6), none, .mv (.t 0)⟩,
  ⟨(some 7), none, .app 8 16 (.t 5) (.t 6)⟩,
  ⟨(some 2), none, .mv (.t 7)⟩])
 .ret)))⟩
theorem k59 : kFunc Try.prog Try.f59 = some F59 := by kernel_rfl

def F60 : RFunc := ⟨21, [.t 4], (.seq (.reg false [] [
  ⟨(some 4), none, .mv (.c (.int .i64 (0)))⟩])
 (.seq (.seq (.reg false [] [
  ⟨(some 5), none, .mv (.t 0)⟩,
  ⟨(some 6), none, .nilck (.t 5)⟩,
  ⟨(some 7), none, .faddr 8 (.t 6)⟩,
  ⟨(some 8), none, .load none (.t 7)⟩,
  ⟨(some 9), none, .len 1 (.t 8)⟩,
  ⟨(some 10), none, .eq false .i (.t 9) (.c (.int .i64 (200)))⟩])
 (.cond (.t 10) (.seq (.reg false [] [
  ⟨(some 4), none, .mv (.c (.int .i64 (24)))⟩])
 .ret)
 .skip))
 (.seq (.reg false [] [
  ⟨(some 11), none, .mv (.t 0)⟩,
  ⟨(some 12), none, .mv (.t 0)⟩,
  ⟨(some 13), none, .nilck (.t 12)⟩,
  ⟨(some 14), none, .faddr 8 (.t 13)⟩,
  ⟨(some 15), none, .load none (.t 14)⟩,
  ⟨(some 16), none, .mv (.t 1)⟩,
  ⟨(some 17), none, .bslice 1 1 [.nils] [(0, (.t 16))]⟩,
  ⟨(some 18), none, .app 1 24 (.t 15) (.t 17)⟩,
  ⟨(some 19), none, .nilck (.t 11)⟩,
  ⟨(some 20), none, .faddr 8 (.t 19)⟩,
  ⟨none, none, .store 1 (.t 20) (.t 18)⟩])
 (.seq (.reg false [] [
  ⟨(some 4), none, .mv (.c (.int .i64 (0)))⟩])
 .ret))))⟩
theorem k60 : kFunc Try.prog Try.f60 = some F60 := by kernel_rfl

def F61 : RFunc := ⟨19, [.t 4], (.seq (.reg false [] [
  ⟨(some 3), none, .box (.t 1)⟩,
  ⟨(some 4), none, .mv (.c (.int .i64 (0)))⟩])
 (.seq (.seq (.reg false [] [
  ⟨(some 6), none, .mv (.t 0)⟩,
  ⟨(some 7), none, .len 1 (.t 6)⟩,
  ⟨(some 8), none, .mv (.c (.int .i64 (0)))⟩])
 (.block 0 (.loop (.seq (.reg false [] [
  ⟨(some 9), none, .bin .lss (.t 8) (.t 7)⟩])
 (.seq (.cond (.t 9) .skip
 (.exit 0))
 (.seq (.block 1 (.seq (.reg false [] [
  ⟨(some 10), none, .mv (.t 8)⟩,
  ⟨(some 5), none, .mv (.t 10)⟩])
 (.seq (.reg true [0, 0, 0, 6, 14, 31] [
  ⟨(some 11), none, .load (some 8) (.t 3)⟩,
  ⟨(some 12), none, .mv (.t 0)⟩,
  ⟨(some 13), none, .mv (.t 5)⟩,
  ⟨(some 14), none, .iaS 8 (.t 12) (.t 13)⟩,
  ⟨(some 15), none, .load (some 8) (.t 14)⟩,
  ⟨(some 16), none, .eq false (.g 8) (.t 11) (.t 15)⟩])
 (.cond (.t 16) (.seq (.reg false [] [
  ⟨(some 17), none, .mv (.t 5)⟩,
  ⟨(some 4), none, .mv (.t 17)⟩])
 .ret)
 .skip))))
 (.reg false [] [
  ⟨(some 18), none, .bin .add (.t 8) (.c (.int .i64 (1)))⟩,
  ⟨(some 8), none, .mv (.t 18)⟩])))))))
 (.seq (.reg false [] [
  ⟨(some 4), none, .mv (.c (.int .i64 (-1)))⟩])
 .ret)))⟩
theorem k61 : kFunc Try.prog Try.f61 = some F61 := by kernel_rfl

def F62 : RFunc := ⟨95, [.t 2], (.seq (.reg false [] [
  ⟨(some 1), none, .box (.t 0)⟩,
  ⟨(some 2), none, .mv (.c (.int .i64 (0)))⟩])
 (.seq (.reg false [] [
  ⟨(some 7), none, .faddr 0 (.t 1)⟩,
  ⟨(some 8), none, .load none (.t 7)⟩,
  ⟨(some 9), none, .len 1 (.t 8)⟩,
  ⟨(some 3), none, .mv (.t 9)⟩])
 (.seq (.seq (.reg false [] [
  ⟨(some 10), none, .mv (.t 3)⟩,
  ⟨(some 11), none, .bin .lss (.t 10) (.c (.int .i64 (1)))⟩,
  ⟨(some 12), none, .mv (.t 11)⟩,
  ⟨(some 13), (some (12, false)), .mv (.t 3)⟩,
  ⟨(some 14), (some (12, false)), .bin .gtr (.t 13) (.c (.int .i64 (4)))⟩,
  ⟨(some 15), none, .pick (.t 12) (.c (.bool true)) (.t 14)⟩,
  ⟨(some 16), none, .mv (.t 15)⟩,
  ⟨(some 17), (some (16, false)), .faddr 1 (.t 1)⟩,
  ⟨(some 18), (some (16, false)), .load (some 4) (.t 17)⟩,
  ⟨(some 19), (some (16, false)), .call (.c (.fn 31 [])) [(.t 18)]⟩,
  ⟨(some 20), (some (16, false)), .bin .gtr (.t 19) (.c (.int .i64 (300)))⟩,
  ⟨(some 21), none, .pick (.t 16) (.c (.bool true)) (.t 20)⟩,
  ⟨(some 22), none, .mv (.t 21)⟩,
  ⟨(some 23), (some (22, false)), .faddr 1 (.t 1)⟩,
  ⟨(some 24), (some (22, false)), .load (some 4) (.t 23)⟩,
  ⟨(some 25), (some (22, false)), .call (.c (.fn 32 [])) [(.t 24)]⟩,
  ⟨(some 26), (some (22, false)), .bin .gtr (.t 25) (.c (.int .i64 (20)))⟩,
  ⟨(some 27), none, .pick (.t 22) (.c (.bool true)) (.t 26)⟩,
  ⟨(some 28), none, .mv (.t 27)⟩,
  ⟨(some 29), (some (28, false)), .faddr 5 (.t 1)⟩,
  ⟨(some 30), (some (28, false)), .load none (.t 29)⟩,
  ⟨(some 31), (some (28, false)), .len 1 (.t 30)⟩,
  ⟨(some 32), (some (28, false)), .bin .gtr (.t 31) (.c (.int .i64 (24)))⟩,
  ⟨(some 33), none, .pick (.t 28) (.c (.bool true)) (.t 32)⟩])
 (.cond (.t 33) (.seq (.reg false [] [
  ⟨(some 2), none, .mv (.c (.int .i64 (2)))⟩])
 .ret)
 .skip))
 (.seq (.seq (.reg false [] [
  ⟨(some 34), none, .faddr 1 (.t 1)⟩,
  ⟨(some 35), none, .load (some 4) (.t 34)⟩,
  ⟨(some 36), none, .mv (.t 3)⟩,
  ⟨(some 37), none, .call (.c (.fn 73 [])) [(.t 35), (.t 36)]⟩,
  ⟨(some 38), none, .un .not (.t 37)⟩])
 (.cond (.t 38) (.seq (.reg false [] [
  ⟨(some 2), none, .mv (.c (.int .i64 (11)))⟩])
 .ret)
 .skip))
 (.seq (.seq (.reg false [] [
  ⟨(some 39), none, .faddr 5 (.t 1)⟩,
  ⟨(some 40), none, .load none (.t 39)⟩,
  ⟨(some 41), none, .len 1 (.t 40)⟩,
  ⟨(some 42), none, .mv (.c (.int .i64 (0)))⟩])
 (.block 0 (.loop (.seq (.reg false [] [
  ⟨(some 43), none, .bin .lss (.t 42) (.t 41)⟩])
 (.seq (.cond (.t 43) .skip
 (.exit 0))
 (.seq (.block 1 (.seq (.reg false [] [
  ⟨(some 44), none, .iaS 3 (.t 40) (.t 42)⟩,
  ⟨(some 45), none, .load (some 3) (.t 44)⟩,
  ⟨(some 5), none, .alloc [.nils, .nils, .nils]⟩,
  ⟨none, none, .store 3 (.t 5) (.t 45)⟩])
 (.seq (.reg false [] [
  ⟨(some 46), none, .faddr 0 (.t 5)⟩,
  ⟨(some 47), none, .load none (.t 46)⟩,
  ⟨(some 48), none, .len 1 (.t 47)⟩,
  ⟨(some 49), none, .bin .geq (.t 48) (.c (.int .i64 (2)))⟩,
  ⟨(some 50), none, .mv (.t 49)⟩,
  ⟨(some 51), (some (50, true)), .faddr 0 (.t 5)⟩,
  ⟨(some 52), (some (50, true)), .load none (.t 51)⟩,
  ⟨(some 53), (some (50, true)), .iaS 2 (.t 52) (.c (.int .i64 (0)))⟩,
  ⟨(some 54), (some (50, true)), .faddr 0 (.t 53)⟩,
  ⟨(some 55), (some (50, true)), .load none (.t 54)⟩,
  ⟨(some 56), (some (50, true)), .eq false .i (.t 55) (.c (.int .i64 (0)))⟩,
  ⟨(some 57), none, .pick (.t 50) (.t 56) (.c (.bool false))⟩,
  ⟨(some 58), none, .mv (.t 57)⟩,
  ⟨(some 59), (some (58, true)), .faddr 0 (.t 5)⟩,
  ⟨(some 60), (some (58, true)), .load none (.t 59)⟩,
  ⟨(some 61), (some (58, true)), .iaS 2 (.t 60) (.c (.int .i64 (1)))⟩,
  ⟨(some 62), (some (58, true)), .faddr 0 (.t 61)⟩,
  ⟨(some 63), (some (58, true)), .load none (.t 62)⟩,
  ⟨(some 64), (some (58, true)), .eq false .i (.t 63) (.c (.int .i64 (1)))⟩,
  ⟨(some 65), none, .pick (.t 58) (.t 64) (.c (.bool false))⟩,
  ⟨(some 6), none, .mv (.t 65)⟩])
 (.seq (.reg false [] [
  ⟨(some 66), none, .mv (.t 6)⟩,
  ⟨(some 67), none, .un .not (.t 66)⟩,
  ⟨(some 68), none, .mv (.t 67)⟩,
  ⟨(some 69), (some (68, false)), .faddr 0 (.t 5)⟩,
  ⟨(some 70), (some (68, false)), .load none (.t 69)⟩,
  ⟨(some 71), (some (68, false)), .call (.c (.fn 74 [])) [(.t 70), (.c (.int .i64 (8)))]⟩,
  ⟨(some 72), (some (68, false)), .un .not (.t 71)⟩,
  ⟨(some 73), none, .pick (.t 68) (.c (.bool true)) (.t 72)⟩,
  ⟨(some 74), none, .mv (.t 73)⟩,
  ⟨(some 75), (some (74, false)), .faddr 1 (.t 5)⟩,
  ⟨(some 76), (some (74, false)), .load none (.t 75)⟩,
  ⟨(some 77), (some (74, false)), .mv (.t 3)⟩,
  ⟨(some 78), (some (74, false)), .call (.c (.fn 74 [])) [(.t 76), (.t 77)]⟩,
  ⟨(some 79), (some (74, false)), .un .not (.t 78)⟩,
  ⟨(some 80), none, .pick (.t 74) (.c (.bool true)) (.t 79)⟩,
  ⟨(some 81), none, .mv (.t 80)⟩,
  ⟨(some 82), (some (81, false)), .faddr 2 (.t 5)⟩,
  ⟨(some 83), (some (81, false)), .load none (.t 82)⟩,
  ⟨(some 84), (some (81, false)), .mv (.t 3)⟩,
  ⟨(some 85), (some (81, false)), .call (.c (.fn 74 [])) [(.t 83), (.t 84)]⟩,
  ⟨(some 86), (some (81, false)), .un .not (.t 85)⟩,
  ⟨(some 87), none, .pick (.t 81) (.c (.bool true)) (.t 86)⟩,
  ⟨(some 88), none, .mv (.t 87)⟩,
  ⟨(some 89), (some (88, false)), .faddr 2 (.t 5)⟩,
  ⟨(some 90), (some (88, false)), .load none (.t 89)⟩,
  ⟨(some 91), (some (88, false)), .len 1 (.t 90)⟩,
  ⟨(some 92), (some (88, false)), .eq false .i (.t 91) (.c (.int .i64 (0)))⟩,
  ⟨(some 93), none, .pick (.t 88) (.c (.bool true)) (.t 92)⟩])
 (.cond (.t 93) (.seq (.reg false [] [
  ⟨(some 2), none, .mv (.c (.int .i64 (11)))⟩])
 .ret)
 .skip)))))
 (.reg false [] [
  ⟨(some 94), none, .bin .add (.t 42) (.c (.int .i64 (1)))⟩,
  ⟨(some 42), none, .mv (.t 94)⟩])))))))
 (.seq (.reg false [] [
  ⟨(some 2), none, .mv (.c (.int .i64 (0)))⟩])
 .ret))))))⟩
theorem k62 : kFunc Try.prog Try.f62 = some F62 := by kernel_rfl

def F64 : RFunc := ⟨108, [.t 6], (.seq (.reg false [] [
  ⟨(some 3), none, .box (.t 0)⟩,
  ⟨(some 5), none, .box (.t 2)⟩,
  ⟨(some 6), none, .mv (.c .nils)⟩])
 (.seq (.seq (.reg false [] [
  ⟨(some 16), none, .faddr 0 (.t 3)⟩,
  ⟨(some 17), none, .load none (.t 16)⟩])
 (.block 0 (.seq (.reg false [] [
  ⟨(some 19), none, .eq false .i (.t 17) (.c (.int .i64 (1)))⟩,
  ⟨(some 18), none, .mv (.t 19)⟩])
 (.cond (.t 18) (.seq (.reg false [] [
  ⟨(some 20), none, .load (some 8) (.t 5)⟩,
  ⟨(some 21), none, .call (.c (.fn 75 [])) [(.c (.bool true)), (.t 20)]⟩,
  ⟨(some 6), none, .mv (.t 21)⟩])
 .ret)
 (.seq (.reg false [] [
  ⟨(some 23), none, .eq false .i (.t 17) (.c (.int .i64 (2)))⟩,
  ⟨(some 22), none, .mv (.t 23)⟩])
 (.cond (.t 22) (.seq (.reg true [0, 1, 3, 7, 0, 16, 63, 0, 255, 511] [
  ⟨(some 24), none, .faddr 1 (.t 3)⟩,
  ⟨(some 25), none, .load none (.t 24)⟩,
  ⟨(some 26), none, .iaA 8 1 (.t 5) (.t 25)⟩,
  ⟨(some 27), none, .load none (.t 26)⟩,
  ⟨(some 28), none, .faddr 2 (.t 3)⟩,
  ⟨(some 29), none, .load none (.t 28)⟩,
  ⟨(some 30), none, .eq false .i (.t 27) (.t 29)⟩,
  ⟨(some 31), none, .load (some 8) (.t 5)⟩,
  ⟨(some 32), none, .call (.c (.fn 75 [])) [(.t 30), (.t 31)]⟩,
  ⟨(some 6), none, .mv (.t 32)⟩])
 .ret)
 (.seq (.reg false [] [
  ⟨(some 34), none, .eq false .i (.t 17) (.c (.int .i64 (3)))⟩,
  ⟨(some 33), none, .mv (.t 34)⟩])
 (.cond (.t 33) (.seq (.reg true [0, 0, 3, 0, 15, 31] [
  ⟨(some 35), none, .mv (.t 1)⟩,
  ⟨(some 36), none, .load (some 4) (.t 3)⟩,
  ⟨(some 37), none, .call (.c (.fn 76 [])) [(.t 35), (.t 36)]⟩,
  ⟨(some 38), none, .load (some 8) (.t 5)⟩,
  ⟨(some 39), none, .call (.c (.fn 75 [])) [(.t 37), (.t 38)]⟩,
  ⟨(some 6), none, .mv (.t 39)⟩])
 .ret)
 (.seq (.reg false [] [
  ⟨(some 41), none, .eq false .i (.t 17) (.c (.int .i64 (4)))⟩,
  ⟨(some 40), none, .mv (.t 41)⟩])
 (.cond (.t 40) (.seq (.reg true [0, 1, 3, 7, 0, 0, 63, 127, 255, 0, 1023, 2047] [
  ⟨(some 42), none, .faddr 3 (.t 3)⟩,
  ⟨(some 43), none, .load none (.t 42)⟩,
  ⟨(some 44), none, .iaS 4 (.t 43) (.c (.int .i64 (0)))⟩,
  ⟨(some 45), none, .load (some 4) (.t 44)⟩,
  ⟨(some 46), none, .mv (.t 1)⟩,
  ⟨(some 47), none, .load (some 8) (.t 5)⟩,
  ⟨(some 48), none, .call (.c (.fn 64 [])) [(.t 45), (.t 46), (.t 47)]⟩,
  ⟨(some 49), none, .len 1 (.t 48)⟩,
  ⟨(some 50), none, .eq false .i (.t 49) (.c (.int .i64 (0)))⟩,
  ⟨(some 51), none, .load (some 8) (.t 5)⟩,
  ⟨(some 52), none, .call (.c (.fn 75 [])) [(.t 50), (.t 51)]⟩,
  ⟨(some 6), none, .mv (.t 52)⟩])
 .ret)
 (.seq (.reg false [] [
  ⟨(some 54), none, .eq false .i (.t 17) (.c (.int .i64 (5)))⟩,
  ⟨(some 53), none, .mv (.t 54)⟩])
 (.cond (.t 53) (.seq (.reg false [] [
  ⟨(some 55), none, .load (some 8) (.t 5)⟩,
  ⟨(some 56), none, .faddr 1 (.t 3)⟩,
  ⟨(some 57), none, .load none (.t 56)⟩,
  ⟨(some 58), none, .faddr 2 (.t 3)⟩,
  ⟨(some 59), none, .load none (.t 58)⟩,
  ⟨(some 60), none, .call (.c (.fn 77 [])) [(.t 55), (.t 57), (.t 59)]⟩,
  ⟨(some 61), none, .call (.c (.fn 75 [])) [(.c (.bool true)), (.t 60)]⟩,
  ⟨(some 6), none, .mv (.t 61)⟩])
 .ret)
 (.seq (.reg false [] [
  ⟨(some 63), none, .eq false .i (.t 17) (.c (.int .i64 (7)))⟩,
  ⟨(some 62), none, .mv (.t 63)⟩])
 (.cond (.t 62) (.seq (.reg false [] [
  ⟨(some 7), none, .mv (.c .nils)⟩])
 (.seq (.seq (.reg false [] [
  ⟨(some 64), none, .faddr 3 (.t 3)⟩,
  ⟨(some 65), none, .load none (.t 64)⟩,
  ⟨(some 66), none, .len 1 (.t 65)⟩,
  ⟨(some 67), none, .mv (.c (.int .i64 (0)))⟩])
 (.block 1 (.loop (.seq (.reg false [] [
  ⟨(some 68), none, .bin .lss (.t 67) (.t 66)⟩])
 (.seq (.cond (.t 68) .skip
 (.exit 1))
 (.seq (.block 2 (.seq (.reg false [] [
  ⟨(some 69), none, .iaS 4 (.t 65) (.t 67)⟩,
  ⟨(some 70), none, .load (some 4) (.t 69)⟩,
  ⟨(some 9), none, .alloc [(.int .i64 (0)), (.int .i64 (0)), (.int .u16 (0)), .nils]⟩,
  ⟨none, none, .store 4 (.t 9) (.t 70)⟩])
 (.reg false [] [
  ⟨(some 71), none, .mv (.t 7)⟩,
  ⟨(some 72), none, .load (some 4) (.t 9)⟩,
  ⟨(some 73), none, .mv (.t 1)⟩,
  ⟨(some 74), none, .load (some 8) (.t 5)⟩,
  ⟨(some 75), none, .call (.c (.fn 64 [])) [(.t 72), (.t 73), (.t 74)]⟩,
  ⟨(some 76), none, .app 8 16 (.t 71) (.t 75)⟩,
  ⟨(some 77), none, .call (.c (.fn 78 [])) [(.t 76)]⟩,
  ⟨(some 7), none, .mv (.t 77)⟩])))
 (.reg false [] [
  ⟨(some 78), none, .bin .add (.t 67) (.c (.int .i64 (1)))⟩,
  ⟨(some 67), none, .mv (.t 78)⟩])))))))
 (.seq (.reg false [] [
  ⟨(some 79), none, .mv (.t 7)⟩,
  ⟨(some 6), none, .mv (.t 79)⟩])
 .ret)))
 (.seq (.reg false [] [
  ⟨(some 81), none, .eq false .i (.t 17) (.c (.int .i64 (6)))⟩,
  ⟨(some 80), none, .mv (.t 81)⟩])
 (.cond (.t 80) (.seq (.reg false [] [
  ⟨(some 82), none, .load (some 8) (.t 5)⟩,
  ⟨(some 83), none, .call (.c (.fn 75 [])) [(.c (.bool true)), (.t 82)]⟩,
  ⟨(some 10), none, .mv (.t 83)⟩])
 (.seq (.seq (.reg false [] [
  ⟨(some 84), none, .faddr 3 (.t 3)⟩,
  ⟨(some 85), none, .load none (.t 84)⟩,
  ⟨(some 86), none, .len 1 (.t 85)⟩,
  ⟨(some 87), none, .mv (.c (.int .i64 (0)))⟩])
 (.block 3 (.loop (.seq (.reg false [] [
  ⟨(some 88), none, .bin .lss (.t 87) (.t 86)⟩])
 (.seq (.cond (.t 88) .skip
 (.exit 3))
 (.seq (.block 4 (.seq (.reg false [] [
  ⟨(some 89), none, .iaS 4 (.t 85) (.t 87)⟩,
  ⟨(some 90), none, .load (some 4) (.t 89)⟩,
  ⟨(some 12), none, .alloc [(.int .i64 (0)), (.int .i64 (0)), (.int .u16 (0)), .nils]⟩,
  ⟨none, none, .store 4 (.t 12) (.t 90)⟩])
 (.seq (.reg false [] [
  ⟨(some 13), none, .mv (.c .nils)⟩])
 (.seq (.seq (.reg false [] [
  ⟨(some 91), none, .mv (.t 10)⟩,
  ⟨(some 92), none, .len 1 (.t 91)⟩,
  ⟨(some 93), none, .mv (.c (.int .i64 (0)))⟩])
 (.block 5 (.loop (.seq (.reg false [] [
  ⟨(some 94), none, .bin .lss (.t 93) (.t 92)⟩])
 (.seq (.cond (.t 94) .skip
 (.exit 5))
 (.seq (.block 6 (.seq (.reg false [] [
  ⟨(some 95), none, .iaS 8 (.t 91) (.t 93)⟩,
  ⟨(some 96), none, .load (some 8) (.t 95)⟩,
  ⟨(some 15), none, .alloc [(.int .u16 (0)), (.int .u16 (0)), (.int .u16 (0)), (.int .u16 (0)), (.int .u16 (0)), (.int .u16 (0)), (.int .u16 (0)), (.int .u16 (0))]⟩,
  ⟨none, none, .store 8 (.t 15) (.t 96)⟩])
 (.reg false [] [
  ⟨(some 97), none, .mv (.t 13)⟩,
  ⟨(some 98), none, .load (some 4) (.t 12)⟩,
  ⟨(some 99), none, .mv (.t 1)⟩,
  ⟨(some 100), none, .load (some 8) (.t 15)⟩,
  ⟨(some 101), none, .call (.c (.fn 64 [])) [(.t 98), (.t 99), (.t 100)]⟩,
  ⟨(some 102), none, .app 8 16 (.t 97) (.t 101)⟩,
  ⟨(some 13), none, .mv (.t 102)⟩])))
 (.reg false [] [
  ⟨(some 103), none, .bin .add (.t 93) (.c (.int .i64 (1)))⟩,
  ⟨(some 93), none, .mv (.t 103)⟩])))))))
 (.reg false [] [
  ⟨(some 104), none, .mv (.t 13)⟩,
  ⟨(some 105), none, .call (.c (.fn 78 [])) [(.t 104)]⟩,
  ⟨(some 10), none, .mv (.t 105)⟩])))))
 (.reg false [] [
  ⟨(some 106), none, .bin .add (.t 87) (.c (.int .i64 (1)))⟩,
  ⟨(some 87), none, .mv (.t 106)⟩])))))))
 (.seq (.reg false [] [
  ⟨(some 107), none, .mv (.t 10)⟩,
  ⟨(some 6), none, .mv (.t 107)⟩])
 .ret)))
 .skip))))))))))))))))
 (.seq (.reg false [] [
  ⟨(some 6), none, .mv (.c .nils)⟩])
 .ret)))⟩
theorem k64 : kFunc Try.prog Try.f64 = some F64 := by kernel_rfl

def F65 : RFunc := ⟨9, [.t 4], (.seq (.reg false [] [
  ⟨(some 3), none, .box (.t 1)⟩,
  ⟨(some 4), none, .mv (.c (.bool false))⟩])
 (.seq (.reg false [] [
  ⟨(some 5), none, .mv (.t 0)⟩,
  ⟨(some 6), none, .load (some 2) (.t 3)⟩,
  ⟨(some 7), none, .call (.c (.fn 79 [])) [(.t 5), (.t 6)]⟩,
  ⟨(some 8), none, .bin .geq (.t 7) (.c (.int .i64 (0)))⟩,
  ⟨(some 4), none, .mv (.t 8)⟩])
 .ret))⟩
theorem k65 : kFunc Try.prog Try.f65 = some F65 := by kernel_rfl

def F73 : RFunc := ⟨92, [.t 4], (.seq (.reg false [] [
  ⟨(some 2), none, .box (.t 0)⟩,
  ⟨(some 3), none, .box (.t 1)⟩,
  ⟨(some 4), none, .mv (.c (.bool false))⟩])
 (.seq (.reg false [] [
  ⟨(some 8), none, .faddr 1 (.t 2)⟩,
  ⟨(some 9), none, .load none (.t 8)⟩,
  ⟨(some 10), none, .eq false .i (.t 9) (.c (.int .i64 (0)))⟩,
  ⟨(some 11), none, .mv (.t 10)⟩,
  ⟨(some 12), (some (11, true)), .faddr 2 (.t 2)⟩,
  ⟨(some 13), (some (11, true)), .load none (.t 12)⟩,
  ⟨(some 14), (some (11, true)), .eq false .i (.t 13) (.c (.int .u16 (0)))⟩,
  ⟨(some 15), none, .pick (.t 11) (.t 14) (.c (.bool false))⟩,
  ⟨(some 5), none, .mv (.t 15)⟩])
 (.seq (.reg false [] [
  ⟨(some 6), none, .mv (.c (.int .i64 (0)))⟩,
  ⟨(some 7), none, .mv (.c (.int .i64 (8)))⟩])
 (.seq (.seq (.reg false [] [
  ⟨(some 16), none, .faddr 0 (.t 2)⟩,
  ⟨(some 17), none, .load none (.t 16)⟩])
 (.block 0 (.seq (.seq (.reg false [] [
  ⟨(some 19), none, .eq false .i (.t 17) (.c (.int .i64 (0)))⟩,
  ⟨(some 18), none, .mv (.t 19)⟩])
 (.cond (.t 18) .skip
 (.reg false [] [
  ⟨(some 20), none, .eq false .i (.t 17) (.c (.int .i64 (1)))⟩,
  ⟨(some 18), none, .mv (.t 20)⟩])))
 (.cond (.t 18) (.seq (.reg false [] [
  ⟨(some 21), none, .faddr 3 (.t 2)⟩,
  ⟨(some 22), none, .load none (.t 21)⟩,
  ⟨(some 23), none, .len 1 (.t 22)⟩,
  ⟨(some 24), none, .eq false .i (.t 23) (.c (.int .i64 (0)))⟩,
  ⟨(some 25), none, .mv (.t 24)⟩,
  ⟨(some 26), (some (25, true)), .mv (.t 5)⟩,
  ⟨(some 27), none, .pick (.t 25) (.t 26) (.c (.bool false))⟩,
  ⟨(some 4), none, .mv (.t 27)⟩])
 .ret)
 (.seq (.reg false [] [
  ⟨(some 29), none, .eq false .i (.t 17) (.c (.int .i64 (4)))⟩,
  ⟨(some 28), none, .mv (.t 29)⟩])
 (.cond (.t 28) (.seq (.reg true [0, 1, 3, 7, 15, 31, 63, 127, 255, 511, 1023, 2047, 4095, 8191, 16383, 32767, 65535, 131071, 262143, 32767, 1048575, 2097151, 4194303] [
  ⟨(some 30), none, .faddr 3 (.t 2)⟩,
  ⟨(some 31), none, .load none (.t 30)⟩,
  ⟨(some 32), none, .len 1 (.t 31)⟩,
  ⟨(some 33), none, .eq false .i (.t 32) (.c (.int .i64 (1)))⟩,
  ⟨(some 34), none, .mv (.t 33)⟩,
  ⟨(some 35), (some (34, true)), .mv (.t 5)⟩,
  ⟨(some 36), none, .pick (.t 34) (.t 35) (.c (.bool false))⟩,
  ⟨(some 37), none, .mv (.t 36)⟩,
  ⟨(some 38), (some (37, true)), .faddr 3 (.t 2)⟩,
  ⟨(some 39), (some (37, true)), .load none (.t 38)⟩,
  ⟨(some 40), (some (37, true)), .iaS 4 (.t 39) (.c (.int .i64 (0)))⟩,
  ⟨(some 41), (some (37, true)), .load (some 4) (.t 40)⟩,
  ⟨(some 42), (some (37, true)), .call (.c (.fn 94 [])) [(.t 41)]⟩,
  ⟨(some 43), none, .pick (.t 37) (.t 42) (.c (.bool false))⟩,
  ⟨(some 44), none, .mv (.t 43)⟩,
  ⟨(some 45), (some (44, true)), .faddr 3 (.t 2)⟩,
  ⟨(some 46), (some (44, true)), .load none (.t 45)⟩,
  ⟨(some 47), (some (44, true)), .iaS 4 (.t 46) (.c (.int .i64 (0)))⟩,
  ⟨(some 48), (some (44, true)), .load (some 4) (.t 47)⟩,
  ⟨(some 49), (some (44, true)), .load none (.t 3)⟩,
  ⟨(some 50), (some (44, true)), .call (.c (.fn 73 [])) [(.t 48), (.t 49)]⟩,
  ⟨(some 51), none, .pick (.t 44) (.t 50) (.c (.bool false))⟩,
  ⟨(some 4), none, .mv (.t 51)⟩])
 .ret)
 (.seq (.seq (.reg false [] [
  ⟨(some 53), none, .eq false .i (.t 17) (.c (.int .i64 (6)))⟩,
  ⟨(some 52), none, .mv (.t 53)⟩])
 (.cond (.t 52) .skip
 (.reg false [] [
  ⟨(some 54), none, .eq false .i (.t 17) (.c (.int .i64 (7)))⟩,
  ⟨(some 52), none, .mv (.t 54)⟩])))
 (.cond (.t 52) (.seq (.reg false [] [
  ⟨(some 55), none, .faddr 3 (.t 2)⟩,
  ⟨(some 56), none, .load none (.t 55)⟩,
  ⟨(some 57), none, .len 1 (.t 56)⟩,
  ⟨(some 58), none, .bin .geq (.t 57) (.c (.int .i64 (2)))⟩,
  ⟨(some 59), none, .mv (.t 58)⟩,
  ⟨(some 60), (some (59, true)), .mv (.t 5)⟩,
  ⟨(some 61), none, .pick (.t 59) (.t 60) (.c (.bool false))⟩,
  ⟨(some 62), none, .mv (.t 61)⟩,
  ⟨(some 63), (some (62, true)), .faddr 3 (.t 2)⟩,
  ⟨(some 64), (some (62, true)), .load none (.t 63)⟩,
  ⟨(some 65), (some (62, true)), .mkfn 96 [(.t 3)]⟩,
  ⟨(some 66), (some (62, true)), .call (.c (.fn 95 [])) [(.t 64), (.t 65)]⟩,
  ⟨(some 67), (some (62, true)), .un .not (.t 66)⟩,
  ⟨(some 68), none, .pick (.t 62) (.t 67) (.c (.bool false))⟩,
  ⟨(some 4), none, .mv (.t 68)⟩])
 .ret)
 (.seq (.reg false [] [
  ⟨(some 70), none, .eq false .i (.t 17) (.c (.int .i64 (2)))⟩,
  ⟨(some 69), none, .mv (.t 70)⟩])
 (.cond (.t 69) .skip
 (.seq (.reg false [] [
  ⟨(some 72), none, .eq false .i (.t 17) (.c (.int .i64 (5)))⟩,
  ⟨(some 71), none, .mv (.t 72)⟩])
 (.cond (.t 71) (.reg false [] [
  ⟨(some 6), none, .mv (.c (.int .i64 (1)))⟩])
 (.seq (.reg false [] [
  ⟨(some 74), none, .eq false .i (.t 17) (.c (.int .i64 (3)))⟩,
  ⟨(some 73), none, .mv (.t 74)⟩])
 (.cond (.t 73) (.reg false [] [
  ⟨(some 75), none, .load none (.t 3)⟩,
  ⟨(some 7), none, .mv (.t 75)⟩])
 (.seq (.reg false [] [
  ⟨(some 4), none, .mv (.c (.bool false))⟩])
 .ret)))))))))))))))
 (.seq (.reg false [] [
  ⟨(some 76), none, .faddr 3 (.t 2)⟩,
  ⟨(some 77), none, .load none (.t 76)⟩,
  ⟨(some 78), none, .len 1 (.t 77)⟩,
  ⟨(some 79), none, .eq false .i (.t 78) (.c (.int .i64 (0)))⟩,
  ⟨(some 80), none, .mv (.t 79)⟩,
  ⟨(some 81), (some (80, true)), .faddr 1 (.t 2)⟩,
  ⟨(some 82), (some (80, true)), .load none (.t 81)⟩,
  ⟨(some 83), (some (80, true)), .mv (.t 6)⟩,
  ⟨(some 84), (some (80, true)), .bin .geq (.t 82) (.t 83)⟩,
  ⟨(some 85), none, .pick (.t 80) (.t 84) (.c (.bool false))⟩,
  ⟨(some 86), none, .mv (.t 85)⟩,
  ⟨(some 87), (some (86, true)), .faddr 1 (.t 2)⟩,
  ⟨(some 88), (some (86, true)), .load none (.t 87)⟩,
  ⟨(some 89), (some (86, true)), .mv (.t 7)⟩,
  ⟨(some 90), (some (86, true)), .bin .lss (.t 88) (.t 89)⟩,
  ⟨(some 91), none, .pick (.t 86) (.t 90) (.c (.bool false))⟩,
  ⟨(some 4), none, .mv (.t 91)⟩])
 .ret)))))⟩
theorem k73 : kFunc Try.prog Try.f73 = some F73 := by kernel_rfl

def F74 : RFunc := ⟨39, [.t 4], (.seq (.reg false [] [
  ⟨(some 4), none, .mv (.c (.bool false))⟩])
 (.seq (.seq (.reg false [] [
  ⟨(some 7), none, .mv (.t 0)⟩,
  ⟨(some 8), none, .len 1 (.t 7)⟩,
  ⟨(some 9), none, .mv (.c (.int .i64 (0)))⟩])
 (.block 0 (.loop (.seq (.reg false [] [
  ⟨(some 10), none, .bin .lss (.t 9) (.t 8)⟩])
 (.seq (.cond (.t 10) .skip
 (.exit 0))
 (.seq (.block 1 (.seq (.reg false [] [
  ⟨(some 11), none, .mv (.t 9)⟩,
  ⟨(some 12), none, .iaS 2 (.t 7) (.t 9)⟩,
  ⟨(some 13), none, .load (some 2) (.t 12)⟩,
  ⟨(some 6), none, .alloc [(.int .i64 (0)), (.int .u16 (0))]⟩,
  ⟨(some 5), none, .mv (.t 11)⟩,
  ⟨none, none, .store 2 (.t 6) (.t 13)⟩])
 (.seq (.reg true [0, 1, 3, 7, 15, 31, 15, 127, 255, 511, 1023, 2047, 4095, 8191, 8191, 24575, 65535, 131071, 262143, 8191, 532479, 2097151, 4194303, 8388607] [
  ⟨(some 14), none, .faddr 0 (.t 6)⟩,
  ⟨(some 15), none, .load none (.t 14)⟩,
  ⟨(some 16), none, .bin .lss (.t 15) (.c (.int .i64 (0)))⟩,
  ⟨(some 17), none, .mv (.t 16)⟩,
  ⟨(some 18), (some (17, false)), .faddr 0 (.t 6)⟩,
  ⟨(some 19), (some (17, false)), .load none (.t 18)⟩,
  ⟨(some 20), (some (17, false)), .mv (.t 1)⟩,
  ⟨(some 21), (some (17, false)), .bin .geq (.t 19) (.t 20)⟩,
  ⟨(some 22), none, .pick (.t 17) (.c (.bool true)) (.t 21)⟩,
  ⟨(some 23), none, .mv (.t 22)⟩,
  ⟨(some 24), (some (23, false)), .mv (.t 5)⟩,
  ⟨(some 25), (some (23, false)), .bin .gtr (.t 24) (.c (.int .i64 (0)))⟩,
  ⟨(some 26), (some (23, false)), .mv (.t 25)⟩,
  ⟨(some 27), (some (26, true)), .mv (.t 0)⟩,
  ⟨(some 28), (some (26, true)), .mv (.t 5)⟩,
  ⟨(some 29), (some (26, true)), .bin .sub (.t 28) (.c (.int .i64 (1)))⟩,
  ⟨(some 30), (some (26, true)), .iaS 2 (.t 27) (.t 29)⟩,
  ⟨(some 31), (some (26, true)), .faddr 0 (.t 30)⟩,
  ⟨(some 32), (some (26, true)), .load none (.t 31)⟩,
  ⟨(some 33), (some (26, true)), .faddr 0 (.t 6)⟩,
  ⟨(some 34), (some (26, true)), .load none (.t 33)⟩,
  ⟨(some 35), (some (26, true)), .bin .geq (.t 32) (.t 34)⟩,
  ⟨(some 36), (some (23, false)), .pick (.t 26) (.t 35) (.c (.bool false))⟩,
  ⟨(some 37), none, .pick (.t 23) (.c (.bool true)) (.t 36)⟩])
 (.cond (.t 37) (.seq (.reg false [] [
  ⟨(some 4), none, .mv (.c (.bool false))⟩])
 .ret)
 .skip))))
 (.reg false [] [
  ⟨(some 38), none, .bin .add (.t 9) (.c (.int .i64 (1)))⟩,
  ⟨(some 9), none, .mv (.t 38)⟩])))))))
 (.seq (.reg false [] [
  ⟨(some 4), none, .mv (.c (.bool true))⟩])
 .ret)))⟩
theorem k74 : kFunc Try.prog Try.f74 = some F74 := by kernel_rfl

def F75 : RFunc := ⟨9, [.t 4], (.seq (.reg false [] [
  ⟨(some 3), none, .box (.t 1)⟩,
  ⟨(some 4), none, .mv (.c .nils)⟩])
 (.seq (.seq (.reg false [] [
  ⟨(some 5), none, .mv (.t 0)⟩,
  ⟨(some 6), none, .un .not (.t 5)⟩])
 (.cond (.t 6) (.seq (.reg false [] [
  ⟨(some 4), none, .mv (.c .nils)⟩])
 .ret)
 .skip))
 (.seq (.reg false [] [
  ⟨(some 7), none, .load (some 8) (.t 3)⟩,
  ⟨(some 8), none, .bslice 8 1 [(.int .u16 (0)), (.int .u16 (0)), (.int .u16 (0)), (.int .u16 (0)), (.int .u16 (0)), (.int .u16 (0)), (.int .u16 (0)), (.int .u16 (0))] [(0, (.t 7))]⟩,
  ⟨(some 4), none, .mv (.t 8)⟩])
 .ret)))⟩
theorem k75 : kFunc Try.prog Try.f75 = some F75 := by kernel_rfl

def F76 : RFunc := ⟨25, [.t 4], (.seq (.reg false [] [
  ⟨(some 3), none, .box (.t 1)⟩,
  ⟨(some 4), none, .mv (.c (.bool false))⟩])
 (.seq (.reg true [0, 1, 3, 7, 15, 31, 15, 79, 255, 511, 1023, 2047, 2047, 6143, 16383, 32767, 2047, 67583, 262143, 524287, 1048575] [
  ⟨(some 5), none, .faddr 1 (.t 3)⟩,
  ⟨(some 6), none, .load none (.t 5)⟩,
  ⟨(some 7), none, .bin .geq (.t 6) (.c (.int .i64 (0)))⟩,
  ⟨(some 8), none, .mv (.t 7)⟩,
  ⟨(some 9), (some (8, true)), .faddr 1 (.t 3)⟩,
  ⟨(some 10), (some (8, true)), .load none (.t 9)⟩,
  ⟨(some 11), (some (8, true)), .mv (.t 0)⟩,
  ⟨(some 12), (some (8, true)), .len 1 (.t 11)⟩,
  ⟨(some 13), (some (8, true)), .bin .lss (.t 10) (.t 12)⟩,
  ⟨(some 14), none, .pick (.t 8) (.t 13) (.c (.bool false))⟩,
  ⟨(some 15), none, .mv (.t 14)⟩,
  ⟨(some 16), (some (15, true)), .mv (.t 0)⟩,
  ⟨(some 17), (some (15, true)), .faddr 1 (.t 3)⟩,
  ⟨(some 18), (some (15, true)), .load none (.t 17)⟩,
  ⟨(some 19), (some (15, true)), .iaS 1 (.t 16) (.t 18)⟩,
  ⟨(some 20), (some (15, true)), .load none (.t 19)⟩,
  ⟨(some 21), (some (15, true)), .faddr 2 (.t 3)⟩,
  ⟨(some 22), (some (15, true)), .load none (.t 21)⟩,
  ⟨(some 23), (some (15, true)), .eq false .i (.t 20) (.t 22)⟩,
  ⟨(some 24), none, .pick (.t 15) (.t 23) (.c (.bool false))⟩,
  ⟨(some 4), none, .mv (.t 24)⟩])
 .ret))⟩
theorem k76 : kFunc Try.prog Try.f76 = some F76 := by kernel_rfl

def F77 : RFunc := ⟨13, [.cell 6 (some 8)], (.seq (.reg false [] [
  ⟨(some 3), none, .box (.t 0)⟩,
  ⟨(some 6), none, .alloc [(.int .u16 (0)), (.int .u16 (0)), (.int .u16 (0)), (.int .u16 (0)), (.int .u16 (0)), (.int .u16 (0)), (.int .u16 (0)), (.int .u16 (0))]⟩])
 (.seq (.seq (.reg false [] [
  ⟨(some 7), none, .mv (.t 1)⟩,
  ⟨(some 8), none, .call (.c (.fn 82 [])) [(.t 7)]⟩])
 (.cond (.t 8) (.reg false [] [
  ⟨(some 9), none, .mv (.t 1)⟩,
  ⟨(some 10), none, .mv (.t 2)⟩,
  ⟨(some 11), none, .iaA 8 1 (.t 3) (.t 9)⟩,
  ⟨none, none, .store 1 (.t 11) (.t 10)⟩])
 .skip))
 (.seq (.reg false [] [
  ⟨(some 12), none, .load (some 8) (.t 3)⟩,
  ⟨none, none, .store 8 (.t 6) (.t 12)⟩])
 .ret)))⟩
theorem k77 : kFunc Try.prog Try.f77 = some F77 := by kernel_rfl

def F78 : RFunc := ⟨11, [.t 2], (.seq (.reg false [] [
  ⟨(some 2), none, .mv (.c .nils)⟩])
 (.seq (.reg false [] [
  ⟨(some 3), none, .mv (.t 0)⟩,
  ⟨(some 4), none, .call (.c (.fn 97 [])) [(.t 3)]⟩,
  ⟨(some 0), none, .mv (.t 4)⟩])
 (.seq (.seq (.reg false [] [
  ⟨(some 5), none, .mv (.t 0)⟩,
  ⟨(some 6), none, .len 1 (.t 5)⟩,
  ⟨(some 7), none, .bin .gtr (.t 6) (.c (.int .i64 (64)))⟩])
 (.cond (.t 7) (.reg false [] [
  ⟨(some 8), none, .build [] []⟩,
  ⟨(some 9), none, .mkif 126 (.t 8)⟩,
  ⟨none, none, .panic (.t 9)⟩])
 .skip))
 (.seq (.reg false [] [
  ⟨(some 10), none, .mv (.t 0)⟩,
  ⟨(some 2), none, .mv (.t 10)⟩])
 .ret))))⟩
theorem k78 : kFunc Try.prog Try.f78 = some F78 := by kernel_rfl

def F79 : RFunc := ⟨19, [.t 4], (.seq (.reg false [] [
  ⟨(some 3), none, .box (.t 1)⟩,
  ⟨(some 4), none, .mv (.c (.int .i64 (0)))⟩])
 (.seq (.seq (.reg false [] [
  ⟨(some 6), none, .mv (.t 0)⟩,
  ⟨(some 7), none, .len 1 (.t 6)⟩,
  ⟨(some 8), none, .mv (.c (.int .i64 (0)))⟩])
 (.block 0 (.loop (.seq (.reg false [] [
  ⟨(some 9), none, .bin .lss (.t 8) (.t 7)⟩])
 (.seq (.cond (.t 9) .skip
 (.exit 0))
 (.seq (.block 1 (.seq (.reg false [] [
  ⟨(some 10), none, .mv (.t 8)⟩,
  ⟨(some 5), none, .mv (.t 10)⟩])
 (.seq (.reg true [0, 0, 0, 6, 14, 31] [
  ⟨(some 11), none, .load (some 2) (.t 3)⟩,
  ⟨(some 12), none, .mv (.t 0)⟩,
  ⟨(some 13), none, .mv (.t 5)⟩,
  ⟨(some 14), none, .iaS 2 (.t 12) (.t 13)⟩,
  ⟨(some 15), none, .load (some 2) (.t 14)⟩,
  ⟨(some 16), none, .eq false (.g 2) (.t 11) (.t 15)⟩])
 (.cond (.t 16) (.seq (.reg false [] [
  ⟨(some 17), none, .mv (.t 5)⟩,
  ⟨(some 4), none, .mv (.t 17)⟩])
 .ret)
 .skip))))
 (.reg false [] [
  ⟨(some 18), none, .bin .add (.t 8) (.c (.int .i64 (1)))⟩,
  ⟨(some 8), none, .mv (.t 18)⟩])))))))
 (.seq (.reg false [] [
  ⟨(some 4), none, .mv (.c (.int .i64 (-1)))⟩])
 .ret)))⟩
theorem k79 : kFunc Try.prog Try.f79 = some F79 := by kernel_rfl

def F82 : RFunc := ⟨9, [.t 2], (.seq (.reg false [] [
  ⟨(some 2), none, .mv (.c (.bool false))⟩])
 (.seq (.reg false [] [
  ⟨(some 3), none, .mv (.t 0)⟩,
  ⟨(some 4), none, .bin .geq (.t 3) (.c (.int .i64 (0)))⟩,
  ⟨(some 5), none, .mv (.t 4)⟩,
  ⟨(some 6), (some (5, true)), .mv (.t 0)⟩,
  ⟨(some 7), (some (5, true)), .bin .lss (.t 6) (.c (.int .i64 (8)))⟩,
  ⟨(some 8), none, .pick (.t 5) (.t 7) (.c (.bool false))⟩,
  ⟨(some 2), none, .mv (.t 8)⟩])
 .ret))⟩
theorem k82 : kFunc Try.prog Try.f82 = some F82 := by kernel_rfl

def F94 : RFunc := ⟨18, [.t 2], (.seq (.reg false [] [
  ⟨(some 1), none, .box (.t 0)⟩,
  ⟨(some 2), none, .mv (.c (.bool false))⟩])
 (.seq (.seq (.reg false [] [
  ⟨(some 3), none, .faddr 0 (.t 1)⟩,
  ⟨(some 4), none, .load none (.t 3)⟩])
 (.block 0 (.seq (.seq (.reg false [] [
  ⟨(some 6), none, .eq false .i (.t 4) (.c (.int .i64 (0)))⟩,
  ⟨(some 5), none, .mv (.t 6)⟩])
 (.cond (.t 5) .skip
 (.seq (.reg false [] [
  ⟨(some 7), none, .eq false .i (.t 4) (.c (.int .i64 (1)))⟩,
  ⟨(some 5), none, .mv (.t 7)⟩])
 (.cond (.t 5) .skip
 (.seq (.reg false [] [
  ⟨(some 8), none, .eq false .i (.t 4) (.c (.int .i64 (2)))⟩,
  ⟨(some 5), none, .mv (.t 8)⟩])
 (.cond (.t 5) .skip
 (.seq (.reg false [] [
  ⟨(some 9), none, .eq false .i (.t 4) (.c (.int .i64 (3)))⟩,
  ⟨(some 5), none, .mv (.t 9)⟩])
 (.cond (.t 5) .skip
 (.reg false [] [
  ⟨(some 10), none, .eq false .i (.t 4) (.c (.int .i64 (4)))⟩,
  ⟨(some 5), none, .mv (.t 10)⟩])))))))))
 (.cond (.t 5) (.seq (.reg false [] [
  ⟨(some 2), none, .mv (.c (.bool true))⟩])
 .ret)
 (.seq (.seq (.reg false [] [
  ⟨(some 12), none, .eq false .i (.t 4) (.c (.int .i64 (6)))⟩,
  ⟨(some 11), none, .mv (.t 12)⟩])
 (.cond (.t 11) .skip
 (.reg false [] [
  ⟨(some 13), none, .eq false .i (.t 4) (.c (.int .i64 (7)))⟩,
  ⟨(some 11), none, .mv (.t 13)⟩])))
 (.cond (.t 11) (.seq (.reg false [] [
  ⟨(some 14), none, .faddr 3 (.t 1)⟩,
  ⟨(some 15), none, .load none (.t 14)⟩,
  ⟨(some 16), none, .call (.c (.fn 95 [])) [(.t 15), (.c (.fn 102 []))]⟩,
  ⟨(some 17), none, .un .not (.t 16)⟩,
  ⟨(some 2), none, .mv (.t 17)⟩])
 .ret)
 .skip))))))
 (.seq (.reg false [] [
  ⟨(some 2), none, .mv (.c (.bool false))⟩])
 .ret)))⟩
theorem k94 : kFunc Try.prog Try.f94 = some F94 := by kernel_rfl

def F95 : RFunc := ⟨9, [.t 4], (.seq (.reg false [] [
  ⟨(some 4), none, .mv (.c (.bool false))⟩])
 (.seq (.reg false [] [
  ⟨(some 5), none, .mv (.t 0)⟩,
  ⟨(some 6), none, .mv (.t 1)⟩,
  ⟨(some 7), none, .call (.c (.fn 103 [])) [(.t 5), (.t 6)]⟩,
  ⟨(some 8), none, .bin .geq (.t 7) (.c (.int .i64 (0)))⟩,
  ⟨(some 4), none, .mv (.t 8)⟩])
 .ret))⟩
theorem k95 : kFunc Try.prog Try.f95 = some F95 := by kernel_rfl

def F96 : RFunc := ⟨8, [.t 3], (.seq (.reg false [] [
  ⟨(some 2), none, .box (.t 0)⟩,
  ⟨(some 3), none, .mv (.c (.bool false))⟩])
 (.seq (.reg false [] [
  ⟨(some 4), none, .load (some 4) (.t 2)⟩,
  ⟨(some 5), none, .load none (.t 1)⟩,
  ⟨(some 6), none, .call (.c (.fn 73 [])) [(.t 4), (.t 5)]⟩,
  ⟨(some 7), none, .un .not (.t 6)⟩,
  ⟨(some 3), none, .mv (.t 7)⟩])
 .ret))⟩
theorem k96 : kFunc Try.prog Try.f96 = some F96 := by kernel_rfl

def F97 : RFunc := ⟨9, [.t 2], (.seq (.reg false [] [
  ⟨(some 2), none, .mv (.c .nils)⟩])
 (.seq (.reg false [] [
  ⟨(some 3), none, .mv (.t 0)⟩,
  ⟨(some 4), none, .call (.c (.fn 59 [])) [(.t 3)]⟩,
  ⟨(some 0), none, .mv (.t 4)⟩])
 (.seq (.reg false [] [
  ⟨(some 5), none, .mv (.t 0)⟩,
  ⟨(some 6), none, .call (.c (.fn 104 [])) [(.t 5), (.c (.fn 105 []))]⟩])
 (.seq (.reg false [] [
  ⟨(some 7), none, .mv (.t 0)⟩,
  ⟨(some 8), none, .call (.c (.fn 106 [])) [(.t 7)]⟩,
  ⟨(some 2), none, .mv (.t 8)⟩])
 .ret))))⟩
theorem k97 : kFunc Try.prog Try.f97 = some F97 := by kernel_rfl

def F102 : RFunc := ⟨6, [.t 2], (.seq (.reg false [] [
  ⟨(some 1), none, .box (.t 0)⟩,
  ⟨(some 2), none, .mv (.c (.bool false))⟩])
 (.seq (.reg false [] [
  ⟨(some 3), none, .load (some 4) (.t 1)⟩,
  ⟨(some 4), none, .call (.c (.fn 94 [])) [(.t 3)]⟩,
  ⟨(some 5), none, .un .not (.t 4)⟩,
  ⟨(some 2), none, .mv (.t 5)⟩])
 .ret))⟩
theorem k102 : kFunc Try.prog Try.f102 = some F102 := by kernel_rfl

def F103 : RFunc := ⟨19, [.t 4], (.seq (.reg false [] [
  ⟨(some 4), none, .mv (.c (.int .i64 (0)))⟩])
 (.seq (.seq (.reg false [] [
  ⟨(some 6), none, .mv (.t 0)⟩,
  ⟨(some 7), none, .len 1 (.t 6)⟩,
  ⟨(some 8), none, .mv (.c (.int .i64 (0)))⟩])
 (.block 0 (.loop (.seq (.reg false [] [
  ⟨(some 9), none, .bin .lss (.t 8) (.t 7)⟩])
 (.seq (.cond (.t 9) .skip
 (.exit 0))
 (.seq (.block 1 (.seq (.reg false [] [
  ⟨(some 10), none, .mv (.t 8)⟩,
  ⟨(some 5), none, .mv (.t 10)⟩])
 (.seq (.reg false [] [
  ⟨(some 11), none, .mv (.t 1)⟩,
  ⟨(some 12), none, .mv (.t 0)⟩,
  ⟨(some 13), none, .mv (.t 5)⟩,
  ⟨(some 14), none, .iaS 4 (.t 12) (.t 13)⟩,
  ⟨(some 15), none, .load (some 4) (.t 14)⟩,
  ⟨(some 16), none, .call (.t 11) [(.t 15)]⟩])
 (.cond (.t 16) (.seq (.reg false [] [
  ⟨(some 17), none, .mv (.t 5)⟩,
  ⟨(some 4), none, .mv (.t 17)⟩])
 .ret)
 .skip))))
 (.reg false [] [
  ⟨(some 18), none, .bin .add (.t 8) (.c (.int .i64 (1)))⟩,
  ⟨(some 8), none, .mv (.t 18)⟩])))))))
 (.seq (.reg false [] [
  ⟨(some 4), none, .mv (.c (.int .i64 (-1)))⟩])
 .ret)))⟩
theorem k103 : kFunc Try.prog Try.f103 = some F103 := by kernel_rfl

def F104 : RFunc := ⟨14, [], (.seq (.reg false [] [
  ⟨(some 5), none, .mv (.t 0)⟩,
  ⟨(some 6), none, .len 1 (.t 5)⟩,
  ⟨(some 4), none, .mv (.t 6)⟩])
 (.reg false [] [
  ⟨(some 7), none, .mv (.t 0)⟩,
  ⟨(some 8), none, .mv (.t 4)⟩,
  ⟨(some 9), none, .mv (.t 4)⟩,
  ⟨(some 10), none, .conv .u64 (.t 9)⟩,
  ⟨(some 11), none, .call (.c (.fn 108 [])) [(.t 10)]⟩,
  ⟨(some 12), none, .mv (.t 1)⟩,
  ⟨(some 13), none, .call (.c (.fn 109 [])) [(.t 7), (.c (.int .i64 (0))), (.t 8), (.t 11), (.t 12)]⟩]))⟩
theorem k104 : kFunc Try.prog Try.f104 = some F104 := by kernel_rfl

def F105 : RFunc := ⟨21, [.t 4], (.seq (.reg false [] [
  ⟨(some 2), none, .box (.t 0)⟩,
  ⟨(some 3), none, .box (.t 1)⟩,
  ⟨(some 4), none, .mv (.c (.int .i64 (0)))⟩])
 (.seq (.seq (.reg false [] [
  ⟨(some 7), none, .mv (.c (.int .i64 (0)))⟩])
 (.block 0 (.loop (.seq (.reg false [] [
  ⟨(some 8), none, .bin .lss (.t 7) (.c (.int .i64 (8)))⟩])
 (.seq (.cond (.t 8) .skip
 (.exit 0))
 (.seq (.block 1 (.seq (.reg false [] [
  ⟨(some 9), none, .mv (.t 7)⟩,
  ⟨(some 5), none, .mv (.t 9)⟩])
 (.seq (.reg true [0, 1, 3, 0, 8, 24, 63, 127] [
  ⟨(some 10), none, .mv (.t 5)⟩,
  ⟨(some 11), none, .iaA 8 1 (.t 2) (.t 10)⟩,
  ⟨(some 12), none, .load none (.t 11)⟩,
  ⟨(some 13), none, .mv (.t 5)⟩,
  ⟨(some 14), none, .iaA 8 1 (.t 3) (.t 13)⟩,
  ⟨(some 15), none, .load none (.t 14)⟩,
  ⟨(some 16), none, .call (.c (.fn 110 [])) [(.t 12), (.t 15)]⟩,
  ⟨(some 6), none, .mv (.t 16)⟩])
 (.seq (.reg false [] [
  ⟨(some 17), none, .mv (.t 6)⟩,
  ⟨(some 18), none, .eq true .i (.t 17) (.c (.int .i64 (0)))⟩])
 (.cond (.t 18) (.seq (.reg false [] [
  ⟨(some 19), none, .mv (.t 6)⟩,
  ⟨(some 4), none, .mv (.t 19)⟩])
 .ret)
 .skip)))))
 (.reg false [] [
  ⟨(some 20), none, .bin .add (.t 7) (.c (.int .i64 (1)))⟩,
  ⟨(some 7), none, .mv (.t 20)⟩])))))))
 (.seq (.reg false [] [
  ⟨(some 4), none, .mv (.c (.int .i64 (0)))⟩])
 .ret)))⟩
theorem k105 : kFunc Try.prog Try.f105 = some F105 := by kernel_rfl

def F106 : RFunc := ⟨61, [.t 2], (.seq (.reg false [] [
  ⟨(some 2), none, .mv (.c .nils)⟩])
 (.seq (.seq (.reg false [] [
  ⟨(some 6), none, .mv (.t 0)⟩,
  ⟨(some 7), none, .len 1 (.t 6)⟩,
  ⟨(some 8), none, .bin .lss (.t 7) (.c (.int .i64 (2)))⟩])
 (.cond (.t 8) (.seq (.reg false [] [
  ⟨(some 9), none, .mv (.t 0)⟩,
  ⟨(some 2), none, .mv (.t 9)⟩])
 .ret)
 .skip))
 (.seq (.seq (.reg false [] [
  ⟨(some 3), none, .mv (.c (.int .i64 (1)))⟩])
 (.block 0 (.loop (.seq (.seq (.reg false [] [
  ⟨(some 10), none, .mv (.t 3)⟩,
  ⟨(some 11), none, .mv (.t 0)⟩,
  ⟨(some 12), none, .len 1 (.t 11)⟩,
  ⟨(some 13), none, .bin .lss (.t 10) (.t 12)⟩])
 (.cond (.t 13) .skip
 (.exit 0)))
 (.seq (.block 1 (.seq (.reg true [0, 0, 3, 7, 0, 0, 32, 112, 240, 511] [
  ⟨(some 16), none, .mv (.t 0)⟩,
  ⟨(some 17), none, .mv (.t 3)⟩,
  ⟨(some 18), none, .iaS 8 (.t 16) (.t 17)⟩,
  ⟨(some 19), none, .load (some 8) (.t 18)⟩,
  ⟨(some 20), none, .mv (.t 0)⟩,
  ⟨(some 21), none, .mv (.t 3)⟩,
  ⟨(some 22), none, .bin .sub (.t 21) (.c (.int .i64 (1)))⟩,
  ⟨(some 23), none, .iaS 8 (.t 20) (.t 22)⟩,
  ⟨(some 24), none, .load (some 8) (.t 23)⟩,
  ⟨(some 25), none, .eq false (.g 8) (.t 19) (.t 24)⟩])
 (.cond (.t 25) (.seq (.reg false [] [
  ⟨(some 26), none, .mv (.t 0)⟩,
  ⟨(some 27), none, .mv (.t 3)⟩,
  ⟨(some 28), none, .slc 8 (.t 26) (some (.t 27)) none⟩,
  ⟨(some 4), none, .mv (.t 28)⟩])
 (.seq (.seq (.reg false [] [
  ⟨(some 5), none, .mv (.c (.int .i64 (1)))⟩])
 (.block 2 (.loop (.seq (.seq (.reg false [] [
  ⟨(some 29), none, .mv (.t 5)⟩,
  ⟨(some 30), none, .mv (.t 4)⟩,
  ⟨(some 31), none, .len 1 (.t 30)⟩,
  ⟨(some 32), none, .bin .lss (.t 29) (.t 31)⟩])
 (.cond (.t 32) .skip
 (.exit 2)))
 (.seq (.block 3 (.seq (.reg true [0, 0, 3, 7, 0, 0, 32, 112, 240, 511] [
  ⟨(some 35), none, .mv (.t 4)⟩,
  ⟨(some 36), none, .mv (.t 5)⟩,
  ⟨(some 37), none, .iaS 8 (.t 35) (.t 36)⟩,
  ⟨(some 38), none, .load (some 8) (.t 37)⟩,
  ⟨(some 39), none, .mv (.t 4)⟩,
  ⟨(some 40), none, .mv (.t 5)⟩,
  ⟨(some 41), none, .bin .sub (.t 40) (.c (.int .i64 (1)))⟩,
  ⟨(some 42), none, .iaS 8 (.t 39) (.t 41)⟩,
  ⟨(some 43), none, .load (some 8) (.t 42)⟩,
  ⟨(some 44), none, .eq true (.g 8) (.t 38) (.t 43)⟩])
 (.cond (.t 44) (.seq (.reg false [] [
  ⟨(some 45), none, .mv (.t 0)⟩,
  ⟨(some 46), none, .mv (.t 3)⟩,
  ⟨(some 47), none, .mv (.t 4)⟩,
  ⟨(some 48), none, .mv (.t 5)⟩,
  ⟨(some 49), none, .iaS 8 (.t 47) (.t 48)⟩,
  ⟨(some 50), none, .load (some 8) (.t 49)⟩,
  ⟨(some 51), none, .iaS 8 (.t 45) (.t 46)⟩,
  ⟨none, none, .store 8 (.t 51) (.t 50)⟩])
 (.reg false [] [
  ⟨(some 52), none, .mv (.t 3)⟩,
  ⟨(some 53), none, .bin .add (.t 52) (.c (.int .i64 (1)))⟩,
  ⟨(some 3), none, .mv (.t 53)⟩]))
 .skip)))
 (.reg false [] [
  ⟨(some 33), none, .mv (.t 5)⟩,
  ⟨(some 34), none, .bin .add (.t 33) (.c (.int .i64 (1)))⟩,
  ⟨(some 5), none, .mv (.t 34)⟩]))))))
 (.seq (.reg false [] [
  ⟨(some 54), none, .mv (.t 0)⟩,
  ⟨(some 55), none, .mv (.t 3)⟩,
  ⟨(some 56), none, .slc 8 (.t 54) (some (.t 55)) none⟩,
  ⟨none, none, .clr 8 [(.int .u16 (0)), (.int .u16 (0)), (.int .u16 (0)), (.int .u16 (0)), (.int .u16 (0)), (.int .u16 (0)), (.int .u16 (0)), (.int .u16 (0))] (.t 56)⟩])
 (.seq (.reg false [] [
  ⟨(some 57), none, .mv (.t 0)⟩,
  ⟨(some 58), none, .mv (.t 3)⟩,
  ⟨(some 59), none, .slc 8 (.t 57) none (some (.t 58))⟩,
  ⟨(some 2), none, .mv (.t 59)⟩])
 .ret))))
 .skip)))
 (.reg false [] [
  ⟨(some 14), none, .mv (.t 3)⟩,
  ⟨(some 15), none, .bin .add (.t 14) (.c (.int .i64 (1)))⟩,
  ⟨(some 3), none, .mv (.t 15)⟩]))))))
 (.seq (.reg false [] [
  ⟨(some 60), none, .mv (.t 0)⟩,
  ⟨(some 2), none, .mv (.t 60)⟩])
 .ret))))⟩
theorem k106 : kFunc Try.prog Try.f106 = some F106 := by kernel_rfl

def F108 : RFunc := ⟨8, [.t 2], (.seq (.reg false [] [
  ⟨(some 2), none, .mv (.c (.int .i64 (0)))⟩])
 (.seq (.cond (.c (.bool false)) (.seq (.reg false [] [
  ⟨(some 3), none, .mv (.t 0)⟩,
  ⟨(some 4), none, .conv .u32 (.t 3)⟩,
  ⟨(some 5), none, .call (.c (.fn 120 [])) [(.t 4)]⟩,
  ⟨(some 2), none, .mv (.t 5)⟩])
 .ret)
 .skip)
 (.seq (.reg false [] [
  ⟨(some 6), none, .mv (.t 0)⟩,
  ⟨(some 7), none, .call (.c (.fn 121 [])) [(.t 6)]⟩,
  ⟨(some 2), none, .mv (.t 7)⟩])
 .ret)))⟩
theorem k108 : kFunc Try.prog Try.f108 = some F108 := by kernel_rfl

def F109 : RFunc := ⟨148, [], (.seq (.reg false [] [
  ⟨(some 10), none, .mv (.c (.bool true))⟩])
 (.seq (.reg false [] [
  ⟨(some 11), none, .mv (.c (.bool true))⟩])
 (.block 0 (.loop (.block 1 (.seq (.reg false [] [
  ⟨(some 21), none, .mv (.t 2)⟩,
  ⟨(some 22), none, .mv (.t 1)⟩,
  ⟨(some 23), none, .bin .sub (.t 21) (.t 22)⟩,
  ⟨(some 12), none, .mv (.t 23)⟩])
 (.seq (.seq (.reg false [] [
  ⟨(some 24), none, .mv (.t 12)⟩,
  ⟨(some 25), none, .bin .leq (.t 24) (.c (.int .i64 (12)))⟩])
 (.cond (.t 25) (.seq (.reg false [] [
  ⟨(some 26), none, .mv (.t 0)⟩,
  ⟨(some 27), none, .mv (.t 1)⟩,
  ⟨(some 28), none, .mv (.t 2)⟩,
  ⟨(some 29), none, .mv (.t 4)⟩,
  ⟨(some 30), none, .call (.c (.fn 122 [])) [(.t 26), (.t 27), (.t 28), (.t 29)]⟩])
 .ret)
 .skip))
 (.seq (.seq (.reg false [] [
  ⟨(some 31), none, .mv (.t 3)⟩,
  ⟨(some 32), none, .eq false .i (.t 31) (.c (.int .i64 (0)))⟩])
 (.cond (.t 32) (.seq (.reg false [] [
  ⟨(some 33), none, .mv (.t 0)⟩,
  ⟨(some 34), none, .mv (.t 1)⟩,
  ⟨(some 35), none, .mv (.t 2)⟩,
  ⟨(some 36), none, .mv (.t 4)⟩,
  ⟨(some 37), none, .call (.c (.fn 123 [])) [(.t 33), (.t 34), (.t 35), (.t 36)]⟩])
 .ret)
 .skip))
 (.seq (.seq (.reg false [] [
  ⟨(some 38), none, .mv (.t 10)⟩,
  ⟨(some 39), none, .un .not (.t 38)⟩])
 (.cond (.t 39) (.seq (.reg false [] [
  ⟨(some 40), none, .mv (.t 0)⟩,
  ⟨(some 41), none, .mv (.t 1)⟩,
  ⟨(some 42), none, .mv (.t 2)⟩,
  ⟨(some 43), none, .mv (.t 4)⟩,
  ⟨(some 44), none, .call (.c (.fn 124 [])) [(.t 40), (.t 41), (.t 42), (.t 43)]⟩])
 (.reg false [] [
  ⟨(some 45), none, .mv (.t 3)⟩,
  ⟨(some 46), none, .bin .sub (.t 45) (.c (.int .i64 (1)))⟩,
  ⟨(some 3), none, .mv (.t 46)⟩]))
 .skip))
 (.seq (.reg false [] [
  ⟨(some 48), none, .mv (.t 0)⟩,
  ⟨(some 49), none, .mv (.t 1)⟩,
  ⟨(some 50), none, .mv (.t 2)⟩,
  ⟨(some 51), none, .mv (.t 4)⟩,
  ⟨(some 52), none, .call (.c (.fn 125 [])) [(.t 48), (.t 49), (.t 50), (.t 51)]⟩,
  ⟨(some 47), none, .mv (.t 52)⟩,
  ⟨(some 53), none, .ext (.t 47) 0⟩,
  ⟨(some 54), none, .ext (.t 47) 1⟩,
  ⟨(some 13), none, .mv (.t 53)⟩,
  ⟨(some 14), none, .mv (.t 54)⟩])
 (.seq (.seq (.reg false [] [
  ⟨(some 55), none, .mv (.t 14)⟩,
  ⟨(some 56), none, .eq false .i (.t 55) (.c (.int .i64 (2)))⟩])
 (.cond (.t 56) (.seq (.reg false [] [
  ⟨(some 57), none, .mv (.t 0)⟩,
  ⟨(some 58), none, .mv (.t 1)⟩,
  ⟨(some 59), none, .mv (.t 2)⟩,
  ⟨(some 60), none, .mv (.t 4)⟩,
  ⟨(some 61), none, .call (.c (.fn 126 [])) [(.t 57), (.t 58), (.t 59), (.t 60)]⟩])
 (.seq (.reg false [] [
  ⟨(some 62), none, .mv (.t 2)⟩,
  ⟨(some 63), none, .bin .sub (.t 62) (.c (.int .i64 (1)))⟩,
  ⟨(some 64), none, .mv (.t 13)⟩,
  ⟨(some 65), none, .mv (.t 1)⟩,
  ⟨(some 66), none, .bin .sub (.t 64) (.t 65)⟩,
  ⟨(some 67), none, .bin .sub (.t 63) (.t 66)⟩,
  ⟨(some 13), none, .mv (.t 67)⟩])
 (.reg false [] [
  ⟨(some 14), none, .mv (.c (.int .i64 (1)))⟩])))
 .skip))
 (.seq (.seq (.reg false [] [
  ⟨(some 68), none, .mv (.t 10)⟩,
  ⟨(some 69), none, .mv (.t 68)⟩,
  ⟨(some 70), (some (69, true)), .mv (.t 11)⟩,
  ⟨(some 71), none, .pick (.t 69) (.t 70) (.c (.bool false))⟩,
  ⟨(some 72), none, .mv (.t 71)⟩,
  ⟨(some 73), (some (72, true)), .mv (.t 14)⟩,
  ⟨(some 74), (some (72, true)), .eq false .i (.t 73) (.c (.int .i64 (1)))⟩,
  ⟨(some 75), none, .pick (.t 72) (.t 74) (.c (.bool false))⟩])
 (.cond (.t 75) (.seq (.reg false [] [
  ⟨(some 76), none, .mv (.t 0)⟩,
  ⟨(some 77), none, .mv (.t 1)⟩,
  ⟨(some 78), none, .mv (.t 2)⟩,
  ⟨(some 79), none, .mv (.t 4)⟩,
  ⟨(some 80), none, .call (.c (.fn 127 [])) [(.t 76), (.t 77), (.t 78), (.t 79)]⟩])
 (.cond (.t 80) .ret
 .skip))
 .skip))
 (.seq (.seq (.reg true [0, 1, 3, 7, 7, 7, 39, 119, 247, 7, 7, 1543, 3591, 8191, 16383, 32767, 65535] [
  ⟨(some 81), none, .mv (.t 1)⟩,
  ⟨(some 82), none, .bin .gtr (.t 81) (.c (.int .i64 (0)))⟩,
  ⟨(some 83), none, .mv (.t 82)⟩,
  ⟨(some 84), (some (83, true)), .mv (.t 4)⟩,
  ⟨(some 85), (some (83, true)), .mv (.t 0)⟩,
  ⟨(some 86), (some (83, true)), .mv (.t 1)⟩,
  ⟨(some 87), (some (83, true)), .bin .sub (.t 86) (.c (.int .i64 (1)))⟩,
  ⟨(some 88), (some (83, true)), .iaS 8 (.t 85) (.t 87)⟩,
  ⟨(some 89), (some (83, true)), .load (some 8) (.t 88)⟩,
  ⟨(some 90), (some (83, true)), .mv (.t 0)⟩,
  ⟨(some 91), (some (83, true)), .mv (.t 13)⟩,
  ⟨(some 92), (some (83, true)), .iaS 8 (.t 90) (.t 91)⟩,
  ⟨(some 93), (some (83, true)), .load (some 8) (.t 92)⟩,
  ⟨(some 94), (some (83, true)), .call (.t 84) [(.t 89), (.t 93)]⟩,
  ⟨(some 95), (some (83, true)), .bin .lss (.t 94) (.c (.int .i64 (0)))⟩,
  ⟨(some 96), (some (83, true)), .un .not (.t 95)⟩,
  ⟨(some 97), none, .pick (.t 83) (.t 96) (.c (.bool false))⟩])
 (.cond (.t 97) (.seq (.reg false [] [
  ⟨(some 98), none, .mv (.t 0)⟩,
  ⟨(some 99), none, .mv (.t 1)⟩,
  ⟨(some 100), none, .mv (.t 2)⟩,
  ⟨(some 101), none, .mv (.t 13)⟩,
  ⟨(some 102), none, .mv (.t 4)⟩,
  ⟨(some 103), none, .call (.c (.fn 128 [])) [(.t 98), (.t 99), (.t 100), (.t 101), (.t 102)]⟩,
  ⟨(some 15), none, .mv (.t 103)⟩])
 (.seq (.reg false [] [
  ⟨(some 104), none, .mv (.t 15)⟩,
  ⟨(some 1), none, .mv (.t 104)⟩])
 (.exit 1)))
 .skip))
 (.seq (.reg false [] [
  ⟨(some 106), none, .mv (.t 0)⟩,
  ⟨(some 107), none, .mv (.t 1)⟩,
  ⟨(some 108), none, .mv (.t 2)⟩,
  ⟨(some 109), none, .mv (.t 13)⟩,
  ⟨(some 110), none, .mv (.t 4)⟩,
  ⟨(some 111), none, .call (.c (.fn 129 [])) [(.t 106), (.t 107), (.t 108), (.t 109), (.t 110)]⟩,
  ⟨(some 105), none, .mv (.t 111)⟩,
  ⟨(some 112), none, .ext (.t 105) 0⟩,
  ⟨(some 113), none, .ext (.t 105) 1⟩,
  ⟨(some 16), none, .mv (.t 112)⟩,
  ⟨(some 17), none, .mv (.t 113)⟩])
 (.seq (.reg false [] [
  ⟨(some 114), none, .mv (.t 17)⟩,
  ⟨(some 11), none, .mv (.t 114)⟩])
 (.seq (.reg false [] [
  ⟨(some 115), none, .mv (.t 16)⟩,
  ⟨(some 116), none, .mv (.t 1)⟩,
  ⟨(some 117), none, .bin .sub (.t 115) (.t 116)⟩,
  ⟨(some 118), none, .mv (.t 2)⟩,
  ⟨(some 119), none, .mv (.t 16)⟩,
  ⟨(some 120), none, .bin .sub (.t 118) (.t 119)⟩,
  ⟨(some 18), none, .mv (.t 117)⟩,
  ⟨(some 19), none, .mv (.t 120)⟩])
 (.seq (.reg false [] [
  ⟨(some 121), none, .mv (.t 12)⟩,
  ⟨(some 122), none, .bin .quo (.t 121) (.c (.int .i64 (8)))⟩,
  ⟨(some 20), none, .mv (.t 122)⟩])
 (.seq (.reg false [] [
  ⟨(some 123), none, .mv (.t 18)⟩,
  ⟨(some 124), none, .mv (.t 19)⟩,
  ⟨(some 125), none, .bin .lss (.t 123) (.t 124)⟩])
 (.cond (.t 125) (.seq (.reg false [] [
  ⟨(some 126), none, .mv (.t 18)⟩,
  ⟨(some 127), none, .mv (.t 20)⟩,
  ⟨(some 128), none, .bin .geq (.t 126) (.t 127)⟩,
  ⟨(some 10), none, .mv (.t 128)⟩])
 (.seq (.reg false [] [
  ⟨(some 129), none, .mv (.t 0)⟩,
  ⟨(some 130), none, .mv (.t 1)⟩,
  ⟨(some 131), none, .mv (.t 16)⟩,
  ⟨(some 132), none, .mv (.t 3)⟩,
  ⟨(some 133), none, .mv (.t 4)⟩,
  ⟨(some 134), none, .call (.c (.fn 109 [])) [(.t 129), (.t 130), (.t 131), (.t 132), (.t 133)]⟩])
 (.reg false [] [
  ⟨(some 135), none, .mv (.t 16)⟩,
  ⟨(some 136), none, .bin .add (.t 135) (.c (.int .i64 (1)))⟩,
  ⟨(some 1), none, .mv (.t 136)⟩])))
 (.seq (.reg false [] [
  ⟨(some 137), none, .mv (.t 19)⟩,
  ⟨(some 138), none, .mv (.t 20)⟩,
  ⟨(some 139), none, .bin .geq (.t 137) (.t 138)⟩,
  ⟨(some 10), none, .mv (.t 139)⟩])
 (.seq (.reg false [] [
  ⟨(some 140), none, .mv (.t 0)⟩,
  ⟨(some 141), none, .mv (.t 16)⟩,
  ⟨(some 142), none, .bin .add (.t 141) (.c (.int .i64 (1)))⟩,
  ⟨(some 143), none, .mv (.t 2)⟩,
  ⟨(some 144), none, .mv (.t 3)⟩,
  ⟨(some 145), none, .mv (.t 4)⟩,
  ⟨(some 146), none, .call (.c (.fn 109 [])) [(.t 140), (.t 142), (.t 143), (.t 144), (.t 145)]⟩])
 (.reg false [] [
  ⟨(some 147), none, .mv (.t 16)⟩,
  ⟨(some 2), none, .mv (.t 147)⟩]))))))))))))))))))))))⟩
theorem k109 : kFunc Try.prog Try.f109 = some F109 := by kernel_rfl

def F110 : RFunc := ⟨20, [.t 4], (.seq (.reg false [] [
  ⟨(some 4), none, .mv (.c (.int .i64 (0)))⟩])
 (.seq (.reg false [] [
  ⟨(some 7), none, .mv (.t 0)⟩,
  ⟨(some 8), none, .call (.c (.fn 130 [])) [(.t 7)]⟩,
  ⟨(some 5), none, .mv (.t 8)⟩])
 (.seq (.reg false [] [
  ⟨(some 9), none, .mv (.t 1)⟩,
  ⟨(some 10), none, .call (.c (.fn 130 [])) [(.t 9)]⟩,
  ⟨(some 6), none, .mv (.t 10)⟩])
 (.seq (.seq (.reg false [] [
  ⟨(some 11), none, .mv (.t 5)⟩])
 (.cond (.t 11) (.seq (.seq (.reg false [] [
  ⟨(some 12), none, .mv (.t 6)⟩])
 (.cond (.t 12) (.seq (.reg false [] [
  ⟨(some 4), none, .mv (.c (.int .i64 (0)))⟩])
 .ret)
 .skip))
 (.seq (.reg false [] [
  ⟨(some 4), none, .mv (.c (.int .i64 (-1)))⟩])
 .ret))
 .skip))
 (.seq (.seq (.reg false [] [
  ⟨(some 13), none, .mv (.t 6)⟩])
 (.cond (.t 13) (.seq (.reg false [] [
  ⟨(some 4), none, .mv (.c (.int .i64 (1)))⟩])
 .ret)
 .skip))
 (.seq (.seq (.reg false [] [
  ⟨(some 14), none, .mv (.t 0)⟩,
  ⟨(some 15), none, .mv (.t 1)⟩,
  ⟨(some 16), none, .bin .lss (.t 14) (.t 15)⟩])
 (.cond (.t 16) (.seq (.reg false [] [
  ⟨(some 4), none, .mv (.c (.int .i64 (-1)))⟩])
 .ret)
 .skip))
 (.seq (.seq (.reg false [] [
  ⟨(some 17), none, .mv (.t 0)⟩,
  ⟨(some 18), none, .mv (.t 1)⟩,
  ⟨(some 19), none, .bin .gtr (.t 17) (.t 18)⟩])
 (.cond (.t 19) (.seq (.reg false [] [
  ⟨(some 4), none, .mv (.c (.int .i64 (1)))⟩])
 .ret)
 .skip))
 (.seq (.reg false [] [
  ⟨(some 4), none, .mv (.c (.int .i64 (0)))⟩])
 .ret))))))))⟩
theorem k110 : kFunc Try.prog Try.f110 = some F110 := by kernel_rfl

def F120 : RFunc := ⟨19, [.t 2], (.seq (.reg false [] [
  ⟨(some 2), none, .mv (.c (.int .i64 (0)))⟩])
 (.seq (.seq (.reg false [] [
  ⟨(some 3), none, .mv (.t 0)⟩,
  ⟨(some 4), none, .bin .geq (.t 3) (.c (.int .u32 (65536)))⟩])
 (.cond (.t 4) (.seq (.reg false [] [
  ⟨(some 5), none, .mv (.t 0)⟩,
  ⟨(some 6), none, .bin .shr (.t 5) (.c (.int .u64 (16)))⟩,
  ⟨(some 0), none, .mv (.t 6)⟩])
 (.reg false [] [
  ⟨(some 2), none, .mv (.c (.int .i64 (16)))⟩]))
 .skip))
 (.seq (.seq (.reg false [] [
  ⟨(some 7), none, .mv (.t 0)⟩,
  ⟨(some 8), none, .bin .geq (.t 7) (.c (.int .u32 (256)))⟩])
 (.cond (.t 8) (.seq (.reg false [] [
  ⟨(some 9), none, .mv (.t 0)⟩,
  ⟨(some 10), none, .bin .shr (.t 9) (.c (.int .u64 (8)))⟩,
  ⟨(some 0), none, .mv (.t 10)⟩])
 (.reg false [] [
  ⟨(some 11), none, .mv (.t 2)⟩,
  ⟨(some 12), none, .bin .add (.t 11) (.c (.int .i64 (8)))⟩,
  ⟨(some 2), none, .mv (.t 12)⟩]))
 .skip))
 (.seq (.reg false [] [
  ⟨(some 13), none, .mv (.t 2)⟩,
  ⟨(some 14), none, .mv (.t 0)⟩,
  ⟨(some 15), none, .conv .u8 (.t 14)⟩,
  ⟨(some 16), none, .ixS (.c (.str ⟨#[0, 1, 2, 2, 3, 3, 3, 3, 4, 4, 4, 4, 4, 4, 4, 4, 5, 5, 5, 5, 5, 5, 5, 5, 5, 5, 5, 5, 5, 5, 5, 5, 6, 6, 6, 6, 6, 6, 6, 6, 6, 6, 6, 6, 6, 6, 6, 6, 6, 6, 6, 6, 6, 6, 6, 6, 6, 6, 6, 6, 6, 6, 6, 6, 7, 7, 7, 7, 7, 7, 7, 7, 7, 7, 7, 7, 7, 7, 7, 7, 7, 7, 7, 7, 7, 7, 7, 7, 7, 7, 7, 7, 7, 7, 7, 7, 7, 7, 7, 7, 7, 7, 7, 7, 7, 7, 7, 7, 7, 7, 7, 7, 7, 7, 7, 7, 7, 7, 7, 7, 7, 7, 7, 7, 7, 7, 7, 7, 8, 8, 8, 8, 8, 8, 8, 8, 8, 8, 8, 8, 8, 8, 8, 8, 8, 8, 8, 8, 8, 8, 8, 8, 8, 8, 8, 8, 8, 8, 8, 8, 8, 8, 8, 8, 8, 8, 8, 8, 8, 8, 8, 8, 8, 8, 8, 8, 8, 8, 8, 8, 8, 8, 8, 8, 8, 8, 8, 8, 8, 8, 8, 8, 8, 8, 8, 8, 8, 8, 8, 8, 8, 8, 8, 8, 8, 8, 8, 8, 8, 8, 8, 8, 8, 8, 8, 8, 8, 8, 8, 8, 8, 8, 8, 8, 8, 8, 8, 8, 8, 8, 8, 8, 8, 8, 8, 8, 8, 8, 8, 8, 8, 8, 8, 8, 8, 8, 8, 8, 8, 8, 8, 8, 8, 8, 8, 8]⟩)) (.t 15)⟩,
  ⟨(some 17), none, .conv .i64 (.t 16)⟩,
  ⟨(some 18), none, .bin .add (.t 13) (.t 17)⟩,
  ⟨(some 2), none, .mv (.t 18)⟩])
 .ret))))⟩
theorem k120 : kFunc Try.prog Try.f120 = some F120 := by kernel_rfl

def F121 : RFunc := ⟨25, [.t 2], (.seq (.reg false [] [
  ⟨(some 2), none, .mv (.c (.int .i64 (0)))⟩])
 (.seq (.seq (.reg false [] [
  ⟨(some 3), none, .mv (.t 0)⟩,
  ⟨(some 4), none, .bin .geq (.t 3) (.c (.int .u64 (4294967296)))⟩])
 (.cond (.t 4) (.seq (.reg false [] [
  ⟨(some 5), none, .mv (.t 0)⟩,
  ⟨(some 6), none, .bin .shr (.t 5) (.c (.int .u64 (32)))⟩,
  ⟨(some 0), none, .mv (.t 6)⟩])
 (.reg false [] [
  ⟨(some 2), none, .mv (.c (.int .i64 (32)))⟩]))
 .skip))
 (.seq (.seq (.reg false [] [
  ⟨(some 7), none, .mv (.t 0)⟩,
  ⟨(some 8), none, .bin .geq (.t 7) (.c (.int .u64 (65536)))⟩])
 (.cond (.t 8) (.seq (.reg false [] [
  ⟨(some 9), none, .mv (.t 0)⟩,
  ⟨(some 10), none, .bin .shr (.t 9) (.c (.int .u64 (16)))⟩,
  ⟨(some 0), none, .mv (.t 10)⟩])
 (.reg false [] [
  ⟨(some 11), none, .mv (.t 2)⟩,
  ⟨(some 12), none, .bin .add (.t 11) (.c (.int .i64 (16)))⟩,
  ⟨(some 2), none, .mv (.t 12)⟩]))
 .skip))
 (.seq (.seq (.reg false [] [
  ⟨(some 13), none, .mv (.t 0)⟩,
  ⟨(some 14), none, .bin .geq (.t 13) (.c (.int .u64 (256)))⟩])
 (.cond (.t 14) (.seq (.reg false [] [
  ⟨(some 15), none, .mv (.t 0)⟩,
  ⟨(some 16), none, .bin .shr (.t 15) (.c (.int .u64 (8)))⟩,
  ⟨(some 0), none, .mv (.t 16)⟩])
 (.reg false [] [
  ⟨(some 17), none, .mv (.t 2)⟩,
  ⟨(some 18), none, .bin .add (.t 17) (.c (.int .i64 (8)))⟩,
  ⟨(some 2), none, .mv (.t 18)⟩]))
 .skip))
 (.seq (.reg false [] [
  ⟨(some 19), none, .mv (.t 2)⟩,
  ⟨(some 20), none, .mv (.t 0)⟩,
  ⟨(some 21), none, .conv .u8 (.t 20)⟩,
  ⟨(some 22), none, .ixS (.c (.str ⟨#[0, 1, 2, 2, 3, 3, 3, 3, 4, 4, 4, 4, 4, 4, 4, 4, 5, 5, 5, 5, 5, 5, 5, 5, 5, 5, 5, 5, 5, 5, 5, 5, 6, 6, 6, 6, 6, 6, 6, 6, 6, 6, 6, 6, 6, 6, 6, 6, 6, 6, 6, 6, 6, 6, 6, 6, 6, 6, 6, 6, 6, 6, 6, 6, 7, 7, 7, 7, 7, 7, 7, 7, 7, 7, 7, 7, 7, 7, 7, 7, 7, 7, 7, 7, 7, 7, 7, 7, 7, 7, 7, 7, 7, 7, 7, 7, 7, 7, 7, 7, 7, 7, 7, 7, 7, 7, 7, 7, 7, 7, 7, 7, 7, 7, 7, 7, 7, 7, 7, 7, 7, 7, 7, 7, 7, 7, 7, 7, 8, 8, 8, 8, 8, 8, 8, 8, 8, 8, 8, 8, 8, 8, 8, 8, 8, 8, 8, 8, 8, 8, 8, 8, 8, 8, 8, 8, 8, 8, 8, 8, 8, 8, 8, 8, 8, 8, 8, 8, 8, 8, 8, 8, 8, 8, 8, 8, 8, 8, 8, 8, 8, 8, 8, 8, 8, 8, 8, 8, 8, 8, 8, 8, 8, 8, 8, 8, 8, 8, 8, 8, 8, 8, 8, 8, 8, 8, 8, 8, 8, 8, 8, 8, 8, 8, 8, 8, 8, 8, 8, 8, 8, 8, 8, 8, 8, 8, 8, 8, 8, 8, 8, 8, 8, 8, 8, 8, 8, 8, 8, 8, 8, 8, 8, 8, 8, 8, 8, 8, 8, 8, 8, 8, 8, 8, 8, 8]⟩)) (.t 21)⟩,
  ⟨(some 23), none, .conv .i64 (.t 22)⟩,
  ⟨(some 24), none, .bin .add (.t 19) (.t 23)⟩,
  ⟨(some 2), none, .mv (.t 24)⟩])
 .ret)))))⟩
theorem k121 : kFunc Try.prog Try.f121 = some F121 := by kernel_rfl

def F122 : RFunc := ⟨53, [], (.seq (.reg false [] [
  ⟨(some 10), none, .mv (.t 1)⟩,
  ⟨(some 11), none, .bin .add (.t 10) (.c (.int .i64 (1)))⟩,
  ⟨(some 8), none, .mv (.t 11)⟩])
 (.block 0 (.loop (.seq (.seq (.reg false [] [
  ⟨(some 12), none, .mv (.t 8)⟩,
  ⟨(some 13), none, .mv (.t 2)⟩,
  ⟨(some 14), none, .bin .lss (.t 12) (.t 13)⟩])
 (.cond (.t 14) .skip
 (.exit 0)))
 (.seq (.block 1 (.seq (.reg false [] [
  ⟨(some 17), none, .mv (.t 8)⟩,
  ⟨(some 9), none, .mv (.t 17)⟩])
 (.block 2 (.loop (.seq (.seq (.reg true [0, 0, 3, 7, 15, 15, 15, 111, 239, 15, 15, 1039, 3599, 7695, 16383, 32767, 65535] [
  ⟨(some 18), none, .mv (.t 9)⟩,
  ⟨(some 19), none, .mv (.t 1)⟩,
  ⟨(some 20), none, .bin .gtr (.t 18) (.t 19)⟩,
  ⟨(some 21), none, .mv (.t 20)⟩,
  ⟨(some 22), (some (21, true)), .mv (.t 3)⟩,
  ⟨(some 23), (some (21, true)), .mv (.t 0)⟩,
  ⟨(some 24), (some (21, true)), .mv (.t 9)⟩,
  ⟨(some 25), (some (21, true)), .iaS 8 (.t 23) (.t 24)⟩,
  ⟨(some 26), (some (21, true)), .load (some 8) (.t 25)⟩,
  ⟨(some 27), (some (21, true)), .mv (.t 0)⟩,
  ⟨(some 28), (some (21, true)), .mv (.t 9)⟩,
  ⟨(some 29), (some (21, true)), .bin .sub (.t 28) (.c (.int .i64 (1)))⟩,
  ⟨(some 30), (some (21, true)), .iaS 8 (.t 27) (.t 29)⟩,
  ⟨(some 31), (some (21, true)), .load (some 8) (.t 30)⟩,
  ⟨(some 32), (some (21, true)), .call (.t 22) [(.t 26), (.t 31)]⟩,
  ⟨(some 33), (some (21, true)), .bin .lss (.t 32) (.c (.int .i64 (0)))⟩,
  ⟨(some 34), none, .pick (.t 21) (.t 33) (.c (.bool false))⟩])
 (.cond (.t 34) .skip
 (.exit 2)))
 (.seq (.block 3 (.reg true [0, 0, 0, 0, 8, 0, 0, 64, 224, 480, 0, 0, 3072, 7168, 16355, 32739, 65535, 131071] [
  ⟨(some 37), none, .mv (.t 0)⟩,
  ⟨(some 38), none, .mv (.t 9)⟩,
  ⟨(some 39), none, .mv (.t 0)⟩,
  ⟨(some 40), none, .mv (.t 9)⟩,
  ⟨(some 41), none, .bin .sub (.t 40) (.c (.int .i64 (1)))⟩,
  ⟨(some 42), none, .mv (.t 0)⟩,
  ⟨(some 43), none, .mv (.t 9)⟩,
  ⟨(some 44), none, .bin .sub (.t 43) (.c (.int .i64 (1)))⟩,
  ⟨(some 45), none, .iaS 8 (.t 42) (.t 44)⟩,
  ⟨(some 46), none, .load (some 8) (.t 45)⟩,
  ⟨(some 47), none, .mv (.t 0)⟩,
  ⟨(some 48), none, .mv (.t 9)⟩,
  ⟨(some 49), none, .iaS 8 (.t 47) (.t 48)⟩,
  ⟨(some 50), none, .load (some 8) (.t 49)⟩,
  ⟨(some 51), none, .iaS 8 (.t 37) (.t 38)⟩,
  ⟨none, none, .store 8 (.t 51) (.t 46)⟩,
  ⟨(some 52), none, .iaS 8 (.t 39) (.t 41)⟩,
  ⟨none, none, .store 8 (.t 52) (.t 50)⟩]))
 (.reg false [] [
  ⟨(some 35), none, .mv (.t 9)⟩,
  ⟨(some 36), none, .bin .sub (.t 35) (.c (.int .i64 (1)))⟩,
  ⟨(some 9), none, .mv (.t 36)⟩])))))))
 (.reg false [] [
  ⟨(some 15), none, .mv (.t 8)⟩,
  ⟨(some 16), none, .bin .add (.t 15) (.c (.int .i64 (1)))⟩,
  ⟨(some 8), none, .mv (.t 16)⟩]))))))⟩
theorem k122 : kFunc Try.prog Try.f122 = some F122 := by kernel_rfl

def F130 : RFunc := ⟨6, [.t 2], (.seq (.reg false [] [
  ⟨(some 2), none, .mv (.c (.bool false))⟩])
 (.seq (.reg false [] [
  ⟨(some 3), none, .mv (.t 0)⟩,
  ⟨(some 4), none, .mv (.t 0)⟩,
  ⟨(some 5), none, .eq true .i (.t 3) (.t 4)⟩,
  ⟨(some 2), none, .mv (.t 5)⟩])
 .ret))⟩
theorem k130 : kFunc Try.prog Try.f130 = some F130 := by kernel_rfl

end Go.Proofs.Ytoeeiaconpagaaa
