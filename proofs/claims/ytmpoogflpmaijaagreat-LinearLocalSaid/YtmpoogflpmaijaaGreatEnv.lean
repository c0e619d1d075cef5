/- Part of the proofs of laws of this seat: contracts and plain lemmas; no condition is added to a statement. -/
import Derived.Test.YtmpoogflpmaijaaGreatAmE
import Derived.Test.YtmpoogflpmaijaaGreatProg
import Derived.KernelRfl
set_option linter.unusedSimpArgs false
set_option linter.unusedVariables false
namespace Go.Proofs
open Go.Am
def Γ : Env := [
  (1, ⟨.fn, 1, 8, [.f]⟩),
  (2, ⟨.int .i64, 1, 8, [.i .i64]⟩),
  (3, ⟨.int .i64, 1, 8, [.i .i64]⟩),
  (4, ⟨.bool, 1, 1, [.b]⟩),
  (5, ⟨.int .u8, 1, 1, [.i .u8]⟩),
  (6, ⟨.int .u8, 1, 1, [.i .u8]⟩),
  (7, ⟨.strct [(0, 2), (1, 3), (2, 4), (3, 6)], 4, 24, [.i .i64, .i .i64, .b, .i .u8]⟩),
  (8, ⟨.strct [(0, 2), (1, 3), (2, 4), (3, 6)], 4, 24, [.i .i64, .i .i64, .b, .i .u8]⟩),
  (9, ⟨.str, 1, 16, [.s]⟩),
  (10, ⟨.str, 1, 16, [.s]⟩),
  (11, ⟨.str, 1, 16, [.s]⟩),
  (12, ⟨.int .u64, 1, 8, [.i .u64]⟩),
  (15, ⟨.ptr 192, 1, 8, [.p]⟩),
  (16, ⟨.ptr 195, 1, 8, [.p]⟩),
  (17, ⟨.ptr 202, 1, 8, [.p]⟩),
  (18, ⟨.strct [(0, 17)], 1, 8, [.p]⟩),
  (19, ⟨.strct [(0, 17)], 1, 8, [.p]⟩),
  (21, ⟨.int .i32, 1, 4, [.i .i32]⟩),
  (22, ⟨.slice 3, 1, 24, [.sl]⟩),
  (23, ⟨.fn, 1, 8, [.f]⟩),
  (24, ⟨.fn, 1, 8, [.f]⟩),
  (25, ⟨.slice 52, 1, 24, [.sl]⟩),
  (26, ⟨.fn, 1, 8, [.f]⟩),
  (27, ⟨.slice 9, 1, 24, [.sl]⟩),
  (28, ⟨.fn, 1, 8, [.f]⟩),
  (30, ⟨.fn, 1, 8, [.f]⟩),
  (31, ⟨.int .i64, 1, 8, [.i .i64]⟩),
  (32, ⟨.fn, 1, 8, [.f]⟩),
  (33, ⟨.fn, 1, 8, [.f]⟩),
  (34, ⟨.fn, 1, 8, [.f]⟩),
  (35, ⟨.fn, 1, 8, [.f]⟩),
  (36, ⟨.fn, 1, 8, [.f]⟩),
  (37, ⟨.fn, 1, 8, [.f]⟩),
  (38, ⟨.fn, 1, 8, [.f]⟩),
  (39, ⟨.fn, 1, 8, [.f]⟩),
  (41, ⟨.fn, 1, 8, [.f]⟩),
  (42, ⟨.fn, 1, 8, [.f]⟩),
  (43, ⟨.fn, 1, 8, [.f]⟩),
  (44, ⟨.fn, 1, 8, [.f]⟩),
  (45, ⟨.fn, 1, 8, [.f]⟩),
  (46, ⟨.slice 5, 1, 24, [.sl]⟩),
  (47, ⟨.strct [(0, 3), (1, 3), (2, 9)], 3, 32, [.i .i64, .i .i64, .s]⟩),
  (48, ⟨.strct [(0, 3), (1, 3), (2, 9)], 3, 32, [.i .i64, .i .i64, .s]⟩),
  (49, ⟨.strct [(0, 31), (1, 9)], 2, 24, [.i .i64, .s]⟩),
  (50, ⟨.strct [(0, 31), (1, 9)], 2, 24, [.i .i64, .s]⟩),
  (51, ⟨.strct [(0, 4), (1, 3), (2, 3), (3, 48), (6, 50)], 8, 80, [.b, .i .i64, .i .i64, .i .i64, .i .i64, .s, .i .i64, .s]⟩),
  (52, ⟨.strct [(0, 4), (1, 3), (2, 3), (3, 48), (6, 50)], 8, 80, [.b, .i .i64, .i .i64, .i .i64, .i .i64, .s, .i .i64, .s]⟩),
  (53, ⟨.fn, 1, 8, [.f]⟩),
  (54, ⟨.ptr 97, 1, 8, [.p]⟩),
  (55, ⟨.fn, 1, 8, [.f]⟩),
  (56, ⟨.map (.c (some .i64)) 3 4, 1, 8, [.m]⟩),
  (57, ⟨.fn, 1, 8, [.f]⟩),
  (58, ⟨.fn, 1, 8, [.f]⟩),
  (60, ⟨.fn, 1, 8, [.f]⟩),
  (61, ⟨.fn, 1, 8, [.f]⟩),
  (62, ⟨.fn, 1, 8, [.f]⟩),
  (63, ⟨.slice 22, 1, 24, [.sl]⟩),
  (64, ⟨.fn, 1, 8, [.f]⟩),
  (65, ⟨.fn, 1, 8, [.f]⟩),
  (66, ⟨.fn, 1, 8, [.f]⟩),
  (67, ⟨.strct [(0, 3), (1, 3), (2, 3), (3, 3), (4, 3), (5, 3)], 6, 48, [.i .i64, .i .i64, .i .i64, .i .i64, .i .i64, .i .i64]⟩),
  (68, ⟨.strct [(0, 3), (1, 3), (2, 3), (3, 3), (4, 3), (5, 3)], 6, 48, [.i .i64, .i .i64, .i .i64, .i .i64, .i .i64, .i .i64]⟩),
  (69, ⟨.fn, 1, 8, [.f]⟩),
  (70, ⟨.fn, 1, 8, [.f]⟩),
  (71, ⟨.fn, 1, 8, [.f]⟩),
  (73, ⟨.fn, 1, 8, [.f]⟩),
  (74, ⟨.fn, 1, 8, [.f]⟩),
  (75, ⟨.map (.c (some .i64)) 3 52, 1, 8, [.m]⟩),
  (76, ⟨.fn, 1, 8, [.f]⟩),
  (77, ⟨.ptr 95, 1, 8, [.p]⟩),
  (78, ⟨.fn, 1, 8, [.f]⟩),
  (79, ⟨.fn, 1, 8, [.f]⟩),
  (80, ⟨.strct [(0, 3), (1, 9)], 2, 24, [.i .i64, .s]⟩),
  (81, ⟨.strct [(0, 3), (1, 9)], 2, 24, [.i .i64, .s]⟩),
  (82, ⟨.ptr 88, 1, 8, [.p]⟩),
  (84, ⟨.fn, 1, 8, [.f]⟩),
  (85, ⟨.map (.a [some .i64, none]) 91 4, 1, 8, [.m]⟩),
  (86, ⟨.map (.c none) 9 22, 1, 8, [.m]⟩),
  (87, ⟨.strct [(0, 25), (1, 22), (2, 3), (3, 85), (4, 86), (5, 4)], 6, 80, [.sl, .sl, .i .i64, .m, .m, .b]⟩),
  (88, ⟨.strct [(0, 25), (1, 22), (2, 3), (3, 85), (4, 86), (5, 4)], 6, 80, [.sl, .sl, .i .i64, .m, .m, .b]⟩),
  (89, ⟨.fn, 1, 8, [.f]⟩),
  (90, ⟨.strct [(0, 3), (1, 9)], 2, 24, [.i .i64, .s]⟩),
  (91, ⟨.strct [(0, 3), (1, 9)], 2, 24, [.i .i64, .s]⟩),
  (92, ⟨.fn, 1, 8, [.f]⟩),
  (93, ⟨.map (.a [some .i64, none]) 81 4, 1, 8, [.m]⟩),
  (94, ⟨.strct [(0, 25), (1, 22), (2, 93), (3, 27)], 4, 80, [.sl, .sl, .m, .sl]⟩),
  (95, ⟨.strct [(0, 25), (1, 22), (2, 93), (3, 27)], 4, 80, [.sl, .sl, .m, .sl]⟩),
  (96, ⟨.strct [(0, 22), (1, 3)], 2, 32, [.sl, .i .i64]⟩),
  (97, ⟨.strct [(0, 22), (1, 3)], 2, 32, [.sl, .i .i64]⟩),
  (98, ⟨.fn, 1, 8, [.f]⟩),
  (99, ⟨.fn, 1, 8, [.f]⟩),
  (100, ⟨.fn, 1, 8, [.f]⟩),
  (101, ⟨.fn, 1, 8, [.f]⟩),
  (102, ⟨.map (.c (some .i64)) 3 3, 1, 8, [.m]⟩),
  (103, ⟨.fn, 1, 8, [.f]⟩),
  (105, ⟨.fn, 1, 8, [.f]⟩),
  (106, ⟨.fn, 1, 8, [.f]⟩),
  (107, ⟨.fn, 1, 8, [.f]⟩),
  (108, ⟨.fn, 1, 8, [.f]⟩),
  (109, ⟨.fn, 1, 8, [.f]⟩),
  (110, ⟨.fn, 1, 8, [.f]⟩),
  (111, ⟨.fn, 1, 8, [.f]⟩),
  (112, ⟨.fn, 1, 8, [.f]⟩),
  (113, ⟨.int .u64, 1, 8, [.i .u64]⟩),
  (115, ⟨.fn, 1, 8, [.f]⟩),
  (116, ⟨.fn, 1, 8, [.f]⟩),
  (118, ⟨.fn, 1, 8, [.f]⟩),
  (119, ⟨.fn, 1, 8, [.f]⟩),
  (120, ⟨.fn, 1, 8, [.f]⟩),
  (121, ⟨.fn, 1, 8, [.f]⟩),
  (122, ⟨.fn, 1, 8, [.f]⟩),
  (123, ⟨.fn, 1, 8, [.f]⟩),
  (125, ⟨.int .u64, 1, 8, [.i .u64]⟩),
  (126, ⟨.strct [(0, 17), (1, 124), (2, 125)], 3, 24, [.p, .p, .i .u64]⟩),
  (127, ⟨.strct [(0, 17), (1, 124), (2, 125)], 3, 24, [.p, .p, .i .u64]⟩),
  (128, ⟨.fn, 1, 8, [.f]⟩),
  (129, ⟨.fn, 1, 8, [.f]⟩),
  (130, ⟨.fn, 1, 8, [.f]⟩),
  (131, ⟨.fn, 1, 8, [.f]⟩),
  (132, ⟨.fn, 1, 8, [.f]⟩),
  (133, ⟨.strct [(0, 109), (1, 129)], 2, 16, [.f, .f]⟩),
  (134, ⟨.strct [(0, 109), (1, 129)], 2, 16, [.f, .f]⟩),
  (135, ⟨.fn, 1, 8, [.f]⟩),
  (136, ⟨.fn, 1, 8, [.f]⟩),
  (137, ⟨.fn, 1, 8, [.f]⟩),
  (138, ⟨.strct [(0, 17)], 1, 8, [.p]⟩),
  (139, ⟨.strct [(0, 17)], 1, 8, [.p]⟩),
  (140, ⟨.ptr 204, 1, 8, [.p]⟩),
  (141, ⟨.fn, 1, 8, [.f]⟩),
  (142, ⟨.int .u32, 1, 4, [.i .u32]⟩),
  (143, ⟨.fn, 1, 8, [.f]⟩),
  (144, ⟨.int .u64, 1, 8, [.i .u64]⟩),
  (145, ⟨.fn, 1, 8, [.f]⟩),
  (146, ⟨.int .i64, 1, 8, [.i .i64]⟩),
  (148, ⟨.fn, 1, 8, [.f]⟩),
  (149, ⟨.fn, 1, 8, [.f]⟩),
  (150, ⟨.fn, 1, 8, [.f]⟩),
  (151, ⟨.fn, 1, 8, [.f]⟩),
  (153, ⟨.fn, 1, 8, [.f]⟩),
  (154, ⟨.fn, 1, 8, [.f]⟩),
  (155, ⟨.ptr 157, 1, 8, [.p]⟩),
  (156, ⟨.strct [(0, 155), (1, 46)], 2, 32, [.p, .sl]⟩),
  (157, ⟨.strct [(0, 155), (1, 46)], 2, 32, [.p, .sl]⟩),
  (158, ⟨.fn, 1, 8, [.f]⟩),
  (162, ⟨.fn, 1, 8, [.f]⟩),
  (163, ⟨.fn, 1, 8, [.f]⟩),
  (164, ⟨.int .i64, 1, 8, [.i .i64]⟩),
  (166, ⟨.fn, 1, 8, [.f]⟩),
  (167, ⟨.fn, 1, 8, [.f]⟩),
  (168, ⟨.fn, 1, 8, [.f]⟩),
  (169, ⟨.fn, 1, 8, [.f]⟩),
  (170, ⟨.int .u64, 1, 8, [.i .u64]⟩),
  (171, ⟨.fn, 1, 8, [.f]⟩),
  (172, ⟨.fn, 1, 8, [.f]⟩),
  (173, ⟨.fn, 1, 8, [.f]⟩),
  (174, ⟨.ptr 3, 1, 8, [.p]⟩),
  (175, ⟨.fn, 1, 8, [.f]⟩),
  (177, ⟨.fn, 1, 8, [.f]⟩),
  (179, ⟨.fn, 1, 8, [.f]⟩),
  (180, ⟨.ptr 5, 1, 8, [.p]⟩),
  (181, ⟨.int .u64, 1, 8, [.i .u64]⟩),
  (182, ⟨.fn, 1, 8, [.f]⟩),
  (183, ⟨.fn, 1, 8, [.f]⟩),
  (184, ⟨.fn, 1, 8, [.f]⟩),
  (185, ⟨.ptr 170, 1, 8, [.p]⟩),
  (186, ⟨.fn, 1, 8, [.f]⟩),
  (187, ⟨.fn, 1, 8, [.f]⟩),
  (188, ⟨.fn, 1, 8, [.f]⟩),
  (189, ⟨.ptr 181, 1, 8, [.p]⟩),
  (190, ⟨.fn, 1, 8, [.f]⟩),
  (191, ⟨.strct [(0, 17), (1, 17), (2, 17), (3, 9)], 4, 40, [.p, .p, .p, .s]⟩),
  (192, ⟨.strct [(0, 17), (1, 17), (2, 17), (3, 9)], 4, 40, [.p, .p, .p, .s]⟩),
  (193, ⟨.arr 0 16, 0, 0, []⟩),
  (196, ⟨.int .u8, 1, 1, [.i .u8]⟩),
  (197, ⟨.int .u8, 1, 1, [.i .u8]⟩),
  (198, ⟨.fn, 1, 8, [.f]⟩),
  (199, ⟨.int .i32, 1, 4, [.i .i32]⟩),
  (200, ⟨.int .i32, 1, 4, [.i .i32]⟩),
  (201, ⟨.strct [(0, 12), (1, 12), (2, 142), (3, 196), (4, 5), (5, 5), (6, 197), (7, 198), (8, 180), (9, 199), (10, 200)], 11, 48, [.i .u64, .i .u64, .i .u32, .i .u8, .i .u8, .i .u8, .i .u8, .f, .p, .i .i32, .i .i32]⟩),
  (202, ⟨.strct [(0, 12), (1, 12), (2, 142), (3, 196), (4, 5), (5, 5), (6, 197), (7, 198), (8, 180), (9, 199), (10, 200)], 11, 48, [.i .u64, .i .u64, .i .u32, .i .u8, .i .u8, .i .u8, .i .u8, .f, .p, .i .i32, .i .i32]⟩)]
-- fn 0 main.main
-- fn 1 gosem.cut
-- fn 2 gosem.cut.init
-- fn 3 zoneappend/zoneappendlaw19.LinearMade
-- fn 4 zoneappend/zoneappendlaw19.LinearFinds
-- fn 5 zoneappend/zoneappendlaw19.LinearRaw
-- fn 6 zoneappend/zoneappendlaw19.LinearLocal
-- fn 7 zoneappend/zoneappendmake.Light
-- fn 8 zoneappend/zoneappendlaw19.awake
-- fn 9 zoneappend/zoneappendlaw19.events
-- fn 10 zoneappend/zoneappendref17.New
-- fn 11 zoneappend/linear.Find
-- fn 12 zoneappend/zoneappendref19.Check
-- fn 13 zoneappend/zoneappendmake.Mod
-- fn 14 zoneappend/linear.Check
-- fn 15 zoneappend/zoneappendref19.Block
-- fn 16 zoneappend/linear.Block
-- fn 17 zoneappend/zoneappendref17.Same
-- fn 18 zoneappend/linear.Values
-- fn 19 zoneappend/zoneappendref19.Values
-- fn 20 zoneappend/zoneappendlaw19.light
-- fn 21 zoneappend/zoneappendref19.Can
-- fn 22 zoneappend/zoneappendref18.Restrict
-- fn 23 zoneappend/zoneappendmake.Value
-- fn 24 zoneappend/zoneappendlaw19.answered
-- fn 25 zoneappend/zoneappendmake.Roll
-- fn 26 (*zoneappend/zoneappendmake.Dice).Rest
-- fn 27 (*zoneappend/zoneappendmake.Dice).Next
-- fn 28 zoneappend/zoneappendref17.Apply
-- fn 29 zoneappend/zoneappendref15.Zero
-- fn 30 zoneappend/linear.base
-- fn 31 zoneappend/history.Restrict
-- fn 32 zoneappend/history.Operations
-- fn 33 zoneappend/linear.counts
-- fn 34 zoneappend/command.Check
-- fn 35 zoneappend/linear.merge
-- fn 36 zoneappend/linear.order
-- fn 37 zoneappend/zoneappendref19.Sizes
-- fn 38 zoneappend/zoneappendref18.Operations
-- fn 39 zoneappend/zoneappendref19.has
-- fn 40 zoneappend/zoneappendref19.operation
-- fn 41 zoneappend/zoneappendref18.Before
-- fn 42 zoneappend/history.Before
-- fn 43 zoneappend/model.Apply
-- fn 44 zoneappend/zoneappendref19.Single
-- fn 45 zoneappend/zoneappendref19.start
-- fn 46 (*zoneappend/zoneappendref19.search).visit
-- fn 47 zoneappend/linear.start
-- fn 48 (*zoneappend/linear.search).walk
-- fn 49 sort.Strings
-- fn 50 zoneappend/zoneappendref19.alone
-- fn 51 zoneappend/zoneappendref15.Check
-- fn 52 zoneappend/zoneappendref17.with
-- fn 53 zoneappend/history.Check
-- fn 54 slices.Clone[[]zoneappend/api.Event,zoneappend/api.Event]
-- fn 55 slices.DeleteFunc[[]zoneappend/api.Event,zoneappend/api.Event]
-- fn 56 zoneappend/history.Restrict$1
-- fn 57 zoneappend/history.places
-- fn 58 zoneappend/history.begun
-- fn 59 slices.ContainsFunc[[][]int,[]int]
-- fn 60 zoneappend/linear.merge$1
-- fn 61 slices.ContainsFunc[[]int,int]
-- fn 62 zoneappend/linear.merge$1$1
-- fn 63 sort.Slice
-- fn 64 zoneappend/linear.order$1
-- fn 65 zoneappend/zoneappendref18.Check
-- fn 66 zoneappend/zoneappendref18.invoked
-- fn 67 zoneappend/zoneappendref18.returned
-- fn 68 zoneappend/model.clone
-- fn 69 zoneappend/command.Zero
-- fn 70 zoneappend/zoneappendref18.Same
-- fn 71 (*zoneappend/zoneappendref19.search).must
-- fn 72 zoneappend/zoneappendref19.put
-- fn 73 zoneappend/zoneappendref19.next
-- fn 74 slices.Clone[[]int,int]
-- fn 75 slices.Sort[[]string,string]
-- fn 76 zoneappend/history.fits
-- fn 77 slices.IndexFunc[[]zoneappend/api.Event,zoneappend/api.Event]
-- fn 78 slices.IndexFunc[[][]int,[]int]
-- fn 79 slices.IndexFunc[[]int,int]
-- fn 80 internal/reflectlite.ValueOf
-- fn 81 internal/reflectlite.Swapper
-- fn 82 (internal/reflectlite.Value).Len
-- fn 83 math/bits.Len
-- fn 84 sort.pdqsort_func
-- fn 85 zoneappend/zoneappendref18.right
-- fn 86 strings.Repeat
-- fn 87 zoneappend/zoneappendref19.skipped
-- fn 88 slices.pdqsortOrdered[string]
-- fn 89 internal/reflectlite.Swapper$1
-- fn 90 internal/reflectlite.Swapper$2
-- fn 91 internal/reflectlite.Swapper$3
-- fn 92 internal/reflectlite.Swapper$4
-- fn 93 internal/reflectlite.Swapper$5
-- fn 94 internal/reflectlite.Swapper$6
-- fn 95 internal/reflectlite.Swapper$7
-- fn 96 internal/reflectlite.Swapper$8
-- fn 97 internal/reflectlite.Swapper$9
-- fn 98 math/bits.Len32
-- fn 99 math/bits.Len64
-- fn 100 sort.insertionSort_func
-- fn 101 sort.heapSort_func
-- fn 102 sort.breakPatterns_func
-- fn 103 sort.choosePivot_func
-- fn 104 sort.reverseRange_func
-- fn 105 sort.partialInsertionSort_func
-- fn 106 sort.partitionEqual_func
-- fn 107 sort.partition_func
-- fn 108 zoneappend/zoneappendref18.fits
-- fn 109 math/bits.Mul
-- fn 110 strings.HasPrefix
-- fn 111 (*strings.Builder).Grow
-- fn 112 (*strings.Builder).WriteString
-- fn 113 (*strings.Builder).Len
-- fn 114 (*strings.Builder).String
-- fn 115 slices.insertionSortOrdered[string]
-- fn 116 slices.heapSortOrdered[string]
-- fn 117 slices.breakPatternsOrdered[string]
-- fn 118 slices.choosePivotOrdered[string]
-- fn 119 slices.reverseRangeOrdered[string]
-- fn 120 slices.partialInsertionSortOrdered[string]
-- fn 121 cmp.Less[string]
-- fn 122 slices.partitionEqualOrdered[string]
-- fn 123 slices.partitionOrdered[string]
-- fn 124 sort.siftDown_func
-- fn 125 sort.nextPowerOfTwo
-- fn 126 (*sort.xorshift).Next
-- fn 127 sort.medianAdjacent_func
-- fn 128 sort.median_func
-- fn 129 math/bits.Mul32
-- fn 130 math/bits.Mul64
-- fn 131 internal/stringslite.HasPrefix
-- fn 132 (*strings.Builder).copyCheck
-- fn 133 (*strings.Builder).grow
-- fn 134 slices.siftDownOrdered[string]
-- fn 135 slices.nextPowerOfTwo
-- fn 136 (*slices.xorshift).Next
-- fn 137 slices.medianAdjacentOrdered[string]
-- fn 138 slices.medianOrdered[string]
-- fn 139 cmp.isNaN[string]
-- fn 140 sort.order2_func
-- fn 141 internal/abi.NoEscape
-- fn 142 internal/bytealg.MakeNoZero
-- fn 143 slices.order2Ordered[string]
-- fn 144 (runtime.boundsError).Error
-- fn 145 (runtime.boundsError).RuntimeError
-- fn 146 (runtime.errorString).Error
-- fn 147 (runtime.errorString).RuntimeError
-- fn 148 (runtime.plainError).Error
-- fn 149 (runtime.plainError).RuntimeError
-- fn 150 (runtime.errorAddressString).Error
-- fn 151 (runtime.errorAddressString).RuntimeError
-- fn 152 (*runtime.TypeAssertionError).Error
-- fn 153 (*runtime.TypeAssertionError).RuntimeError
-- fn 154 (*runtime.PanicNilError).Error
-- fn 155 (*runtime.PanicNilError).RuntimeError
-- fn 156 (*internal/abi.Type).Align
-- fn 157 (internal/runtime/maps.unhashableTypeError).Error
-- fn 158 (internal/runtime/maps.unhashableTypeError).RuntimeError
-- fn 159 (internal/reflectlite.flag).mustBeAssignable
-- fn 160 (internal/reflectlite.rtype).String
-- fn 161 (*internal/reflectlite.ValueError).Error
-- fn 162 (*strings.Builder).Reset
-- fn 163 (internal/abi.Kind).String
-- ty 0 ()
-- ty 1 func()
-- ty 2 int64
-- ty 3 int
-- ty 4 bool
-- ty 5 uint8
-- ty 6 abi.BoundsErrorCode
-- ty 7 struct { x int64; y int; signed bool; code abi.BoundsErrorCode }
-- ty 8 runtime.boundsError
-- ty 9 string
-- ty 10 runtime.errorString
-- ty 11 runtime.plainError
-- ty 12 uintptr
-- ty 13 struct { msg string; addr uintptr }
-- ty 14 runtime.errorAddressString
-- ty 15 *runtime.TypeAssertionError
-- ty 16 *runtime.PanicNilError
-- ty 17 *abi.Type
-- ty 18 struct { typ *abi.Type }
-- ty 19 maps.unhashableTypeError
-- ty 20 interface {}
-- ty 21 int32
-- ty 22 []int
-- ty 23 func([]int) bool
-- ty 24 func() bool
-- ty 25 []api.Event
-- ty 26 func([]int, int, int, bool) []api.Event
-- ty 27 []string
-- ty 28 func(int) []string
-- ty 29 ([]int, bool)
-- ty 30 func([]string, []api.Event) ([]int, bool)
-- ty 31 api.Errno
-- ty 32 func([]string, []api.Event, []int) api.Errno
-- ty 33 func(int, int) int
-- ty 34 func([]int, bool, int, int) bool
-- ty 35 func(string, []api.Event) ([]int, bool)
-- ty 36 func([]string, []string) bool
-- ty 37 func(string, []api.Event) []string
-- ty 38 func([]int, bool) bool
-- ty 39 func([]string, []api.Event) bool
-- ty 40 (bool, bool)
-- ty 41 func([]string, []api.Event) (bool, bool)
-- ty 42 func([]string, []api.Event, string) bool
-- ty 43 func([]api.Event, int) []api.Event
-- ty 44 func([]int, bool, int) bool
-- ty 45 func(int) string
-- ty 46 []uint8
-- ty 47 struct { Kind int; Block int; Data string }
-- ty 48 api.Command
-- ty 49 struct { Err api.Errno; Data string }
-- ty 50 api.Result
-- ty 51 struct { Return bool; Queue int; Serial int; Command api.Command; Result api.Result }
-- ty 52 api.Event
-- ty 53 func(api.Event, string) api.Event
-- ty 54 *zoneappendmake.Dice
-- ty 55 func([]int) *zoneappendmake.Dice
-- ty 56 map[int]bool
-- ty 57 func() int
-- ty 58 func(int) int
-- ty 59 ([]string, api.Result)
-- ty 60 func([]string, api.Command) ([]string, api.Result)
-- ty 61 func() string
-- ty 62 func([]string, []api.Event) api.Errno
-- ty 63 [][]int
-- ty 64 func([]api.Event) []api.Event
-- ty 65 func(api.Event) (bool, bool)
-- ty 66 func(api.Config, api.Command) api.Errno
-- ty 67 struct { Zones int; Size int; Blocks int; Queues int; Depth int; Shards int }
-- ty 68 api.Config
-- ty 69 func([]api.Event, [][]int) []int
-- ty 70 func([]api.Event, []int) []int
-- ty 71 func([]int, int) bool
-- ty 72 (api.Event, bool)
-- ty 73 func([]api.Event, int) (api.Event, bool)
-- ty 74 func([]api.Event, int, int) bool
-- ty 75 map[int]api.Event
-- ty 76 func(string, []api.Event) bool
-- ty 77 *zoneappendref19.search
-- ty 78 func([]api.Event) *zoneappendref19.search
-- ty 79 func(zoneappendref19.state, bool) ([]int, bool)
-- ty 80 struct { done int; value string }
-- ty 81 zoneappendref19.state
-- ty 82 *linear.search
-- ty 83 (*linear.search, bool)
-- ty 84 func(string, []api.Event) (*linear.search, bool)
-- ty 85 map[linear.state]bool
-- ty 86 map[string][]int
-- ty 87 struct { ops []api.Event; first []int; must int; seen map[linear.state]bool; ends map[string][]int; one bool }
-- ty 88 linear.search
-- ty 89 func(linear.state, []int)
-- ty 90 struct { done int; value string }
-- ty 91 linear.state
-- ty 92 func([]string)
-- ty 93 map[zoneappendref19.state]bool
-- ty 94 struct { ops []api.Event; first []int; seen map[zoneappendref19.state]bool; ends []string }
-- ty 95 zoneappendref19.search
-- ty 96 struct { l []int; at int }
-- ty 97 zoneappendmake.Dice
-- ty 98 func([]string, int, string) []string
-- ty 99 func(int, []api.Event) api.Errno
-- ty 100 func([]api.Event, func(api.Event) bool) []api.Event
-- ty 101 func(api.Event) bool
-- ty 102 map[int]int
-- ty 103 func([]api.Event, bool) map[int]int
-- ty 104 (int, bool)
-- ty 105 func([][]int, func([]int) bool) bool
-- ty 106 func([]int, func(int) bool) bool
-- ty 107 func(int) bool
-- ty 108 func(interface {}, func(int, int) bool)
-- ty 109 func(int, int) bool
-- ty 110 func([]api.Event, int) int
-- ty 111 func([]string) []string
-- ty 112 func([]api.Event, []api.Event) bool
-- ty 113 uint
-- ty 114 (int, int)
-- ty 115 func() (int, int)
-- ty 116 func([]string, string) []string
-- ty 117 (string, bool)
-- ty 118 func(api.Event, string) (string, bool)
-- ty 119 func([]int) []int
-- ty 120 func(api.Command, api.Result) bool
-- ty 121 func([]api.Event, func(api.Event) bool) int
-- ty 122 func([][]int, func([]int) bool) int
-- ty 123 func([]int, func(int) bool) int
-- ty 124 unsafe.Pointer
-- ty 125 reflectlite.flag
-- ty 126 struct { typ_ *abi.Type; ptr unsafe.Pointer; reflectlite.flag }
-- ty 127 reflectlite.Value
-- ty 128 func(interface {}) reflectlite.Value
-- ty 129 func(int, int)
-- ty 130 func(interface {}) func(int, int)
-- ty 131 func(uint) int
-- ty 132 func(sort.lessSwap, int, int, int)
-- ty 133 struct { Less func(int, int) bool; Swap func(int, int) }
-- ty 134 sort.lessSwap
-- ty 135 func([]api.Event, api.Event) bool
-- ty 136 func(string, int) string
-- ty 137 func([]string, int, int, int)
-- ty 138 struct { *abi.Type }
-- ty 139 reflectlite.rtype
-- ty 140 *reflectlite.ValueError
-- ty 141 func(uint32) int
-- ty 142 uint32
-- ty 143 func(uint64) int
-- ty 144 uint64
-- ty 145 func(sort.lessSwap, int, int)
-- ty 146 sort.sortedHint
-- ty 147 (int, sort.sortedHint)
-- ty 148 func(sort.lessSwap, int, int) (int, sort.sortedHint)
-- ty 149 func(sort.lessSwap, int, int) bool
-- ty 150 func(sort.lessSwap, int, int, int) int
-- ty 151 func(sort.lessSwap, int, int, int) (int, bool)
-- ty 152 (uint, uint)
-- ty 153 func(uint, uint) (uint, uint)
-- ty 154 func(string, string) bool
-- ty 155 *strings.Builder
-- ty 156 struct { addr *strings.Builder; buf []uint8 }
-- ty 157 strings.Builder
-- ty 158 func(int)
-- ty 159 interface { Error() string }
-- ty 160 error
-- ty 161 (int, error)
-- ty 162 func(string) (int, error)
-- ty 163 func([]string, int, int)
-- ty 164 slices.sortedHint
-- ty 165 (int, slices.sortedHint)
-- ty 166 func([]string, int, int) (int, slices.sortedHint)
-- ty 167 func([]string, int, int) bool
-- ty 168 func([]string, int, int, int) int
-- ty 169 func([]string, int, int, int) (int, bool)
-- ty 170 sort.xorshift
-- ty 171 func(int) uint
-- ty 172 func() uint64
-- ty 173 func(sort.lessSwap, int, *int) int
-- ty 174 *int
-- ty 175 func(sort.lessSwap, int, int, int, *int) int
-- ty 176 (uint32, uint32)
-- ty 177 func(uint32, uint32) (uint32, uint32)
-- ty 178 (uint64, uint64)
-- ty 179 func(uint64, uint64) (uint64, uint64)
-- ty 180 *uint8
-- ty 181 slices.xorshift
-- ty 182 func([]string, int, *int) int
-- ty 183 func([]string, int, int, int, *int) int
-- ty 184 func(string) bool
-- ty 185 *sort.xorshift
-- ty 186 func(sort.lessSwap, int, int, *int) (int, int)
-- ty 187 func(unsafe.Pointer) unsafe.Pointer
-- ty 188 func(int) []uint8
-- ty 189 *slices.xorshift
-- ty 190 func([]string, int, int, *int) (int, int)
-- ty 191 struct { _interface *abi.Type; concrete *abi.Type; asserted *abi.Type; missingMethod string }
-- ty 192 runtime.TypeAssertionError
-- ty 193 [0]*runtime.PanicNilError
-- ty 194 struct { _ [0]*runtime.PanicNilError }
-- ty 195 runtime.PanicNilError
-- ty 196 abi.TFlag
-- ty 197 abi.Kind
-- ty 198 func(unsafe.Pointer, unsafe.Pointer) bool
-- ty 199 abi.NameOff
-- ty 200 abi.TypeOff
-- ty 201 struct { Size_ uintptr; PtrBytes uintptr; Hash uint32; TFlag abi.TFlag; Align_ uint8; FieldAlign_ uint8; Kind_ abi.Kind; Equal func(unsafe.Pointer, unsafe.Pointer) bool; GCData *uint8; Str abi.NameOff; PtrToThis abi.TypeOff }
-- ty 202 abi.Type
-- ty 203 struct { Method string; Kind abi.Kind }
-- ty 204 reflectlite.ValueError
theorem hΓ : EnvOk Tryz.prog Γ := envB_ok (by kernel_rfl)
theorem hMix : Tryz.prog.follows .mixedOrders = true := by kernel_rfl
end Go.Proofs
