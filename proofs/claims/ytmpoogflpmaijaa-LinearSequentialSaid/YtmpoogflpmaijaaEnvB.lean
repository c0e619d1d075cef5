/- Part of the proofs of laws of this seat: contracts and plain lemmas; no condition is added to a statement. -/
import Derived.Test.YtmpoogflpmaijaaAmEB
import Derived.Test.YtmpoogflpmaijaaProg
import Derived.KernelRfl
set_option linter.unusedSimpArgs false
set_option linter.unusedVariables false
namespace Go.Proofs
open Go.Am
def Γ : Env := [
  (1, ⟨.fn, 1, 8, [.f]⟩),
  (2, ⟨.int .i64, 1, 8, [.i .i64]⟩),
  (3, ⟨.int .i64, 1, 8, [.i .i64]⟩),
  (4, ⟨.bool, 1, 1, [.b]⟩),
  (5, ⟨.int .u8, 1, 1, [.i .u8]⟩),
  (6, ⟨.int .u8, 1, 1, [.i .u8]⟩),
  (7, ⟨.strct [(0, 2), (1, 3), (2, 4), (3, 6)], 4, 24, [.i .i64, .i .i64, .b, .i .u8]⟩),
  (8, ⟨.strct [(0, 2), (1, 3), (2, 4), (3, 6)], 4, 24, [.i .i64, .i .i64, .b, .i .u8]⟩),
  (9, ⟨.str, 1, 16, [.s]⟩),
  (10, ⟨.str, 1, 16, [.s]⟩),
  (11, ⟨.str, 1, 16, [.s]⟩),
  (12, ⟨.int .u64, 1, 8, [.i .u64]⟩),
  (15, ⟨.ptr 134, 1, 8, [.p]⟩),
  (16, ⟨.ptr 137, 1, 8, [.p]⟩),
  (17, ⟨.ptr 144, 1, 8, [.p]⟩),
  (18, ⟨.strct [(0, 17)], 1, 8, [.p]⟩),
  (19, ⟨.strct [(0, 17)], 1, 8, [.p]⟩),
  (21, ⟨.int .i32, 1, 4, [.i .i32]⟩),
  (22, ⟨.slice 9, 1, 24, [.sl]⟩),
  (23, ⟨.slice 41, 1, 24, [.sl]⟩),
  (24, ⟨.slice 3, 1, 24, [.sl]⟩),
  (25, ⟨.fn, 1, 8, [.f]⟩),
  (26, ⟨.fn, 1, 8, [.f]⟩),
  (27, ⟨.int .i64, 1, 8, [.i .i64]⟩),
  (28, ⟨.fn, 1, 8, [.f]⟩),
  (29, ⟨.fn, 1, 8, [.f]⟩),
  (30, ⟨.fn, 1, 8, [.f]⟩),
  (31, ⟨.ptr 61, 1, 8, [.p]⟩),
  (32, ⟨.fn, 1, 8, [.f]⟩),
  (33, ⟨.fn, 1, 8, [.f]⟩),
  (34, ⟨.fn, 1, 8, [.f]⟩),
  (35, ⟨.fn, 1, 8, [.f]⟩),
  (36, ⟨.strct [(0, 3), (1, 3), (2, 9)], 3, 32, [.i .i64, .i .i64, .s]⟩),
  (37, ⟨.strct [(0, 3), (1, 3), (2, 9)], 3, 32, [.i .i64, .i .i64, .s]⟩),
  (38, ⟨.strct [(0, 27), (1, 9)], 2, 24, [.i .i64, .s]⟩),
  (39, ⟨.strct [(0, 27), (1, 9)], 2, 24, [.i .i64, .s]⟩),
  (40, ⟨.strct [(0, 4), (1, 3), (2, 3), (3, 37), (6, 39)], 8, 80, [.b, .i .i64, .i .i64, .i .i64, .i .i64, .s, .i .i64, .s]⟩),
  (41, ⟨.strct [(0, 4), (1, 3), (2, 3), (3, 37), (6, 39)], 8, 80, [.b, .i .i64, .i .i64, .i .i64, .i .i64, .s, .i .i64, .s]⟩),
  (42, ⟨.fn, 1, 8, [.f]⟩),
  (44, ⟨.fn, 1, 8, [.f]⟩),
  (46, ⟨.fn, 1, 8, [.f]⟩),
  (47, ⟨.fn, 1, 8, [.f]⟩),
  (48, ⟨.fn, 1, 8, [.f]⟩),
  (49, ⟨.slice 5, 1, 24, [.sl]⟩),
  (50, ⟨.fn, 1, 8, [.f]⟩),
  (51, ⟨.fn, 1, 8, [.f]⟩),
  (52, ⟨.map (.c (some .i64)) 3 41, 1, 8, [.m]⟩),
  (53, ⟨.fn, 1, 8, [.f]⟩),
  (55, ⟨.fn, 1, 8, [.f]⟩),
  (57, ⟨.fn, 1, 8, [.f]⟩),
  (58, ⟨.fn, 1, 8, [.f]⟩),
  (59, ⟨.fn, 1, 8, [.f]⟩),
  (60, ⟨.strct [(0, 24), (1, 3)], 2, 32, [.sl, .i .i64]⟩),
  (61, ⟨.strct [(0, 24), (1, 3)], 2, 32, [.sl, .i .i64]⟩),
  (62, ⟨.fn, 1, 8, [.f]⟩),
  (63, ⟨.fn, 1, 8, [.f]⟩),
  (64, ⟨.fn, 1, 8, [.f]⟩),
  (65, ⟨.strct [(0, 3), (1, 3), (2, 3), (3, 3), (4, 3), (5, 3)], 6, 48, [.i .i64, .i .i64, .i .i64, .i .i64, .i .i64, .i .i64]⟩),
  (66, ⟨.strct [(0, 3), (1, 3), (2, 3), (3, 3), (4, 3), (5, 3)], 6, 48, [.i .i64, .i .i64, .i .i64, .i .i64, .i .i64, .i .i64]⟩),
  (67, ⟨.fn, 1, 8, [.f]⟩),
  (68, ⟨.ptr 74, 1, 8, [.p]⟩),
  (70, ⟨.fn, 1, 8, [.f]⟩),
  (71, ⟨.map (.a [some .i64, none]) 77 4, 1, 8, [.m]⟩),
  (72, ⟨.map (.c none) 9 24, 1, 8, [.m]⟩),
  (73, ⟨.strct [(0, 23), (1, 24), (2, 3), (3, 71), (4, 72), (5, 4)], 6, 80, [.sl, .sl, .i .i64, .m, .m, .b]⟩),
  (74, ⟨.strct [(0, 23), (1, 24), (2, 3), (3, 71), (4, 72), (5, 4)], 6, 80, [.sl, .sl, .i .i64, .m, .m, .b]⟩),
  (75, ⟨.fn, 1, 8, [.f]⟩),
  (76, ⟨.strct [(0, 3), (1, 9)], 2, 24, [.i .i64, .s]⟩),
  (77, ⟨.strct [(0, 3), (1, 9)], 2, 24, [.i .i64, .s]⟩),
  (78, ⟨.fn, 1, 8, [.f]⟩),
  (79, ⟨.fn, 1, 8, [.f]⟩),
  (80, ⟨.map (.c (some .i64)) 3 3, 1, 8, [.m]⟩),
  (81, ⟨.fn, 1, 8, [.f]⟩),
  (83, ⟨.fn, 1, 8, [.f]⟩),
  (84, ⟨.fn, 1, 8, [.f]⟩),
  (85, ⟨.fn, 1, 8, [.f]⟩),
  (86, ⟨.map (.c (some .i64)) 3 4, 1, 8, [.m]⟩),
  (87, ⟨.fn, 1, 8, [.f]⟩),
  (88, ⟨.fn, 1, 8, [.f]⟩),
  (89, ⟨.fn, 1, 8, [.f]⟩),
  (90, ⟨.fn, 1, 8, [.f]⟩),
  (91, ⟨.fn, 1, 8, [.f]⟩),
  (92, ⟨.int .u64, 1, 8, [.i .u64]⟩),
  (94, ⟨.fn, 1, 8, [.f]⟩),
  (95, ⟨.fn, 1, 8, [.f]⟩),
  (96, ⟨.ptr 98, 1, 8, [.p]⟩),
  (97, ⟨.strct [(0, 96), (1, 49)], 2, 32, [.p, .sl]⟩),
  (98, ⟨.strct [(0, 96), (1, 49)], 2, 32, [.p, .sl]⟩),
  (99, ⟨.fn, 1, 8, [.f]⟩),
  (103, ⟨.fn, 1, 8, [.f]⟩),
  (104, ⟨.fn, 1, 8, [.f]⟩),
  (105, ⟨.int .i64, 1, 8, [.i .i64]⟩),
  (107, ⟨.fn, 1, 8, [.f]⟩),
  (108, ⟨.fn, 1, 8, [.f]⟩),
  (109, ⟨.fn, 1, 8, [.f]⟩),
  (110, ⟨.fn, 1, 8, [.f]⟩),
  (111, ⟨.fn, 1, 8, [.f]⟩),
  (112, ⟨.int .u32, 1, 4, [.i .u32]⟩),
  (113, ⟨.fn, 1, 8, [.f]⟩),
  (114, ⟨.int .u64, 1, 8, [.i .u64]⟩),
  (116, ⟨.fn, 1, 8, [.f]⟩),
  (118, ⟨.fn, 1, 8, [.f]⟩),
  (119, ⟨.ptr 5, 1, 8, [.p]⟩),
  (120, ⟨.int .u64, 1, 8, [.i .u64]⟩),
  (121, ⟨.fn, 1, 8, [.f]⟩),
  (122, ⟨.fn, 1, 8, [.f]⟩),
  (123, ⟨.fn, 1, 8, [.f]⟩),
  (124, ⟨.ptr 3, 1, 8, [.p]⟩),
  (125, ⟨.fn, 1, 8, [.f]⟩),
  (126, ⟨.fn, 1, 8, [.f]⟩),
  (128, ⟨.fn, 1, 8, [.f]⟩),
  (129, ⟨.fn, 1, 8, [.f]⟩),
  (130, ⟨.ptr 120, 1, 8, [.p]⟩),
  (132, ⟨.fn, 1, 8, [.f]⟩),
  (133, ⟨.strct [(0, 17), (1, 17), (2, 17), (3, 9)], 4, 40, [.p, .p, .p, .s]⟩),
  (134, ⟨.strct [(0, 17), (1, 17), (2, 17), (3, 9)], 4, 40, [.p, .p, .p, .s]⟩),
  (135, ⟨.arr 0 16, 0, 0, []⟩),
  (138, ⟨.int .u8, 1, 1, [.i .u8]⟩),
  (139, ⟨.int .u8, 1, 1, [.i .u8]⟩),
  (140, ⟨.fn, 1, 8, [.f]⟩),
  (141, ⟨.int .i32, 1, 4, [.i .i32]⟩),
  (142, ⟨.int .i32, 1, 4, [.i .i32]⟩),
  (143, ⟨.strct [(0, 12), (1, 12), (2, 112), (3, 138), (4, 5), (5, 5), (6, 139), (7, 140), (8, 119), (9, 141), (10, 142)], 11, 48, [.i .u64, .i .u64, .i .u32, .i .u8, .i .u8, .i .u8, .i .u8, .f, .p, .i .i32, .i .i32]⟩),
  (144, ⟨.strct [(0, 12), (1, 12), (2, 112), (3, 138), (4, 5), (5, 5), (6, 139), (7, 140), (8, 119), (9, 141), (10, 142)], 11, 48, [.i .u64, .i .u64, .i .u32, .i .u8, .i .u8, .i .u8, .i .u8, .f, .p, .i .i32, .i .i32]⟩)]
-- fn 0 main.main
-- fn 1 gosem.cut
-- fn 2 gosem.cut.init
-- fn 3 zoneappend/zoneappendlaw19.LinearChecks
-- fn 4 zoneappend/zoneappendlaw19.LinearSequential
-- fn 5 zoneappend/zoneappendlaw19.light
-- fn 6 zoneappend/zoneappendlaw19.awake
-- fn 7 zoneappend/linear.Check
-- fn 8 zoneappend/zoneappendref19.Check
-- fn 9 zoneappend/zoneappendmake.Light
-- fn 10 zoneappend/zoneappendmake.Roll
-- fn 11 zoneappend/zoneappendref17.New
-- fn 12 (*zoneappend/zoneappendmake.Dice).Rest
-- fn 13 (*zoneappend/zoneappendmake.Dice).Next
-- fn 14 zoneappend/zoneappendmake.Value
-- fn 15 zoneappend/zoneappendref17.Apply
-- fn 16 zoneappend/linear.Block
-- fn 17 zoneappend/linear.Values
-- fn 18 zoneappend/zoneappendlaw19.answered
-- fn 19 zoneappend/linear.base
-- fn 20 zoneappend/history.Operations
-- fn 21 zoneappend/linear.counts
-- fn 22 zoneappend/history.Before
-- fn 23 zoneappend/model.Apply
-- fn 24 zoneappend/zoneappendref19.Sizes
-- fn 25 zoneappend/zoneappendref18.Operations
-- fn 26 zoneappend/zoneappendref19.has
-- fn 27 zoneappend/zoneappendref19.operation
-- fn 28 zoneappend/zoneappendref18.Before
-- fn 29 zoneappend/zoneappendref15.Zero
-- fn 30 zoneappend/zoneappendmake.Mod
-- fn 31 zoneappend/zoneappendref15.Check
-- fn 32 zoneappend/zoneappendref17.with
-- fn 33 zoneappend/linear.start
-- fn 34 (*zoneappend/linear.search).walk
-- fn 35 sort.Strings
-- fn 36 zoneappend/history.Check
-- fn 37 zoneappend/history.places
-- fn 38 zoneappend/history.begun
-- fn 39 zoneappend/model.clone
-- fn 40 zoneappend/command.Check
-- fn 41 zoneappend/command.Zero
-- fn 42 zoneappend/zoneappendref18.Check
-- fn 43 zoneappend/zoneappendref18.invoked
-- fn 44 zoneappend/zoneappendref18.returned
-- fn 45 slices.Clone[[]int,int]
-- fn 46 slices.Sort[[]string,string]
-- fn 47 zoneappend/history.fits
-- fn 48 strings.Repeat
-- fn 49 zoneappend/zoneappendref18.right
-- fn 50 slices.pdqsortOrdered[string]
-- fn 51 math/bits.Len
-- fn 52 math/bits.Mul
-- fn 53 strings.HasPrefix
-- fn 54 (*strings.Builder).Grow
-- fn 55 (*strings.Builder).WriteString
-- fn 56 (*strings.Builder).Len
-- fn 57 (*strings.Builder).String
-- fn 58 zoneappend/zoneappendref18.fits
-- fn 59 slices.insertionSortOrdered[string]
-- fn 60 slices.heapSortOrdered[string]
-- fn 61 slices.breakPatternsOrdered[string]
-- fn 62 slices.choosePivotOrdered[string]
-- fn 63 slices.reverseRangeOrdered[string]
-- fn 64 slices.partialInsertionSortOrdered[string]
-- fn 65 cmp.Less[string]
-- fn 66 slices.partitionEqualOrdered[string]
-- fn 67 slices.partitionOrdered[string]
-- fn 68 math/bits.Len32
-- fn 69 math/bits.Len64
-- fn 70 math/bits.Mul32
-- fn 71 math/bits.Mul64
-- fn 72 internal/stringslite.HasPrefix
-- fn 73 (*strings.Builder).copyCheck
-- fn 74 (*strings.Builder).grow
-- fn 75 slices.siftDownOrdered[string]
-- fn 76 slices.nextPowerOfTwo
-- fn 77 (*slices.xorshift).Next
-- fn 78 slices.medianAdjacentOrdered[string]
-- fn 79 slices.medianOrdered[string]
-- fn 80 cmp.isNaN[string]
-- fn 81 internal/abi.NoEscape
-- fn 82 internal/bytealg.MakeNoZero
-- fn 83 slices.order2Ordered[string]
-- fn 84 (runtime.boundsError).Error
-- fn 85 (runtime.boundsError).RuntimeError
-- fn 86 (runtime.errorString).Error
-- fn 87 (runtime.errorString).RuntimeError
-- fn 88 (runtime.plainError).Error
-- fn 89 (runtime.plainError).RuntimeError
-- fn 90 (runtime.errorAddressString).Error
-- fn 91 (runtime.errorAddressString).RuntimeError
-- fn 92 (*runtime.TypeAssertionError).Error
-- fn 93 (*runtime.TypeAssertionError).RuntimeError
-- fn 94 (*runtime.PanicNilError).Error
-- fn 95 (*runtime.PanicNilError).RuntimeError
-- fn 96 (*internal/abi.Type).Align
-- fn 97 (internal/runtime/maps.unhashableTypeError).Error
-- fn 98 (internal/runtime/maps.unhashableTypeError).RuntimeError
-- fn 99 (*strings.Builder).Reset
-- fn 100 (internal/abi.Kind).String
-- ty 0 ()
-- ty 1 func()
-- ty 2 int64
-- ty 3 int
-- ty 4 bool
-- ty 5 uint8
-- ty 6 abi.BoundsErrorCode
-- ty 7 struct { x int64; y int; signed bool; code abi.BoundsErrorCode }
-- ty 8 runtime.boundsError
-- ty 9 string
-- ty 10 runtime.errorString
-- ty 11 runtime.plainError
-- ty 12 uintptr
-- ty 13 struct { msg string; addr uintptr }
-- ty 14 runtime.errorAddressString
-- ty 15 *runtime.TypeAssertionError
-- ty 16 *runtime.PanicNilError
-- ty 17 *abi.Type
-- ty 18 struct { typ *abi.Type }
-- ty 19 maps.unhashableTypeError
-- ty 20 interface {}
-- ty 21 int32
-- ty 22 []string
-- ty 23 []api.Event
-- ty 24 []int
-- ty 25 func([]string, []api.Event) bool
-- ty 26 func() bool
-- ty 27 api.Errno
-- ty 28 func([]string, []api.Event, []int) api.Errno
-- ty 29 func([]string, []api.Event, []int) bool
-- ty 30 func([]int) bool
-- ty 31 *zoneappendmake.Dice
-- ty 32 func([]int) *zoneappendmake.Dice
-- ty 33 func(int) []string
-- ty 34 func() int
-- ty 35 func(int) int
-- ty 36 struct { Kind int; Block int; Data string }
-- ty 37 api.Command
-- ty 38 struct { Err api.Errno; Data string }
-- ty 39 api.Result
-- ty 40 struct { Return bool; Queue int; Serial int; Command api.Command; Result api.Result }
-- ty 41 api.Event
-- ty 42 func(int) string
-- ty 43 ([]string, api.Result)
-- ty 44 func([]string, api.Command) ([]string, api.Result)
-- ty 45 ([]int, bool)
-- ty 46 func(string, []api.Event) ([]int, bool)
-- ty 47 func(string, []api.Event) []string
-- ty 48 func([]int, uint8) bool
-- ty 49 []uint8
-- ty 50 func(api.Event, string) api.Event
-- ty 51 func([]string, []api.Event) api.Errno
-- ty 52 map[int]api.Event
-- ty 53 func([]api.Event) []api.Event
-- ty 54 (bool, bool)
-- ty 55 func(api.Event) (bool, bool)
-- ty 56 (api.Event, bool)
-- ty 57 func([]api.Event, int, int) bool
-- ty 58 func([]int, int) bool
-- ty 59 func([]api.Event, int) (api.Event, bool)
-- ty 60 struct { l []int; at int }
-- ty 61 zoneappendmake.Dice
-- ty 62 func() string
-- ty 63 func(int, int) int
-- ty 64 func(api.Config, api.Command) api.Errno
-- ty 65 struct { Zones int; Size int; Blocks int; Queues int; Depth int; Shards int }
-- ty 66 api.Config
-- ty 67 func([]string, int, string) []string
-- ty 68 *linear.search
-- ty 69 (*linear.search, bool)
-- ty 70 func(string, []api.Event) (*linear.search, bool)
-- ty 71 map[linear.state]bool
-- ty 72 map[string][]int
-- ty 73 struct { ops []api.Event; first []int; must int; seen map[linear.state]bool; ends map[string][]int; one bool }
-- ty 74 linear.search
-- ty 75 func(linear.state, []int)
-- ty 76 struct { done int; value string }
-- ty 77 linear.state
-- ty 78 func([]string)
-- ty 79 func(int, []api.Event) api.Errno
-- ty 80 map[int]int
-- ty 81 func([]api.Event, bool) map[int]int
-- ty 82 (int, bool)
-- ty 83 func([]string) []string
-- ty 84 func([]api.Event, int) int
-- ty 85 func([]int) []int
-- ty 86 map[int]bool
-- ty 87 func(api.Command, api.Result) bool
-- ty 88 func(string, int) string
-- ty 89 func([]api.Event, api.Event) bool
-- ty 90 func([]string, int, int, int)
-- ty 91 func(uint) int
-- ty 92 uint
-- ty 93 (uint, uint)
-- ty 94 func(uint, uint) (uint, uint)
-- ty 95 func(string, string) bool
-- ty 96 *strings.Builder
-- ty 97 struct { addr *strings.Builder; buf []uint8 }
-- ty 98 strings.Builder
-- ty 99 func(int)
-- ty 100 interface { Error() string }
-- ty 101 error
-- ty 102 (int, error)
-- ty 103 func(string) (int, error)
-- ty 104 func([]string, int, int)
-- ty 105 slices.sortedHint
-- ty 106 (int, slices.sortedHint)
-- ty 107 func([]string, int, int) (int, slices.sortedHint)
-- ty 108 func([]string, int, int) bool
-- ty 109 func([]string, int, int, int) int
-- ty 110 func([]string, int, int, int) (int, bool)
-- ty 111 func(uint32) int
-- ty 112 uint32
-- ty 113 func(uint64) int
-- ty 114 uint64
-- ty 115 (uint32, uint32)
-- ty 116 func(uint32, uint32) (uint32, uint32)
-- ty 117 (uint64, uint64)
-- ty 118 func(uint64, uint64) (uint64, uint64)
-- ty 119 *uint8
-- ty 120 slices.xorshift
-- ty 121 func(int) uint
-- ty 122 func() uint64
-- ty 123 func([]string, int, *int) int
-- ty 124 *int
-- ty 125 func([]string, int, int, int, *int) int
-- ty 126 func(string) bool
-- ty 127 unsafe.Pointer
-- ty 128 func(unsafe.Pointer) unsafe.Pointer
-- ty 129 func(int) []uint8
-- ty 130 *slices.xorshift
-- ty 131 (int, int)
-- ty 132 func([]string, int, int, *int) (int, int)
-- ty 133 struct { _interface *abi.Type; concrete *abi.Type; asserted *abi.Type; missingMethod string }
-- ty 134 runtime.TypeAssertionError
-- ty 135 [0]*runtime.PanicNilError
-- ty 136 struct { _ [0]*runtime.PanicNilError }
-- ty 137 runtime.PanicNilError
-- ty 138 abi.TFlag
-- ty 139 abi.Kind
-- ty 140 func(unsafe.Pointer, unsafe.Pointer) bool
-- ty 141 abi.NameOff
-- ty 142 abi.TypeOff
-- ty 143 struct { Size_ uintptr; PtrBytes uintptr; Hash uint32; TFlag abi.TFlag; Align_ uint8; FieldAlign_ uint8; Kind_ abi.Kind; Equal func(unsafe.Pointer, unsafe.Pointer) bool; GCData *uint8; Str abi.NameOff; PtrToThis abi.TypeOff }
-- ty 144 abi.Type
theorem hΓ : EnvOk Try.prog Γ := envB_ok (by kernel_rfl)
theorem hMix : Try.prog.follows .mixedOrders = true := by kernel_rfl
end Go.Proofs
