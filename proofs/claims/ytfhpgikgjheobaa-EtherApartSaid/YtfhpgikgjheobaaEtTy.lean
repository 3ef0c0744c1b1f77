/- Facts on the types of this program, and the schedules of its drawn regions. No condition. -/
import Derived.Test.YtfhpgikgjheobaaAeF
import Derived.Test.YtfhpgikgjheobaaProg
import Derived.KernelRfl
namespace Go.Ae
open Go.Proofs
theorem follows : Try.prog.follows .mixedOrders = true := by kernel_rfl
theorem ag2 : isAggT Try.prog 2 = some false := by kernel_rfl
theorem ag3 : isAggT Try.prog 3 = some false := by kernel_rfl
theorem ag4 : isAggT Try.prog 4 = some false := by kernel_rfl
theorem ag5 : isAggT Try.prog 5 = some false := by kernel_rfl
theorem ag9 : isAggT Try.prog 9 = some false := by kernel_rfl
theorem ag23 : isAggT Try.prog 23 = some false := by kernel_rfl
theorem ag24 : isAggT Try.prog 24 = some false := by kernel_rfl
theorem ag25 : isAggT Try.prog 25 = some false := by kernel_rfl
theorem ag29 : isAggT Try.prog 29 = some false := by kernel_rfl
theorem ag32 : isAggT Try.prog 32 = some true := by kernel_rfl
theorem ag36 : isAggT Try.prog 36 = some false := by kernel_rfl
theorem ag42 : isAggT Try.prog 42 = some false := by kernel_rfl
theorem ag46 : isAggT Try.prog 46 = some false := by kernel_rfl
theorem ag47 : isAggT Try.prog 47 = some false := by kernel_rfl
theorem ag48 : isAggT Try.prog 48 = some false := by kernel_rfl
theorem ag49 : isAggT Try.prog 49 = some false := by kernel_rfl
theorem ag50 : isAggT Try.prog 50 = some false := by kernel_rfl
theorem ag51 : isAggT Try.prog 51 = some false := by kernel_rfl
theorem ag52 : isAggT Try.prog 52 = some false := by kernel_rfl
theorem ag53 : isAggT Try.prog 53 = some false := by kernel_rfl
theorem ag54 : isAggT Try.prog 54 = some false := by kernel_rfl
theorem ag55 : isAggT Try.prog 55 = some false := by kernel_rfl
theorem ag56 : isAggT Try.prog 56 = some false := by kernel_rfl
theorem ag57 : isAggT Try.prog 57 = some false := by kernel_rfl
theorem ag58 : isAggT Try.prog 58 = some false := by kernel_rfl
theorem ag59 : isAggT Try.prog 59 = some false := by kernel_rfl
theorem ag72 : isAggT Try.prog 72 = some true := by kernel_rfl
theorem ag88 : isAggT Try.prog 88 = some false := by kernel_rfl
theorem ag94 : isAggT Try.prog 94 = some false := by kernel_rfl
theorem ag104 : isAggT Try.prog 104 = some false := by kernel_rfl
theorem ag106 : isAggT Try.prog 106 = some false := by kernel_rfl
theorem ag108 : isAggT Try.prog 108 = some false := by kernel_rfl
theorem ag110 : isAggT Try.prog 110 = some false := by kernel_rfl
theorem ag112 : isAggT Try.prog 112 = some false := by kernel_rfl
theorem ag116 : isAggT Try.prog 116 = some false := by kernel_rfl
theorem ag118 : isAggT Try.prog 118 = some false := by kernel_rfl
theorem ag120 : isAggT Try.prog 120 = some false := by kernel_rfl
theorem ag121 : isAggT Try.prog 121 = some false := by kernel_rfl
theorem ag126 : isAggT Try.prog 126 = some true := by kernel_rfl
theorem ag128 : isAggT Try.prog 128 = some true := by kernel_rfl
theorem ag130 : isAggT Try.prog 130 = some true := by kernel_rfl
theorem ag132 : isAggT Try.prog 132 = some true := by kernel_rfl
theorem ag134 : isAggT Try.prog 134 = some true := by kernel_rfl
theorem ag137 : isAggT Try.prog 137 = some true := by kernel_rfl
theorem ag139 : isAggT Try.prog 139 = some true := by kernel_rfl
theorem ag141 : isAggT Try.prog 141 = some true := by kernel_rfl
theorem ag144 : isAggT Try.prog 144 = some true := by kernel_rfl
theorem ag145 : isAggT Try.prog 145 = some false := by kernel_rfl
theorem bu32 : placesT Try.prog 32 = some (#[(0, 1), (1, 1), (2, 1)], [.int .i64 0, .int .i64 0, .slice none 0 0]) := by kernel_rfl
theorem bu61 : placesT Try.prog 61 = some (#[(0, 1), (1, 1), (2, 1), (3, 1), (4, 1), (5, 1), (6, 1), (7, 1), (8, 1), (9, 1), (10, 1), (11, 1), (12, 1), (13, 1), (14, 1), (15, 1), (16, 1), (17, 1), (18, 1), (19, 1), (20, 1), (21, 1), (22, 1), (23, 1), (24, 1), (25, 1), (26, 1), (27, 1), (28, 1), (29, 1), (30, 1), (31, 1), (32, 1), (33, 1), (34, 1), (35, 1), (36, 1), (37, 1), (38, 1), (39, 1), (40, 1), (41, 1), (42, 1), (43, 1), (44, 1), (45, 1), (46, 1), (47, 1), (48, 1), (49, 1), (50, 1), (51, 1), (52, 1), (53, 1), (54, 1), (55, 1), (56, 1), (57, 1), (58, 1), (59, 1), (60, 1), (61, 1), (62, 1), (63, 1), (64, 1), (65, 1), (66, 1), (67, 1), (68, 1), (69, 1), (70, 1), (71, 1), (72, 1), (73, 1), (74, 1), (75, 1), (76, 1), (77, 1), (78, 1), (79, 1), (80, 1), (81, 1), (82, 1), (83, 1), (84, 1), (85, 1), (86, 1), (87, 1), (88, 1), (89, 1), (90, 1), (91, 1), (92, 1), (93, 1), (94, 1), (95, 1), (96, 1), (97, 1), (98, 1), (99, 1), (100, 1), (101, 1), (102, 1), (103, 1), (104, 1), (105, 1), (106, 1)], [.bool false, .bool false, .slice none 0 0, .slice none 0 0, .slice none 0 0, .slice none 0 0, .slice none 0 0, .slice none 0 0, .int .i64 0, .slice none 0 0, .slice none 0 0, .slice none 0 0, .slice none 0 0, .slice none 0 0, .slice none 0 0, .int .i64 0, .slice none 0 0, .slice none 0 0, .slice none 0 0, .slice none 0 0, .slice none 0 0, .slice none 0 0, .int .i64 0, .slice none 0 0, .slice none 0 0, .slice none 0 0, .slice none 0 0, .slice none 0 0, .slice none 0 0, .int .i64 0, .slice none 0 0, .slice none 0 0, .slice none 0 0, .slice none 0 0, .slice none 0 0, .slice none 0 0, .int .i64 0, .slice none 0 0, .slice none 0 0, .slice none 0 0, .slice none 0 0, .slice none 0 0, .slice none 0 0, .int .i64 0, .slice none 0 0, .slice none 0 0, .slice none 0 0, .slice none 0 0, .slice none 0 0, .slice none 0 0, .int .i64 0, .slice none 0 0, .slice none 0 0, .slice none 0 0, .slice none 0 0, .slice none 0 0, .slice none 0 0, .int .i64 0, .slice none 0 0, .slice none 0 0, .slice none 0 0, .slice none 0 0, .slice none 0 0, .slice none 0 0, .int .i64 0, .slice none 0 0, .slice none 0 0, .slice none 0 0, .slice none 0 0, .slice none 0 0, .slice none 0 0, .int .i64 0, .slice none 0 0, .slice none 0 0, .slice none 0 0, .slice none 0 0, .slice none 0 0, .slice none 0 0, .int .i64 0, .slice none 0 0, .slice none 0 0, .slice none 0 0, .slice none 0 0, .slice none 0 0, .slice none 0 0, .int .i64 0, .slice none 0 0, .slice none 0 0, .slice none 0 0, .slice none 0 0, .slice none 0 0, .slice none 0 0, .int .i64 0, .slice none 0 0, .slice none 0 0, .slice none 0 0, .slice none 0 0, .slice none 0 0, .slice none 0 0, .int .i64 0, .slice none 0 0, .slice none 0 0, .slice none 0 0, .slice none 0 0, .slice none 0 0, .slice none 0 0, .int .i64 0]) := by kernel_rfl
theorem bu69 : placesT Try.prog 69 = some (#[(0, 1), (1, 1), (2, 1), (3, 1), (4, 1)], [.slice none 0 0, .int .i64 0, .int .i64 0, .int .i64 0, .int .i64 0]) := by kernel_rfl
theorem bu72 : placesT Try.prog 72 = some (#[(0, 1), (1, 1), (2, 1), (3, 1), (4, 1)], [.int .i64 0, .int .i64 0, .int .i64 0, .int .i64 0, .slice none 0 0]) := by kernel_rfl
theorem bu84 : placesT Try.prog 84 = some (#[(0, 1), (1, 1)], [.int .i64 0, .slice none 0 0]) := by kernel_rfl
theorem bu92 : placesT Try.prog 92 = some (#[(0, 1), (1, 1)], [.pointer none, .pointer none]) := by kernel_rfl
theorem bu96 : placesT Try.prog 96 = some (#[(0, 1), (1, 1), (2, 1), (3, 1), (4, 1), (5, 1), (6, 1), (7, 1), (8, 1), (9, 1)], [.slice none 0 0, .slice none 0 0, .slice none 0 0, .slice none 0 0, .slice none 0 0, .slice none 0 0, .slice none 0 0, .slice none 0 0, .slice none 0 0, .slice none 0 0]) := by kernel_rfl
theorem bu123 : placesT Try.prog 123 = some (#[(0, 1), (1, 1), (2, 1)], [.int .i64 0, .slice none 0 0, .int .i64 0]) := by kernel_rfl
theorem bu126 : placesT Try.prog 126 = some (#[(0, 1), (1, 1), (2, 1), (3, 1)], [.int .i64 0, .int .i64 0, .slice none 0 0, .bool false]) := by kernel_rfl
theorem by3 : byT Try.prog 3 = some 8 := by kernel_rfl
theorem by4 : byT Try.prog 4 = some 1 := by kernel_rfl
theorem by5 : byT Try.prog 5 = some 1 := by kernel_rfl
theorem by9 : byT Try.prog 9 = some 16 := by kernel_rfl
theorem by23 : byT Try.prog 23 = some 24 := by kernel_rfl
theorem by24 : byT Try.prog 24 = some 24 := by kernel_rfl
theorem by29 : byT Try.prog 29 = some 24 := by kernel_rfl
theorem by32 : byT Try.prog 32 = some 40 := by kernel_rfl
theorem by36 : byT Try.prog 36 = some 24 := by kernel_rfl
theorem by42 : byT Try.prog 42 = some 24 := by kernel_rfl
theorem by47 : byT Try.prog 47 = some 24 := by kernel_rfl
theorem by51 : byT Try.prog 51 = some 24 := by kernel_rfl
theorem by72 : byT Try.prog 72 = some 56 := by kernel_rfl
theorem by104 : byT Try.prog 104 = some 24 := by kernel_rfl
theorem by106 : byT Try.prog 106 = some 24 := by kernel_rfl
theorem by108 : byT Try.prog 108 = some 24 := by kernel_rfl
theorem by110 : byT Try.prog 110 = some 24 := by kernel_rfl
theorem by112 : byT Try.prog 112 = some 24 := by kernel_rfl
theorem by116 : byT Try.prog 116 = some 24 := by kernel_rfl
theorem by118 : byT Try.prog 118 = some 24 := by kernel_rfl
theorem by120 : byT Try.prog 120 = some 24 := by kernel_rfl
theorem by126 : byT Try.prog 126 = some 48 := by kernel_rfl
theorem by128 : byT Try.prog 128 = some 56 := by kernel_rfl
theorem by130 : byT Try.prog 130 = some 96 := by kernel_rfl
theorem by132 : byT Try.prog 132 = some 40 := by kernel_rfl
theorem by134 : byT Try.prog 134 = some 32 := by kernel_rfl
theorem by137 : byT Try.prog 137 = some 16 := by kernel_rfl
theorem by139 : byT Try.prog 139 = some 32 := by kernel_rfl
theorem by141 : byT Try.prog 141 = some 80 := by kernel_rfl
theorem by144 : byT Try.prog 144 = some 104 := by kernel_rfl
theorem by145 : byT Try.prog 145 = some 24 := by kernel_rfl
theorem es23 : elemSz Try.prog 23 = some 1 := by kernel_rfl
theorem es24 : elemSz Try.prog 24 = some 1 := by kernel_rfl
theorem es29 : elemSz Try.prog 29 = some 1 := by kernel_rfl
theorem es36 : elemSz Try.prog 36 = some 3 := by kernel_rfl
theorem es42 : elemSz Try.prog 42 = some 1 := by kernel_rfl
theorem es46 : elemSz Try.prog 46 = some 1 := by kernel_rfl
theorem es47 : elemSz Try.prog 47 = some 1 := by kernel_rfl
theorem es48 : elemSz Try.prog 48 = some 1 := by kernel_rfl
theorem es49 : elemSz Try.prog 49 = some 1 := by kernel_rfl
theorem es50 : elemSz Try.prog 50 = some 1 := by kernel_rfl
theorem es51 : elemSz Try.prog 51 = some 1 := by kernel_rfl
theorem es52 : elemSz Try.prog 52 = some 1 := by kernel_rfl
theorem es53 : elemSz Try.prog 53 = some 1 := by kernel_rfl
theorem es54 : elemSz Try.prog 54 = some 1 := by kernel_rfl
theorem es55 : elemSz Try.prog 55 = some 1 := by kernel_rfl
theorem es56 : elemSz Try.prog 56 = some 1 := by kernel_rfl
theorem es57 : elemSz Try.prog 57 = some 1 := by kernel_rfl
theorem es58 : elemSz Try.prog 58 = some 1 := by kernel_rfl
theorem es59 : elemSz Try.prog 59 = some 1 := by kernel_rfl
theorem es66 : elemSz Try.prog 66 = some 5 := by kernel_rfl
theorem es94 : elemSz Try.prog 94 = some 1 := by kernel_rfl
theorem es104 : elemSz Try.prog 104 = some 1 := by kernel_rfl
theorem es106 : elemSz Try.prog 106 = some 4 := by kernel_rfl
theorem es108 : elemSz Try.prog 108 = some 6 := by kernel_rfl
theorem es110 : elemSz Try.prog 110 = some 2 := by kernel_rfl
theorem es112 : elemSz Try.prog 112 = some 2 := by kernel_rfl
theorem es116 : elemSz Try.prog 116 = some 2 := by kernel_rfl
theorem es118 : elemSz Try.prog 118 = some 4 := by kernel_rfl
theorem es120 : elemSz Try.prog 120 = some 4 := by kernel_rfl
theorem es121 : elemSz Try.prog 121 = some 4 := by kernel_rfl
theorem es145 : elemSz Try.prog 145 = some 7 := by kernel_rfl
theorem fo32_0 : fieldOff Try.prog 32 0 = some 0 := by kernel_rfl
theorem fo32_1 : fieldOff Try.prog 32 1 = some 1 := by kernel_rfl
theorem fo32_2 : fieldOff Try.prog 32 2 = some 2 := by kernel_rfl
theorem fo61_0 : fieldOff Try.prog 61 0 = some 0 := by kernel_rfl
theorem fo61_1 : fieldOff Try.prog 61 1 = some 1 := by kernel_rfl
theorem fo61_2 : fieldOff Try.prog 61 2 = some 2 := by kernel_rfl
theorem fo61_3 : fieldOff Try.prog 61 3 = some 3 := by kernel_rfl
theorem fo61_4 : fieldOff Try.prog 61 4 = some 4 := by kernel_rfl
theorem fo61_5 : fieldOff Try.prog 61 5 = some 5 := by kernel_rfl
theorem fo61_6 : fieldOff Try.prog 61 6 = some 6 := by kernel_rfl
theorem fo61_7 : fieldOff Try.prog 61 7 = some 7 := by kernel_rfl
theorem fo61_8 : fieldOff Try.prog 61 8 = some 8 := by kernel_rfl
theorem fo61_9 : fieldOff Try.prog 61 9 = some 9 := by kernel_rfl
theorem fo69_0 : fieldOff Try.prog 69 0 = some 0 := by kernel_rfl
theorem fo69_1 : fieldOff Try.prog 69 1 = some 1 := by kernel_rfl
theorem fo69_2 : fieldOff Try.prog 69 2 = some 2 := by kernel_rfl
theorem fo69_3 : fieldOff Try.prog 69 3 = some 3 := by kernel_rfl
theorem fo69_4 : fieldOff Try.prog 69 4 = some 4 := by kernel_rfl
theorem fo72_0 : fieldOff Try.prog 72 0 = some 0 := by kernel_rfl
theorem fo72_1 : fieldOff Try.prog 72 1 = some 1 := by kernel_rfl
theorem fo72_2 : fieldOff Try.prog 72 2 = some 2 := by kernel_rfl
theorem fo72_3 : fieldOff Try.prog 72 3 = some 3 := by kernel_rfl
theorem fo72_4 : fieldOff Try.prog 72 4 = some 4 := by kernel_rfl
theorem fo84_0 : fieldOff Try.prog 84 0 = some 0 := by kernel_rfl
theorem fo84_1 : fieldOff Try.prog 84 1 = some 1 := by kernel_rfl
theorem fo92_0 : fieldOff Try.prog 92 0 = some 0 := by kernel_rfl
theorem fo92_1 : fieldOff Try.prog 92 1 = some 1 := by kernel_rfl
theorem fo96_0 : fieldOff Try.prog 96 0 = some 0 := by kernel_rfl
theorem fo96_1 : fieldOff Try.prog 96 1 = some 1 := by kernel_rfl
theorem fo96_2 : fieldOff Try.prog 96 2 = some 2 := by kernel_rfl
theorem fo96_3 : fieldOff Try.prog 96 3 = some 3 := by kernel_rfl
theorem fo96_4 : fieldOff Try.prog 96 4 = some 4 := by kernel_rfl
theorem fo96_5 : fieldOff Try.prog 96 5 = some 5 := by kernel_rfl
theorem fo96_6 : fieldOff Try.prog 96 6 = some 6 := by kernel_rfl
theorem fo96_7 : fieldOff Try.prog 96 7 = some 7 := by kernel_rfl
theorem fo96_8 : fieldOff Try.prog 96 8 = some 8 := by kernel_rfl
theorem fo96_9 : fieldOff Try.prog 96 9 = some 9 := by kernel_rfl
theorem fo123_0 : fieldOff Try.prog 123 0 = some 0 := by kernel_rfl
theorem fo123_1 : fieldOff Try.prog 123 1 = some 1 := by kernel_rfl
theorem fo123_2 : fieldOff Try.prog 123 2 = some 2 := by kernel_rfl
theorem fo126_0 : fieldOff Try.prog 126 0 = some 0 := by kernel_rfl
theorem fo126_1 : fieldOff Try.prog 126 1 = some 1 := by kernel_rfl
theorem fo126_2 : fieldOff Try.prog 126 2 = some 2 := by kernel_rfl
theorem fo126_3 : fieldOff Try.prog 126 3 = some 3 := by kernel_rfl
theorem fo128_0 : fieldOff Try.prog 128 0 = some 0 := by kernel_rfl
theorem fo128_1 : fieldOff Try.prog 128 1 = some 1 := by kernel_rfl
theorem fo128_2 : fieldOff Try.prog 128 2 = some 2 := by kernel_rfl
theorem fo128_3 : fieldOff Try.prog 128 3 = some 3 := by kernel_rfl
theorem fo130_0 : fieldOff Try.prog 130 0 = some 0 := by kernel_rfl
theorem fo130_1 : fieldOff Try.prog 130 1 = some 1 := by kernel_rfl
theorem fo130_2 : fieldOff Try.prog 130 2 = some 5 := by kernel_rfl
theorem fo132_0 : fieldOff Try.prog 132 0 = some 0 := by kernel_rfl
theorem fo132_1 : fieldOff Try.prog 132 1 = some 1 := by kernel_rfl
theorem fo134_0 : fieldOff Try.prog 134 0 = some 0 := by kernel_rfl
theorem fo134_1 : fieldOff Try.prog 134 1 = some 1 := by kernel_rfl
theorem fo141_0 : fieldOff Try.prog 141 0 = some 0 := by kernel_rfl
theorem fo141_1 : fieldOff Try.prog 141 1 = some 2 := by kernel_rfl
theorem fo141_2 : fieldOff Try.prog 141 2 = some 3 := by kernel_rfl
theorem fo144_0 : fieldOff Try.prog 144 0 = some 0 := by kernel_rfl
theorem fo144_1 : fieldOff Try.prog 144 1 = some 1 := by kernel_rfl
theorem fo61_10 : fieldOff Try.prog 61 10 = some 10 := by kernel_rfl
theorem fo61_11 : fieldOff Try.prog 61 11 = some 11 := by kernel_rfl
theorem fo61_12 : fieldOff Try.prog 61 12 = some 12 := by kernel_rfl
theorem fo61_16 : fieldOff Try.prog 61 16 = some 16 := by kernel_rfl
theorem fo61_17 : fieldOff Try.prog 61 17 = some 17 := by kernel_rfl
theorem fo61_18 : fieldOff Try.prog 61 18 = some 18 := by kernel_rfl
theorem fo61_19 : fieldOff Try.prog 61 19 = some 19 := by kernel_rfl
theorem fo61_23 : fieldOff Try.prog 61 23 = some 23 := by kernel_rfl
theorem fo61_24 : fieldOff Try.prog 61 24 = some 24 := by kernel_rfl
theorem fo61_25 : fieldOff Try.prog 61 25 = some 25 := by kernel_rfl
theorem fo61_26 : fieldOff Try.prog 61 26 = some 26 := by kernel_rfl
theorem fo61_30 : fieldOff Try.prog 61 30 = some 30 := by kernel_rfl
theorem fo61_31 : fieldOff Try.prog 61 31 = some 31 := by kernel_rfl
theorem fo61_32 : fieldOff Try.prog 61 32 = some 32 := by kernel_rfl
theorem fo61_33 : fieldOff Try.prog 61 33 = some 33 := by kernel_rfl
theorem fo61_37 : fieldOff Try.prog 61 37 = some 37 := by kernel_rfl
theorem fo61_38 : fieldOff Try.prog 61 38 = some 38 := by kernel_rfl
theorem fo61_39 : fieldOff Try.prog 61 39 = some 39 := by kernel_rfl
theorem fo61_40 : fieldOff Try.prog 61 40 = some 40 := by kernel_rfl
theorem fo61_44 : fieldOff Try.prog 61 44 = some 44 := by kernel_rfl
theorem fo61_45 : fieldOff Try.prog 61 45 = some 45 := by kernel_rfl
theorem fo61_46 : fieldOff Try.prog 61 46 = some 46 := by kernel_rfl
theorem fo61_47 : fieldOff Try.prog 61 47 = some 47 := by kernel_rfl
theorem fo61_51 : fieldOff Try.prog 61 51 = some 51 := by kernel_rfl
theorem fo61_52 : fieldOff Try.prog 61 52 = some 52 := by kernel_rfl
theorem fo61_53 : fieldOff Try.prog 61 53 = some 53 := by kernel_rfl
theorem fo61_54 : fieldOff Try.prog 61 54 = some 54 := by kernel_rfl
theorem fo61_58 : fieldOff Try.prog 61 58 = some 58 := by kernel_rfl
theorem fo61_59 : fieldOff Try.prog 61 59 = some 59 := by kernel_rfl
theorem fo61_60 : fieldOff Try.prog 61 60 = some 60 := by kernel_rfl
theorem fo61_61 : fieldOff Try.prog 61 61 = some 61 := by kernel_rfl
theorem fo61_65 : fieldOff Try.prog 61 65 = some 65 := by kernel_rfl
theorem fo61_66 : fieldOff Try.prog 61 66 = some 66 := by kernel_rfl
theorem fo61_67 : fieldOff Try.prog 61 67 = some 67 := by kernel_rfl
theorem fo61_68 : fieldOff Try.prog 61 68 = some 68 := by kernel_rfl
theorem fo61_72 : fieldOff Try.prog 61 72 = some 72 := by kernel_rfl
theorem fo61_73 : fieldOff Try.prog 61 73 = some 73 := by kernel_rfl
theorem fo61_74 : fieldOff Try.prog 61 74 = some 74 := by kernel_rfl
theorem fo61_75 : fieldOff Try.prog 61 75 = some 75 := by kernel_rfl
theorem fo61_79 : fieldOff Try.prog 61 79 = some 79 := by kernel_rfl
theorem fo61_80 : fieldOff Try.prog 61 80 = some 80 := by kernel_rfl
theorem fo61_81 : fieldOff Try.prog 61 81 = some 81 := by kernel_rfl
theorem fo61_82 : fieldOff Try.prog 61 82 = some 82 := by kernel_rfl
theorem fo61_86 : fieldOff Try.prog 61 86 = some 86 := by kernel_rfl
theorem fo61_87 : fieldOff Try.prog 61 87 = some 87 := by kernel_rfl
theorem fo61_88 : fieldOff Try.prog 61 88 = some 88 := by kernel_rfl
theorem fo61_89 : fieldOff Try.prog 61 89 = some 89 := by kernel_rfl
theorem fo61_93 : fieldOff Try.prog 61 93 = some 93 := by kernel_rfl
theorem fo61_94 : fieldOff Try.prog 61 94 = some 94 := by kernel_rfl
theorem fo61_95 : fieldOff Try.prog 61 95 = some 95 := by kernel_rfl
theorem fo61_96 : fieldOff Try.prog 61 96 = some 96 := by kernel_rfl
theorem fo61_100 : fieldOff Try.prog 61 100 = some 100 := by kernel_rfl
theorem fo61_101 : fieldOff Try.prog 61 101 = some 101 := by kernel_rfl
theorem fo61_102 : fieldOff Try.prog 61 102 = some 102 := by kernel_rfl
theorem fo61_103 : fieldOff Try.prog 61 103 = some 103 := by kernel_rfl
theorem sz2 : szT Try.prog 2 = some 1 := by kernel_rfl
theorem sz3 : szT Try.prog 3 = some 1 := by kernel_rfl
theorem sz4 : szT Try.prog 4 = some 1 := by kernel_rfl
theorem sz5 : szT Try.prog 5 = some 1 := by kernel_rfl
theorem sz9 : szT Try.prog 9 = some 1 := by kernel_rfl
theorem sz23 : szT Try.prog 23 = some 1 := by kernel_rfl
theorem sz24 : szT Try.prog 24 = some 1 := by kernel_rfl
theorem sz25 : szT Try.prog 25 = some 1 := by kernel_rfl
theorem sz29 : szT Try.prog 29 = some 1 := by kernel_rfl
theorem sz32 : szT Try.prog 32 = some 3 := by kernel_rfl
theorem sz36 : szT Try.prog 36 = some 1 := by kernel_rfl
theorem sz42 : szT Try.prog 42 = some 1 := by kernel_rfl
theorem sz46 : szT Try.prog 46 = some 1 := by kernel_rfl
theorem sz47 : szT Try.prog 47 = some 1 := by kernel_rfl
theorem sz48 : szT Try.prog 48 = some 1 := by kernel_rfl
theorem sz49 : szT Try.prog 49 = some 1 := by kernel_rfl
theorem sz50 : szT Try.prog 50 = some 1 := by kernel_rfl
theorem sz51 : szT Try.prog 51 = some 1 := by kernel_rfl
theorem sz52 : szT Try.prog 52 = some 1 := by kernel_rfl
theorem sz53 : szT Try.prog 53 = some 1 := by kernel_rfl
theorem sz54 : szT Try.prog 54 = some 1 := by kernel_rfl
theorem sz55 : szT Try.prog 55 = some 1 := by kernel_rfl
theorem sz56 : szT Try.prog 56 = some 1 := by kernel_rfl
theorem sz57 : szT Try.prog 57 = some 1 := by kernel_rfl
theorem sz58 : szT Try.prog 58 = some 1 := by kernel_rfl
theorem sz59 : szT Try.prog 59 = some 1 := by kernel_rfl
theorem sz61 : szT Try.prog 61 = some 107 := by kernel_rfl
theorem sz69 : szT Try.prog 69 = some 5 := by kernel_rfl
theorem sz72 : szT Try.prog 72 = some 5 := by kernel_rfl
theorem sz84 : szT Try.prog 84 = some 2 := by kernel_rfl
theorem sz88 : szT Try.prog 88 = some 1 := by kernel_rfl
theorem sz92 : szT Try.prog 92 = some 2 := by kernel_rfl
theorem sz94 : szT Try.prog 94 = some 1 := by kernel_rfl
theorem sz96 : szT Try.prog 96 = some 10 := by kernel_rfl
theorem sz104 : szT Try.prog 104 = some 1 := by kernel_rfl
theorem sz106 : szT Try.prog 106 = some 1 := by kernel_rfl
theorem sz108 : szT Try.prog 108 = some 1 := by kernel_rfl
theorem sz110 : szT Try.prog 110 = some 1 := by kernel_rfl
theorem sz112 : szT Try.prog 112 = some 1 := by kernel_rfl
theorem sz116 : szT Try.prog 116 = some 1 := by kernel_rfl
theorem sz118 : szT Try.prog 118 = some 1 := by kernel_rfl
theorem sz120 : szT Try.prog 120 = some 1 := by kernel_rfl
theorem sz121 : szT Try.prog 121 = some 1 := by kernel_rfl
theorem sz123 : szT Try.prog 123 = some 3 := by kernel_rfl
theorem sz126 : szT Try.prog 126 = some 4 := by kernel_rfl
theorem sz128 : szT Try.prog 128 = some 4 := by kernel_rfl
theorem sz130 : szT Try.prog 130 = some 6 := by kernel_rfl
theorem sz132 : szT Try.prog 132 = some 2 := by kernel_rfl
theorem sz134 : szT Try.prog 134 = some 2 := by kernel_rfl
theorem sz137 : szT Try.prog 137 = some 2 := by kernel_rfl
theorem sz139 : szT Try.prog 139 = some 4 := by kernel_rfl
theorem sz141 : szT Try.prog 141 = some 4 := by kernel_rfl
theorem sz144 : szT Try.prog 144 = some 7 := by kernel_rfl
theorem sz145 : szT Try.prog 145 = some 1 := by kernel_rfl
theorem ze3 : zeroT Try.prog 3 = some [.int .i64 0] := by kernel_rfl
theorem ze4 : zeroT Try.prog 4 = some [.bool false] := by kernel_rfl
theorem ze5 : zeroT Try.prog 5 = some [.int .u8 0] := by kernel_rfl
theorem ze9 : zeroT Try.prog 9 = some [.string .empty] := by kernel_rfl
theorem ze23 : zeroT Try.prog 23 = some [.slice none 0 0] := by kernel_rfl
theorem ze24 : zeroT Try.prog 24 = some [.slice none 0 0] := by kernel_rfl
theorem ze29 : zeroT Try.prog 29 = some [.slice none 0 0] := by kernel_rfl
theorem ze32 : zeroT Try.prog 32 = some [.int .i64 0, .int .i64 0, .slice none 0 0] := by kernel_rfl
theorem ze36 : zeroT Try.prog 36 = some [.slice none 0 0] := by kernel_rfl
theorem ze42 : zeroT Try.prog 42 = some [.slice none 0 0] := by kernel_rfl
theorem ze47 : zeroT Try.prog 47 = some [.slice none 0 0] := by kernel_rfl
theorem ze51 : zeroT Try.prog 51 = some [.slice none 0 0] := by kernel_rfl
theorem ze72 : zeroT Try.prog 72 = some [.int .i64 0, .int .i64 0, .int .i64 0, .int .i64 0, .slice none 0 0] := by kernel_rfl
theorem ze104 : zeroT Try.prog 104 = some [.slice none 0 0] := by kernel_rfl
theorem ze106 : zeroT Try.prog 106 = some [.slice none 0 0] := by kernel_rfl
theorem ze108 : zeroT Try.prog 108 = some [.slice none 0 0] := by kernel_rfl
theorem ze110 : zeroT Try.prog 110 = some [.slice none 0 0] := by kernel_rfl
theorem ze112 : zeroT Try.prog 112 = some [.slice none 0 0] := by kernel_rfl
theorem ze116 : zeroT Try.prog 116 = some [.slice none 0 0] := by kernel_rfl
theorem ze118 : zeroT Try.prog 118 = some [.slice none 0 0] := by kernel_rfl
theorem ze120 : zeroT Try.prog 120 = some [.slice none 0 0] := by kernel_rfl
theorem ze126 : zeroT Try.prog 126 = some [.int .i64 0, .int .i64 0, .slice none 0 0, .bool false] := by kernel_rfl
theorem ze128 : zeroT Try.prog 128 = some [.int .i64 0, .int .i64 0, .string .empty, .slice none 0 0] := by kernel_rfl
theorem ze130 : zeroT Try.prog 130 = some [.string .empty, .int .i64 0, .int .i64 0, .string .empty, .slice none 0 0, .slice none 0 0] := by kernel_rfl
theorem ze132 : zeroT Try.prog 132 = some [.string .empty, .slice none 0 0] := by kernel_rfl
theorem ze134 : zeroT Try.prog 134 = some [.int .i64 0, .slice none 0 0] := by kernel_rfl
theorem ze137 : zeroT Try.prog 137 = some [.int .i64 0, .int .u32 0] := by kernel_rfl
theorem ze139 : zeroT Try.prog 139 = some [.int .i64 0, .int .i64 0, .int .i64 0, .int .i64 0] := by kernel_rfl
theorem ze141 : zeroT Try.prog 141 = some [.int .i64 0, .slice none 0 0, .slice none 0 0, .slice none 0 0] := by kernel_rfl
theorem ze144 : zeroT Try.prog 144 = some [.int .i64 0, .string .empty, .int .i64 0, .int .i64 0, .string .empty, .slice none 0 0, .slice none 0 0] := by kernel_rfl
theorem ze145 : zeroT Try.prog 145 = some [.slice none 0 0] := by kernel_rfl
theorem nm2 : (Try.f2.name == "runtime.NumGoroutine" || Try.f2.body.isNone) = false := by kernel_rfl
instance : FnT Try.prog 2 := ⟨_, Try.func2, nm2⟩
theorem nm3 : (Try.f3.name == "runtime.NumGoroutine" || Try.f3.body.isNone) = false := by kernel_rfl
instance : FnT Try.prog 3 := ⟨_, Try.func3, nm3⟩
theorem nm4 : (Try.f4.name == "runtime.NumGoroutine" || Try.f4.body.isNone) = false := by kernel_rfl
instance : FnT Try.prog 4 := ⟨_, Try.func4, nm4⟩
theorem nm5 : (Try.f5.name == "runtime.NumGoroutine" || Try.f5.body.isNone) = false := by kernel_rfl
instance : FnT Try.prog 5 := ⟨_, Try.func5, nm5⟩
theorem nm6 : (Try.f6.name == "runtime.NumGoroutine" || Try.f6.body.isNone) = false := by kernel_rfl
instance : FnT Try.prog 6 := ⟨_, Try.func6, nm6⟩
theorem nm7 : (Try.f7.name == "runtime.NumGoroutine" || Try.f7.body.isNone) = false := by kernel_rfl
instance : FnT Try.prog 7 := ⟨_, Try.func7, nm7⟩
theorem nm8 : (Try.f8.name == "runtime.NumGoroutine" || Try.f8.body.isNone) = false := by kernel_rfl
instance : FnT Try.prog 8 := ⟨_, Try.func8, nm8⟩
theorem nm9 : (Try.f9.name == "runtime.NumGoroutine" || Try.f9.body.isNone) = false := by kernel_rfl
instance : FnT Try.prog 9 := ⟨_, Try.func9, nm9⟩
theorem nm10 : (Try.f10.name == "runtime.NumGoroutine" || Try.f10.body.isNone) = false := by kernel_rfl
instance : FnT Try.prog 10 := ⟨_, Try.func10, nm10⟩
theorem nm11 : (Try.f11.name == "runtime.NumGoroutine" || Try.f11.body.isNone) = false := by kernel_rfl
instance : FnT Try.prog 11 := ⟨_, Try.func11, nm11⟩
theorem nm12 : (Try.f12.name == "runtime.NumGoroutine" || Try.f12.body.isNone) = false := by kernel_rfl
instance : FnT Try.prog 12 := ⟨_, Try.func12, nm12⟩
theorem nm13 : (Try.f13.name == "runtime.NumGoroutine" || Try.f13.body.isNone) = false := by kernel_rfl
instance : FnT Try.prog 13 := ⟨_, Try.func13, nm13⟩
theorem nm14 : (Try.f14.name == "runtime.NumGoroutine" || Try.f14.body.isNone) = false := by kernel_rfl
instance : FnT Try.prog 14 := ⟨_, Try.func14, nm14⟩
theorem nm15 : (Try.f15.name == "runtime.NumGoroutine" || Try.f15.body.isNone) = false := by kernel_rfl
instance : FnT Try.prog 15 := ⟨_, Try.func15, nm15⟩
theorem nm16 : (Try.f16.name == "runtime.NumGoroutine" || Try.f16.body.isNone) = false := by kernel_rfl
instance : FnT Try.prog 16 := ⟨_, Try.func16, nm16⟩
theorem nm17 : (Try.f17.name == "runtime.NumGoroutine" || Try.f17.body.isNone) = false := by kernel_rfl
instance : FnT Try.prog 17 := ⟨_, Try.func17, nm17⟩
theorem nm18 : (Try.f18.name == "runtime.NumGoroutine" || Try.f18.body.isNone) = false := by kernel_rfl
instance : FnT Try.prog 18 := ⟨_, Try.func18, nm18⟩
theorem nm19 : (Try.f19.name == "runtime.NumGoroutine" || Try.f19.body.isNone) = false := by kernel_rfl
instance : FnT Try.prog 19 := ⟨_, Try.func19, nm19⟩
theorem nm20 : (Try.f20.name == "runtime.NumGoroutine" || Try.f20.body.isNone) = false := by kernel_rfl
instance : FnT Try.prog 20 := ⟨_, Try.func20, nm20⟩
theorem nm21 : (Try.f21.name == "runtime.NumGoroutine" || Try.f21.body.isNone) = false := by kernel_rfl
instance : FnT Try.prog 21 := ⟨_, Try.func21, nm21⟩
theorem nm22 : (Try.f22.name == "runtime.NumGoroutine" || Try.f22.body.isNone) = false := by kernel_rfl
instance : FnT Try.prog 22 := ⟨_, Try.func22, nm22⟩
theorem nm23 : (Try.f23.name == "runtime.NumGoroutine" || Try.f23.body.isNone) = false := by kernel_rfl
instance : FnT Try.prog 23 := ⟨_, Try.func23, nm23⟩
theorem nm24 : (Try.f24.name == "runtime.NumGoroutine" || Try.f24.body.isNone) = false := by kernel_rfl
instance : FnT Try.prog 24 := ⟨_, Try.func24, nm24⟩
theorem nm25 : (Try.f25.name == "runtime.NumGoroutine" || Try.f25.body.isNone) = false := by kernel_rfl
instance : FnT Try.prog 25 := ⟨_, Try.func25, nm25⟩
theorem nm26 : (Try.f26.name == "runtime.NumGoroutine" || Try.f26.body.isNone) = false := by kernel_rfl
instance : FnT Try.prog 26 := ⟨_, Try.func26, nm26⟩
theorem nm27 : (Try.f27.name == "runtime.NumGoroutine" || Try.f27.body.isNone) = false := by kernel_rfl
instance : FnT Try.prog 27 := ⟨_, Try.func27, nm27⟩
theorem nm28 : (Try.f28.name == "runtime.NumGoroutine" || Try.f28.body.isNone) = false := by kernel_rfl
instance : FnT Try.prog 28 := ⟨_, Try.func28, nm28⟩
theorem nm29 : (Try.f29.name == "runtime.NumGoroutine" || Try.f29.body.isNone) = false := by kernel_rfl
instance : FnT Try.prog 29 := ⟨_, Try.func29, nm29⟩
theorem nm30 : (Try.f30.name == "runtime.NumGoroutine" || Try.f30.body.isNone) = false := by kernel_rfl
instance : FnT Try.prog 30 := ⟨_, Try.func30, nm30⟩
theorem nm31 : (Try.f31.name == "runtime.NumGoroutine" || Try.f31.body.isNone) = false := by kernel_rfl
instance : FnT Try.prog 31 := ⟨_, Try.func31, nm31⟩
theorem nm32 : (Try.f32.name == "runtime.NumGoroutine" || Try.f32.body.isNone) = false := by kernel_rfl
instance : FnT Try.prog 32 := ⟨_, Try.func32, nm32⟩
theorem nm33 : (Try.f33.name == "runtime.NumGoroutine" || Try.f33.body.isNone) = false := by kernel_rfl
instance : FnT Try.prog 33 := ⟨_, Try.func33, nm33⟩
theorem nm34 : (Try.f34.name == "runtime.NumGoroutine" || Try.f34.body.isNone) = false := by kernel_rfl
instance : FnT Try.prog 34 := ⟨_, Try.func34, nm34⟩
theorem nm35 : (Try.f35.name == "runtime.NumGoroutine" || Try.f35.body.isNone) = false := by kernel_rfl
instance : FnT Try.prog 35 := ⟨_, Try.func35, nm35⟩
theorem nm36 : (Try.f36.name == "runtime.NumGoroutine" || Try.f36.body.isNone) = false := by kernel_rfl
instance : FnT Try.prog 36 := ⟨_, Try.func36, nm36⟩
theorem nm37 : (Try.f37.name == "runtime.NumGoroutine" || Try.f37.body.isNone) = false := by kernel_rfl
instance : FnT Try.prog 37 := ⟨_, Try.func37, nm37⟩
theorem nm38 : (Try.f38.name == "runtime.NumGoroutine" || Try.f38.body.isNone) = false := by kernel_rfl
instance : FnT Try.prog 38 := ⟨_, Try.func38, nm38⟩
theorem nm39 : (Try.f39.name == "runtime.NumGoroutine" || Try.f39.body.isNone) = false := by kernel_rfl
instance : FnT Try.prog 39 := ⟨_, Try.func39, nm39⟩
theorem nm40 : (Try.f40.name == "runtime.NumGoroutine" || Try.f40.body.isNone) = false := by kernel_rfl
instance : FnT Try.prog 40 := ⟨_, Try.func40, nm40⟩
theorem nm41 : (Try.f41.name == "runtime.NumGoroutine" || Try.f41.body.isNone) = false := by kernel_rfl
instance : FnT Try.prog 41 := ⟨_, Try.func41, nm41⟩
theorem nm42 : (Try.f42.name == "runtime.NumGoroutine" || Try.f42.body.isNone) = false := by kernel_rfl
instance : FnT Try.prog 42 := ⟨_, Try.func42, nm42⟩
theorem nm43 : (Try.f43.name == "runtime.NumGoroutine" || Try.f43.body.isNone) = false := by kernel_rfl
instance : FnT Try.prog 43 := ⟨_, Try.func43, nm43⟩
theorem nm44 : (Try.f44.name == "runtime.NumGoroutine" || Try.f44.body.isNone) = false := by kernel_rfl
instance : FnT Try.prog 44 := ⟨_, Try.func44, nm44⟩
theorem nm45 : (Try.f45.name == "runtime.NumGoroutine" || Try.f45.body.isNone) = false := by kernel_rfl
instance : FnT Try.prog 45 := ⟨_, Try.func45, nm45⟩
theorem nm46 : (Try.f46.name == "runtime.NumGoroutine" || Try.f46.body.isNone) = false := by kernel_rfl
instance : FnT Try.prog 46 := ⟨_, Try.func46, nm46⟩
theorem nm47 : (Try.f47.name == "runtime.NumGoroutine" || Try.f47.body.isNone) = false := by kernel_rfl
instance : FnT Try.prog 47 := ⟨_, Try.func47, nm47⟩
theorem nm48 : (Try.f48.name == "runtime.NumGoroutine" || Try.f48.body.isNone) = false := by kernel_rfl
instance : FnT Try.prog 48 := ⟨_, Try.func48, nm48⟩
theorem nm49 : (Try.f49.name == "runtime.NumGoroutine" || Try.f49.body.isNone) = false := by kernel_rfl
instance : FnT Try.prog 49 := ⟨_, Try.func49, nm49⟩
theorem nm50 : (Try.f50.name == "runtime.NumGoroutine" || Try.f50.body.isNone) = false := by kernel_rfl
instance : FnT Try.prog 50 := ⟨_, Try.func50, nm50⟩
theorem nm51 : (Try.f51.name == "runtime.NumGoroutine" || Try.f51.body.isNone) = false := by kernel_rfl
instance : FnT Try.prog 51 := ⟨_, Try.func51, nm51⟩
theorem nm52 : (Try.f52.name == "runtime.NumGoroutine" || Try.f52.body.isNone) = false := by kernel_rfl
instance : FnT Try.prog 52 := ⟨_, Try.func52, nm52⟩
theorem nm53 : (Try.f53.name == "runtime.NumGoroutine" || Try.f53.body.isNone) = false := by kernel_rfl
instance : FnT Try.prog 53 := ⟨_, Try.func53, nm53⟩
theorem nm54 : (Try.f54.name == "runtime.NumGoroutine" || Try.f54.body.isNone) = false := by kernel_rfl
instance : FnT Try.prog 54 := ⟨_, Try.func54, nm54⟩
theorem nm55 : (Try.f55.name == "runtime.NumGoroutine" || Try.f55.body.isNone) = false := by kernel_rfl
instance : FnT Try.prog 55 := ⟨_, Try.func55, nm55⟩
theorem nm56 : (Try.f56.name == "runtime.NumGoroutine" || Try.f56.body.isNone) = false := by kernel_rfl
instance : FnT Try.prog 56 := ⟨_, Try.func56, nm56⟩
theorem nm57 : (Try.f57.name == "runtime.NumGoroutine" || Try.f57.body.isNone) = false := by kernel_rfl
instance : FnT Try.prog 57 := ⟨_, Try.func57, nm57⟩
theorem nm58 : (Try.f58.name == "runtime.NumGoroutine" || Try.f58.body.isNone) = false := by kernel_rfl
instance : FnT Try.prog 58 := ⟨_, Try.func58, nm58⟩
theorem nm59 : (Try.f59.name == "runtime.NumGoroutine" || Try.f59.body.isNone) = false := by kernel_rfl
instance : FnT Try.prog 59 := ⟨_, Try.func59, nm59⟩
theorem nm60 : (Try.f60.name == "runtime.NumGoroutine" || Try.f60.body.isNone) = false := by kernel_rfl
instance : FnT Try.prog 60 := ⟨_, Try.func60, nm60⟩
theorem nm61 : (Try.f61.name == "runtime.NumGoroutine" || Try.f61.body.isNone) = false := by kernel_rfl
instance : FnT Try.prog 61 := ⟨_, Try.func61, nm61⟩
theorem nm62 : (Try.f62.name == "runtime.NumGoroutine" || Try.f62.body.isNone) = false := by kernel_rfl
instance : FnT Try.prog 62 := ⟨_, Try.func62, nm62⟩
theorem nm63 : (Try.f63.name == "runtime.NumGoroutine" || Try.f63.body.isNone) = false := by kernel_rfl
instance : FnT Try.prog 63 := ⟨_, Try.func63, nm63⟩
theorem nm64 : (Try.f64.name == "runtime.NumGoroutine" || Try.f64.body.isNone) = false := by kernel_rfl
instance : FnT Try.prog 64 := ⟨_, Try.func64, nm64⟩
theorem nm65 : (Try.f65.name == "runtime.NumGoroutine" || Try.f65.body.isNone) = false := by kernel_rfl
instance : FnT Try.prog 65 := ⟨_, Try.func65, nm65⟩
theorem nm66 : (Try.f66.name == "runtime.NumGoroutine" || Try.f66.body.isNone) = false := by kernel_rfl
instance : FnT Try.prog 66 := ⟨_, Try.func66, nm66⟩
theorem nm67 : (Try.f67.name == "runtime.NumGoroutine" || Try.f67.body.isNone) = false := by kernel_rfl
instance : FnT Try.prog 67 := ⟨_, Try.func67, nm67⟩
theorem nm68 : (Try.f68.name == "runtime.NumGoroutine" || Try.f68.body.isNone) = false := by kernel_rfl
instance : FnT Try.prog 68 := ⟨_, Try.func68, nm68⟩
theorem nm69 : (Try.f69.name == "runtime.NumGoroutine" || Try.f69.body.isNone) = false := by kernel_rfl
instance : FnT Try.prog 69 := ⟨_, Try.func69, nm69⟩
theorem nm70 : (Try.f70.name == "runtime.NumGoroutine" || Try.f70.body.isNone) = false := by kernel_rfl
instance : FnT Try.prog 70 := ⟨_, Try.func70, nm70⟩
theorem nm71 : (Try.f71.name == "runtime.NumGoroutine" || Try.f71.body.isNone) = false := by kernel_rfl
instance : FnT Try.prog 71 := ⟨_, Try.func71, nm71⟩
theorem nm72 : (Try.f72.name == "runtime.NumGoroutine" || Try.f72.body.isNone) = false := by kernel_rfl
instance : FnT Try.prog 72 := ⟨_, Try.func72, nm72⟩
theorem nm73 : (Try.f73.name == "runtime.NumGoroutine" || Try.f73.body.isNone) = false := by kernel_rfl
instance : FnT Try.prog 73 := ⟨_, Try.func73, nm73⟩
theorem nm74 : (Try.f74.name == "runtime.NumGoroutine" || Try.f74.body.isNone) = false := by kernel_rfl
instance : FnT Try.prog 74 := ⟨_, Try.func74, nm74⟩
theorem nm75 : (Try.f75.name == "runtime.NumGoroutine" || Try.f75.body.isNone) = false := by kernel_rfl
instance : FnT Try.prog 75 := ⟨_, Try.func75, nm75⟩
theorem nm76 : (Try.f76.name == "runtime.NumGoroutine" || Try.f76.body.isNone) = false := by kernel_rfl
instance : FnT Try.prog 76 := ⟨_, Try.func76, nm76⟩
theorem nm77 : (Try.f77.name == "runtime.NumGoroutine" || Try.f77.body.isNone) = false := by kernel_rfl
instance : FnT Try.prog 77 := ⟨_, Try.func77, nm77⟩
theorem nm78 : (Try.f78.name == "runtime.NumGoroutine" || Try.f78.body.isNone) = false := by kernel_rfl
instance : FnT Try.prog 78 := ⟨_, Try.func78, nm78⟩
theorem nm79 : (Try.f79.name == "runtime.NumGoroutine" || Try.f79.body.isNone) = false := by kernel_rfl
instance : FnT Try.prog 79 := ⟨_, Try.func79, nm79⟩
theorem nm80 : (Try.f80.name == "runtime.NumGoroutine" || Try.f80.body.isNone) = false := by kernel_rfl
instance : FnT Try.prog 80 := ⟨_, Try.func80, nm80⟩
theorem nm81 : (Try.f81.name == "runtime.NumGoroutine" || Try.f81.body.isNone) = false := by kernel_rfl
instance : FnT Try.prog 81 := ⟨_, Try.func81, nm81⟩
theorem nm82 : (Try.f82.name == "runtime.NumGoroutine" || Try.f82.body.isNone) = false := by kernel_rfl
instance : FnT Try.prog 82 := ⟨_, Try.func82, nm82⟩
theorem nm83 : (Try.f83.name == "runtime.NumGoroutine" || Try.f83.body.isNone) = false := by kernel_rfl
instance : FnT Try.prog 83 := ⟨_, Try.func83, nm83⟩
theorem nm84 : (Try.f84.name == "runtime.NumGoroutine" || Try.f84.body.isNone) = false := by kernel_rfl
instance : FnT Try.prog 84 := ⟨_, Try.func84, nm84⟩
theorem nm85 : (Try.f85.name == "runtime.NumGoroutine" || Try.f85.body.isNone) = false := by kernel_rfl
instance : FnT Try.prog 85 := ⟨_, Try.func85, nm85⟩
theorem nm86 : (Try.f86.name == "runtime.NumGoroutine" || Try.f86.body.isNone) = false := by kernel_rfl
instance : FnT Try.prog 86 := ⟨_, Try.func86, nm86⟩
theorem nm87 : (Try.f87.name == "runtime.NumGoroutine" || Try.f87.body.isNone) = false := by kernel_rfl
instance : FnT Try.prog 87 := ⟨_, Try.func87, nm87⟩
theorem nm88 : (Try.f88.name == "runtime.NumGoroutine" || Try.f88.body.isNone) = false := by kernel_rfl
instance : FnT Try.prog 88 := ⟨_, Try.func88, nm88⟩
instance : AgT Try.prog 2 (false) := ⟨ag2⟩
instance : AgT Try.prog 3 (false) := ⟨ag3⟩
instance : AgT Try.prog 4 (false) := ⟨ag4⟩
instance : AgT Try.prog 5 (false) := ⟨ag5⟩
instance : AgT Try.prog 9 (false) := ⟨ag9⟩
instance : AgT Try.prog 23 (false) := ⟨ag23⟩
instance : AgT Try.prog 24 (false) := ⟨ag24⟩
instance : AgT Try.prog 25 (false) := ⟨ag25⟩
instance : AgT Try.prog 29 (false) := ⟨ag29⟩
instance : AgT Try.prog 32 (true) := ⟨ag32⟩
instance : AgT Try.prog 36 (false) := ⟨ag36⟩
instance : AgT Try.prog 42 (false) := ⟨ag42⟩
instance : AgT Try.prog 46 (false) := ⟨ag46⟩
instance : AgT Try.prog 47 (false) := ⟨ag47⟩
instance : AgT Try.prog 48 (false) := ⟨ag48⟩
instance : AgT Try.prog 49 (false) := ⟨ag49⟩
instance : AgT Try.prog 50 (false) := ⟨ag50⟩
instance : AgT Try.prog 51 (false) := ⟨ag51⟩
instance : AgT Try.prog 52 (false) := ⟨ag52⟩
instance : AgT Try.prog 53 (false) := ⟨ag53⟩
instance : AgT Try.prog 54 (false) := ⟨ag54⟩
instance : AgT Try.prog 55 (false) := ⟨ag55⟩
instance : AgT Try.prog 56 (false) := ⟨ag56⟩
instance : AgT Try.prog 57 (false) := ⟨ag57⟩
instance : AgT Try.prog 58 (false) := ⟨ag58⟩
instance : AgT Try.prog 59 (false) := ⟨ag59⟩
instance : AgT Try.prog 72 (true) := ⟨ag72⟩
instance : AgT Try.prog 88 (false) := ⟨ag88⟩
instance : AgT Try.prog 94 (false) := ⟨ag94⟩
instance : AgT Try.prog 104 (false) := ⟨ag104⟩
instance : AgT Try.prog 106 (false) := ⟨ag106⟩
instance : AgT Try.prog 108 (false) := ⟨ag108⟩
instance : AgT Try.prog 110 (false) := ⟨ag110⟩
instance : AgT Try.prog 112 (false) := ⟨ag112⟩
instance : AgT Try.prog 116 (false) := ⟨ag116⟩
instance : AgT Try.prog 118 (false) := ⟨ag118⟩
instance : AgT Try.prog 120 (false) := ⟨ag120⟩
instance : AgT Try.prog 121 (false) := ⟨ag121⟩
instance : AgT Try.prog 126 (true) := ⟨ag126⟩
instance : AgT Try.prog 128 (true) := ⟨ag128⟩
instance : AgT Try.prog 130 (true) := ⟨ag130⟩
instance : AgT Try.prog 132 (true) := ⟨ag132⟩
instance : AgT Try.prog 134 (true) := ⟨ag134⟩
instance : AgT Try.prog 137 (true) := ⟨ag137⟩
instance : AgT Try.prog 139 (true) := ⟨ag139⟩
instance : AgT Try.prog 141 (true) := ⟨ag141⟩
instance : AgT Try.prog 144 (true) := ⟨ag144⟩
instance : AgT Try.prog 145 (false) := ⟨ag145⟩
instance : BuT Try.prog 32 #[(0, 1), (1, 1), (2, 1)] [.int .i64 0, .int .i64 0, .slice none 0 0] := ⟨bu32⟩
instance : BuT Try.prog 61 #[(0, 1), (1, 1), (2, 1), (3, 1), (4, 1), (5, 1), (6, 1), (7, 1), (8, 1), (9, 1), (10, 1), (11, 1), (12, 1), (13, 1), (14, 1), (15, 1), (16, 1), (17, 1), (18, 1), (19, 1), (20, 1), (21, 1), (22, 1), (23, 1), (24, 1), (25, 1), (26, 1), (27, 1), (28, 1), (29, 1), (30, 1), (31, 1), (32, 1), (33, 1), (34, 1), (35, 1), (36, 1), (37, 1), (38, 1), (39, 1), (40, 1), (41, 1), (42, 1), (43, 1), (44, 1), (45, 1), (46, 1), (47, 1), (48, 1), (49, 1), (50, 1), (51, 1), (52, 1), (53, 1), (54, 1), (55, 1), (56, 1), (57, 1), (58, 1), (59, 1), (60, 1), (61, 1), (62, 1), (63, 1), (64, 1), (65, 1), (66, 1), (67, 1), (68, 1), (69, 1), (70, 1), (71, 1), (72, 1), (73, 1), (74, 1), (75, 1), (76, 1), (77, 1), (78, 1), (79, 1), (80, 1), (81, 1), (82, 1), (83, 1), (84, 1), (85, 1), (86, 1), (87, 1), (88, 1), (89, 1), (90, 1), (91, 1), (92, 1), (93, 1), (94, 1), (95, 1), (96, 1), (97, 1), (98, 1), (99, 1), (100, 1), (101, 1), (102, 1), (103, 1), (104, 1), (105, 1), (106, 1)] [.bool false, .bool false, .slice none 0 0, .slice none 0 0, .slice none 0 0, .slice none 0 0, .slice none 0 0, .slice none 0 0, .int .i64 0, .slice none 0 0, .slice none 0 0, .slice none 0 0, .slice none 0 0, .slice none 0 0, .slice none 0 0, .int .i64 0, .slice none 0 0, .slice none 0 0, .slice none 0 0, .slice none 0 0, .slice none 0 0, .slice none 0 0, .int .i64 0, .slice none 0 0, .slice none 0 0, .slice none 0 0, .slice none 0 0, .slice none 0 0, .slice none 0 0, .int .i64 0, .slice none 0 0, .slice none 0 0, .slice none 0 0, .slice none 0 0, .slice none 0 0, .slice none 0 0, .int .i64 0, .slice none 0 0, .slice none 0 0, .slice none 0 0, .slice none 0 0, .slice none 0 0, .slice none 0 0, .int .i64 0, .slice none 0 0, .slice none 0 0, .slice none 0 0, .slice none 0 0, .slice none 0 0, .slice none 0 0, .int .i64 0, .slice none 0 0, .slice none 0 0, .slice none 0 0, .slice none 0 0, .slice none 0 0, .slice none 0 0, .int .i64 0, .slice none 0 0, .slice none 0 0, .slice none 0 0, .slice none 0 0, .slice none 0 0, .slice none 0 0, .int .i64 0, .slice none 0 0, .slice none 0 0, .slice none 0 0, .slice none 0 0, .slice none 0 0, .slice none 0 0, .int .i64 0, .slice none 0 0, .slice none 0 0, .slice none 0 0, .slice none 0 0, .slice none 0 0, .slice none 0 0, .int .i64 0, .slice none 0 0, .slice none 0 0, .slice none 0 0, .slice none 0 0, .slice none 0 0, .slice none 0 0, .int .i64 0, .slice none 0 0, .slice none 0 0, .slice none 0 0, .slice none 0 0, .slice none 0 0, .slice none 0 0, .int .i64 0, .slice none 0 0, .slice none 0 0, .slice none 0 0, .slice none 0 0, .slice none 0 0, .slice none 0 0, .int .i64 0, .slice none 0 0, .slice none 0 0, .slice none 0 0, .slice none 0 0, .slice none 0 0, .slice none 0 0, .int .i64 0] := ⟨bu61⟩
instance : BuT Try.prog 69 #[(0, 1), (1, 1), (2, 1), (3, 1), (4, 1)] [.slice none 0 0, .int .i64 0, .int .i64 0, .int .i64 0, .int .i64 0] := ⟨bu69⟩
instance : BuT Try.prog 72 #[(0, 1), (1, 1), (2, 1), (3, 1), (4, 1)] [.int .i64 0, .int .i64 0, .int .i64 0, .int .i64 0, .slice none 0 0] := ⟨bu72⟩
instance : BuT Try.prog 84 #[(0, 1), (1, 1)] [.int .i64 0, .slice none 0 0] := ⟨bu84⟩
instance : BuT Try.prog 92 #[(0, 1), (1, 1)] [.pointer none, .pointer none] := ⟨bu92⟩
instance : BuT Try.prog 96 #[(0, 1), (1, 1), (2, 1), (3, 1), (4, 1), (5, 1), (6, 1), (7, 1), (8, 1), (9, 1)] [.slice none 0 0, .slice none 0 0, .slice none 0 0, .slice none 0 0, .slice none 0 0, .slice none 0 0, .slice none 0 0, .slice none 0 0, .slice none 0 0, .slice none 0 0] := ⟨bu96⟩
instance : BuT Try.prog 123 #[(0, 1), (1, 1), (2, 1)] [.int .i64 0, .slice none 0 0, .int .i64 0] := ⟨bu123⟩
instance : BuT Try.prog 126 #[(0, 1), (1, 1), (2, 1), (3, 1)] [.int .i64 0, .int .i64 0, .slice none 0 0, .bool false] := ⟨bu126⟩
instance : ByT Try.prog 3 (8) := ⟨by3⟩
instance : ByT Try.prog 4 (1) := ⟨by4⟩
instance : ByT Try.prog 5 (1) := ⟨by5⟩
instance : ByT Try.prog 9 (16) := ⟨by9⟩
instance : ByT Try.prog 23 (24) := ⟨by23⟩
instance : ByT Try.prog 24 (24) := ⟨by24⟩
instance : ByT Try.prog 29 (24) := ⟨by29⟩
instance : ByT Try.prog 32 (40) := ⟨by32⟩
instance : ByT Try.prog 36 (24) := ⟨by36⟩
instance : ByT Try.prog 42 (24) := ⟨by42⟩
instance : ByT Try.prog 47 (24) := ⟨by47⟩
instance : ByT Try.prog 51 (24) := ⟨by51⟩
instance : ByT Try.prog 72 (56) := ⟨by72⟩
instance : ByT Try.prog 104 (24) := ⟨by104⟩
instance : ByT Try.prog 106 (24) := ⟨by106⟩
instance : ByT Try.prog 108 (24) := ⟨by108⟩
instance : ByT Try.prog 110 (24) := ⟨by110⟩
instance : ByT Try.prog 112 (24) := ⟨by112⟩
instance : ByT Try.prog 116 (24) := ⟨by116⟩
instance : ByT Try.prog 118 (24) := ⟨by118⟩
instance : ByT Try.prog 120 (24) := ⟨by120⟩
instance : ByT Try.prog 126 (48) := ⟨by126⟩
instance : ByT Try.prog 128 (56) := ⟨by128⟩
instance : ByT Try.prog 130 (96) := ⟨by130⟩
instance : ByT Try.prog 132 (40) := ⟨by132⟩
instance : ByT Try.prog 134 (32) := ⟨by134⟩
instance : ByT Try.prog 137 (16) := ⟨by137⟩
instance : ByT Try.prog 139 (32) := ⟨by139⟩
instance : ByT Try.prog 141 (80) := ⟨by141⟩
instance : ByT Try.prog 144 (104) := ⟨by144⟩
instance : ByT Try.prog 145 (24) := ⟨by145⟩
instance : EsT Try.prog 23 (1) := ⟨es23⟩
instance : EsT Try.prog 24 (1) := ⟨es24⟩
instance : EsT Try.prog 29 (1) := ⟨es29⟩
instance : EsT Try.prog 36 (3) := ⟨es36⟩
instance : EsT Try.prog 42 (1) := ⟨es42⟩
instance : EsT Try.prog 46 (1) := ⟨es46⟩
instance : EsT Try.prog 47 (1) := ⟨es47⟩
instance : EsT Try.prog 48 (1) := ⟨es48⟩
instance : EsT Try.prog 49 (1) := ⟨es49⟩
instance : EsT Try.prog 50 (1) := ⟨es50⟩
instance : EsT Try.prog 51 (1) := ⟨es51⟩
instance : EsT Try.prog 52 (1) := ⟨es52⟩
instance : EsT Try.prog 53 (1) := ⟨es53⟩
instance : EsT Try.prog 54 (1) := ⟨es54⟩
instance : EsT Try.prog 55 (1) := ⟨es55⟩
instance : EsT Try.prog 56 (1) := ⟨es56⟩
instance : EsT Try.prog 57 (1) := ⟨es57⟩
instance : EsT Try.prog 58 (1) := ⟨es58⟩
instance : EsT Try.prog 59 (1) := ⟨es59⟩
instance : EsT Try.prog 66 (5) := ⟨es66⟩
instance : EsT Try.prog 94 (1) := ⟨es94⟩
instance : EsT Try.prog 104 (1) := ⟨es104⟩
instance : EsT Try.prog 106 (4) := ⟨es106⟩
instance : EsT Try.prog 108 (6) := ⟨es108⟩
instance : EsT Try.prog 110 (2) := ⟨es110⟩
instance : EsT Try.prog 112 (2) := ⟨es112⟩
instance : EsT Try.prog 116 (2) := ⟨es116⟩
instance : EsT Try.prog 118 (4) := ⟨es118⟩
instance : EsT Try.prog 120 (4) := ⟨es120⟩
instance : EsT Try.prog 121 (4) := ⟨es121⟩
instance : EsT Try.prog 145 (7) := ⟨es145⟩
instance : FoT Try.prog 32 0 0 := ⟨fo32_0⟩
instance : FoT Try.prog 32 1 1 := ⟨fo32_1⟩
instance : FoT Try.prog 32 2 2 := ⟨fo32_2⟩
instance : FoT Try.prog 61 0 0 := ⟨fo61_0⟩
instance : FoT Try.prog 61 1 1 := ⟨fo61_1⟩
instance : FoT Try.prog 61 2 2 := ⟨fo61_2⟩
instance : FoT Try.prog 61 3 3 := ⟨fo61_3⟩
instance : FoT Try.prog 61 4 4 := ⟨fo61_4⟩
instance : FoT Try.prog 61 5 5 := ⟨fo61_5⟩
instance : FoT Try.prog 61 6 6 := ⟨fo61_6⟩
instance : FoT Try.prog 61 7 7 := ⟨fo61_7⟩
instance : FoT Try.prog 61 8 8 := ⟨fo61_8⟩
instance : FoT Try.prog 61 9 9 := ⟨fo61_9⟩
instance : FoT Try.prog 69 0 0 := ⟨fo69_0⟩
instance : FoT Try.prog 69 1 1 := ⟨fo69_1⟩
instance : FoT Try.prog 69 2 2 := ⟨fo69_2⟩
instance : FoT Try.prog 69 3 3 := ⟨fo69_3⟩
instance : FoT Try.prog 69 4 4 := ⟨fo69_4⟩
instance : FoT Try.prog 72 0 0 := ⟨fo72_0⟩
instance : FoT Try.prog 72 1 1 := ⟨fo72_1⟩
instance : FoT Try.prog 72 2 2 := ⟨fo72_2⟩
instance : FoT Try.prog 72 3 3 := ⟨fo72_3⟩
instance : FoT Try.prog 72 4 4 := ⟨fo72_4⟩
instance : FoT Try.prog 84 0 0 := ⟨fo84_0⟩
instance : FoT Try.prog 84 1 1 := ⟨fo84_1⟩
instance : FoT Try.prog 92 0 0 := ⟨fo92_0⟩
instance : FoT Try.prog 92 1 1 := ⟨fo92_1⟩
instance : FoT Try.prog 96 0 0 := ⟨fo96_0⟩
instance : FoT Try.prog 96 1 1 := ⟨fo96_1⟩
instance : FoT Try.prog 96 2 2 := ⟨fo96_2⟩
instance : FoT Try.prog 96 3 3 := ⟨fo96_3⟩
instance : FoT Try.prog 96 4 4 := ⟨fo96_4⟩
instance : FoT Try.prog 96 5 5 := ⟨fo96_5⟩
instance : FoT Try.prog 96 6 6 := ⟨fo96_6⟩
instance : FoT Try.prog 96 7 7 := ⟨fo96_7⟩
instance : FoT Try.prog 96 8 8 := ⟨fo96_8⟩
instance : FoT Try.prog 96 9 9 := ⟨fo96_9⟩
instance : FoT Try.prog 123 0 0 := ⟨fo123_0⟩
instance : FoT Try.prog 123 1 1 := ⟨fo123_1⟩
instance : FoT Try.prog 123 2 2 := ⟨fo123_2⟩
instance : FoT Try.prog 126 0 0 := ⟨fo126_0⟩
instance : FoT Try.prog 126 1 1 := ⟨fo126_1⟩
instance : FoT Try.prog 126 2 2 := ⟨fo126_2⟩
instance : FoT Try.prog 126 3 3 := ⟨fo126_3⟩
instance : FoT Try.prog 128 0 0 := ⟨fo128_0⟩
instance : FoT Try.prog 128 1 1 := ⟨fo128_1⟩
instance : FoT Try.prog 128 2 2 := ⟨fo128_2⟩
instance : FoT Try.prog 128 3 3 := ⟨fo128_3⟩
instance : FoT Try.prog 130 0 0 := ⟨fo130_0⟩
instance : FoT Try.prog 130 1 1 := ⟨fo130_1⟩
instance : FoT Try.prog 130 2 5 := ⟨fo130_2⟩
instance : FoT Try.prog 132 0 0 := ⟨fo132_0⟩
instance : FoT Try.prog 132 1 1 := ⟨fo132_1⟩
instance : FoT Try.prog 134 0 0 := ⟨fo134_0⟩
instance : FoT Try.prog 134 1 1 := ⟨fo134_1⟩
instance : FoT Try.prog 141 0 0 := ⟨fo141_0⟩
instance : FoT Try.prog 141 1 2 := ⟨fo141_1⟩
instance : FoT Try.prog 141 2 3 := ⟨fo141_2⟩
instance : FoT Try.prog 144 0 0 := ⟨fo144_0⟩
instance : FoT Try.prog 144 1 1 := ⟨fo144_1⟩
instance : FoT Try.prog 61 10 10 := ⟨fo61_10⟩
instance : FoT Try.prog 61 11 11 := ⟨fo61_11⟩
instance : FoT Try.prog 61 12 12 := ⟨fo61_12⟩
instance : FoT Try.prog 61 16 16 := ⟨fo61_16⟩
instance : FoT Try.prog 61 17 17 := ⟨fo61_17⟩
instance : FoT Try.prog 61 18 18 := ⟨fo61_18⟩
instance : FoT Try.prog 61 19 19 := ⟨fo61_19⟩
instance : FoT Try.prog 61 23 23 := ⟨fo61_23⟩
instance : FoT Try.prog 61 24 24 := ⟨fo61_24⟩
instance : FoT Try.prog 61 25 25 := ⟨fo61_25⟩
instance : FoT Try.prog 61 26 26 := ⟨fo61_26⟩
instance : FoT Try.prog 61 30 30 := ⟨fo61_30⟩
instance : FoT Try.prog 61 31 31 := ⟨fo61_31⟩
instance : FoT Try.prog 61 32 32 := ⟨fo61_32⟩
instance : FoT Try.prog 61 33 33 := ⟨fo61_33⟩
instance : FoT Try.prog 61 37 37 := ⟨fo61_37⟩
instance : FoT Try.prog 61 38 38 := ⟨fo61_38⟩
instance : FoT Try.prog 61 39 39 := ⟨fo61_39⟩
instance : FoT Try.prog 61 40 40 := ⟨fo61_40⟩
instance : FoT Try.prog 61 44 44 := ⟨fo61_44⟩
instance : FoT Try.prog 61 45 45 := ⟨fo61_45⟩
instance : FoT Try.prog 61 46 46 := ⟨fo61_46⟩
instance : FoT Try.prog 61 47 47 := ⟨fo61_47⟩
instance : FoT Try.prog 61 51 51 := ⟨fo61_51⟩
instance : FoT Try.prog 61 52 52 := ⟨fo61_52⟩
instance : FoT Try.prog 61 53 53 := ⟨fo61_53⟩
instance : FoT Try.prog 61 54 54 := ⟨fo61_54⟩
instance : FoT Try.prog 61 58 58 := ⟨fo61_58⟩
instance : FoT Try.prog 61 59 59 := ⟨fo61_59⟩
instance : FoT Try.prog 61 60 60 := ⟨fo61_60⟩
instance : FoT Try.prog 61 61 61 := ⟨fo61_61⟩
instance : FoT Try.prog 61 65 65 := ⟨fo61_65⟩
instance : FoT Try.prog 61 66 66 := ⟨fo61_66⟩
instance : FoT Try.prog 61 67 67 := ⟨fo61_67⟩
instance : FoT Try.prog 61 68 68 := ⟨fo61_68⟩
instance : FoT Try.prog 61 72 72 := ⟨fo61_72⟩
instance : FoT Try.prog 61 73 73 := ⟨fo61_73⟩
instance : FoT Try.prog 61 74 74 := ⟨fo61_74⟩
instance : FoT Try.prog 61 75 75 := ⟨fo61_75⟩
instance : FoT Try.prog 61 79 79 := ⟨fo61_79⟩
instance : FoT Try.prog 61 80 80 := ⟨fo61_80⟩
instance : FoT Try.prog 61 81 81 := ⟨fo61_81⟩
instance : FoT Try.prog 61 82 82 := ⟨fo61_82⟩
instance : FoT Try.prog 61 86 86 := ⟨fo61_86⟩
instance : FoT Try.prog 61 87 87 := ⟨fo61_87⟩
instance : FoT Try.prog 61 88 88 := ⟨fo61_88⟩
instance : FoT Try.prog 61 89 89 := ⟨fo61_89⟩
instance : FoT Try.prog 61 93 93 := ⟨fo61_93⟩
instance : FoT Try.prog 61 94 94 := ⟨fo61_94⟩
instance : FoT Try.prog 61 95 95 := ⟨fo61_95⟩
instance : FoT Try.prog 61 96 96 := ⟨fo61_96⟩
instance : FoT Try.prog 61 100 100 := ⟨fo61_100⟩
instance : FoT Try.prog 61 101 101 := ⟨fo61_101⟩
instance : FoT Try.prog 61 102 102 := ⟨fo61_102⟩
instance : FoT Try.prog 61 103 103 := ⟨fo61_103⟩
instance : SzT Try.prog 2 (1) := ⟨sz2⟩
instance : SzT Try.prog 3 (1) := ⟨sz3⟩
instance : SzT Try.prog 4 (1) := ⟨sz4⟩
instance : SzT Try.prog 5 (1) := ⟨sz5⟩
instance : SzT Try.prog 9 (1) := ⟨sz9⟩
instance : SzT Try.prog 23 (1) := ⟨sz23⟩
instance : SzT Try.prog 24 (1) := ⟨sz24⟩
instance : SzT Try.prog 25 (1) := ⟨sz25⟩
instance : SzT Try.prog 29 (1) := ⟨sz29⟩
instance : SzT Try.prog 32 (3) := ⟨sz32⟩
instance : SzT Try.prog 36 (1) := ⟨sz36⟩
instance : SzT Try.prog 42 (1) := ⟨sz42⟩
instance : SzT Try.prog 46 (1) := ⟨sz46⟩
instance : SzT Try.prog 47 (1) := ⟨sz47⟩
instance : SzT Try.prog 48 (1) := ⟨sz48⟩
instance : SzT Try.prog 49 (1) := ⟨sz49⟩
instance : SzT Try.prog 50 (1) := ⟨sz50⟩
instance : SzT Try.prog 51 (1) := ⟨sz51⟩
instance : SzT Try.prog 52 (1) := ⟨sz52⟩
instance : SzT Try.prog 53 (1) := ⟨sz53⟩
instance : SzT Try.prog 54 (1) := ⟨sz54⟩
instance : SzT Try.prog 55 (1) := ⟨sz55⟩
instance : SzT Try.prog 56 (1) := ⟨sz56⟩
instance : SzT Try.prog 57 (1) := ⟨sz57⟩
instance : SzT Try.prog 58 (1) := ⟨sz58⟩
instance : SzT Try.prog 59 (1) := ⟨sz59⟩
instance : SzT Try.prog 61 (107) := ⟨sz61⟩
instance : SzT Try.prog 69 (5) := ⟨sz69⟩
instance : SzT Try.prog 72 (5) := ⟨sz72⟩
instance : SzT Try.prog 84 (2) := ⟨sz84⟩
instance : SzT Try.prog 88 (1) := ⟨sz88⟩
instance : SzT Try.prog 92 (2) := ⟨sz92⟩
instance : SzT Try.prog 94 (1) := ⟨sz94⟩
instance : SzT Try.prog 96 (10) := ⟨sz96⟩
instance : SzT Try.prog 104 (1) := ⟨sz104⟩
instance : SzT Try.prog 106 (1) := ⟨sz106⟩
instance : SzT Try.prog 108 (1) := ⟨sz108⟩
instance : SzT Try.prog 110 (1) := ⟨sz110⟩
instance : SzT Try.prog 112 (1) := ⟨sz112⟩
instance : SzT Try.prog 116 (1) := ⟨sz116⟩
instance : SzT Try.prog 118 (1) := ⟨sz118⟩
instance : SzT Try.prog 120 (1) := ⟨sz120⟩
instance : SzT Try.prog 121 (1) := ⟨sz121⟩
instance : SzT Try.prog 123 (3) := ⟨sz123⟩
instance : SzT Try.prog 126 (4) := ⟨sz126⟩
instance : SzT Try.prog 128 (4) := ⟨sz128⟩
instance : SzT Try.prog 130 (6) := ⟨sz130⟩
instance : SzT Try.prog 132 (2) := ⟨sz132⟩
instance : SzT Try.prog 134 (2) := ⟨sz134⟩
instance : SzT Try.prog 137 (2) := ⟨sz137⟩
instance : SzT Try.prog 139 (4) := ⟨sz139⟩
instance : SzT Try.prog 141 (4) := ⟨sz141⟩
instance : SzT Try.prog 144 (7) := ⟨sz144⟩
instance : SzT Try.prog 145 (1) := ⟨sz145⟩
instance : UnT Try.prog 2 (.int .i64) := ⟨Try.underlying2⟩
instance : UnT Try.prog 3 (.int .i64) := ⟨Try.underlying3⟩
instance : UnT Try.prog 4 .bool := ⟨Try.underlying4⟩
instance : UnT Try.prog 5 (.int .u8) := ⟨Try.underlying5⟩
instance : UnT Try.prog 9 .string := ⟨Try.underlying9⟩
instance : UnT Try.prog 23 (.slice 29) := ⟨Try.underlying23⟩
instance : UnT Try.prog 24 (.slice 4) := ⟨Try.underlying24⟩
instance : UnT Try.prog 25 (.pointer 84) := ⟨Try.underlying25⟩
instance : UnT Try.prog 26 (.int .i64) := ⟨Try.underlying26⟩
instance : UnT Try.prog 29 (.slice 5) := ⟨Try.underlying29⟩
instance : UnT Try.prog 36 (.slice 32) := ⟨Try.underlying36⟩
instance : UnT Try.prog 42 (.slice 3) := ⟨Try.underlying42⟩
instance : UnT Try.prog 46 (.slice 23) := ⟨Try.underlying46⟩
instance : UnT Try.prog 47 (.slice 42) := ⟨Try.underlying47⟩
instance : UnT Try.prog 48 (.slice 24) := ⟨Try.underlying48⟩
instance : UnT Try.prog 49 (.slice 104) := ⟨Try.underlying49⟩
instance : UnT Try.prog 50 (.slice 106) := ⟨Try.underlying50⟩
instance : UnT Try.prog 51 (.slice 108) := ⟨Try.underlying51⟩
instance : UnT Try.prog 52 (.slice 110) := ⟨Try.underlying52⟩
instance : UnT Try.prog 53 (.slice 112) := ⟨Try.underlying53⟩
instance : UnT Try.prog 54 (.slice 51) := ⟨Try.underlying54⟩
instance : UnT Try.prog 55 (.slice 47) := ⟨Try.underlying55⟩
instance : UnT Try.prog 56 (.slice 116) := ⟨Try.underlying56⟩
instance : UnT Try.prog 57 (.slice 118) := ⟨Try.underlying57⟩
instance : UnT Try.prog 58 (.slice 120) := ⟨Try.underlying58⟩
instance : UnT Try.prog 59 (.slice 36) := ⟨Try.underlying59⟩
instance : UnT Try.prog 66 (.slice 72) := ⟨Try.underlying66⟩
instance : UnT Try.prog 88 (.pointer 123) := ⟨Try.underlying88⟩
instance : UnT Try.prog 94 (.slice 145) := ⟨Try.underlying94⟩
instance : UnT Try.prog 104 (.slice 9) := ⟨Try.underlying104⟩
instance : UnT Try.prog 106 (.slice 128) := ⟨Try.underlying106⟩
instance : UnT Try.prog 108 (.slice 130) := ⟨Try.underlying108⟩
instance : UnT Try.prog 110 (.slice 132) := ⟨Try.underlying110⟩
instance : UnT Try.prog 112 (.slice 134) := ⟨Try.underlying112⟩
instance : UnT Try.prog 116 (.slice 137) := ⟨Try.underlying116⟩
instance : UnT Try.prog 118 (.slice 139) := ⟨Try.underlying118⟩
instance : UnT Try.prog 120 (.slice 141) := ⟨Try.underlying120⟩
instance : UnT Try.prog 121 (.slice 126) := ⟨Try.underlying121⟩
instance : UnT Try.prog 145 (.slice 144) := ⟨Try.underlying145⟩
instance : ZeT Try.prog 3 ([.int .i64 0]) := ⟨ze3⟩
instance : ZeT Try.prog 4 ([.bool false]) := ⟨ze4⟩
instance : ZeT Try.prog 5 ([.int .u8 0]) := ⟨ze5⟩
instance : ZeT Try.prog 9 ([.string .empty]) := ⟨ze9⟩
instance : ZeT Try.prog 23 ([.slice none 0 0]) := ⟨ze23⟩
instance : ZeT Try.prog 24 ([.slice none 0 0]) := ⟨ze24⟩
instance : ZeT Try.prog 29 ([.slice none 0 0]) := ⟨ze29⟩
instance : ZeT Try.prog 32 ([.int .i64 0, .int .i64 0, .slice none 0 0]) := ⟨ze32⟩
instance : ZeT Try.prog 36 ([.slice none 0 0]) := ⟨ze36⟩
instance : ZeT Try.prog 42 ([.slice none 0 0]) := ⟨ze42⟩
instance : ZeT Try.prog 47 ([.slice none 0 0]) := ⟨ze47⟩
instance : ZeT Try.prog 51 ([.slice none 0 0]) := ⟨ze51⟩
instance : ZeT Try.prog 72 ([.int .i64 0, .int .i64 0, .int .i64 0, .int .i64 0, .slice none 0 0]) := ⟨ze72⟩
instance : ZeT Try.prog 104 ([.slice none 0 0]) := ⟨ze104⟩
instance : ZeT Try.prog 106 ([.slice none 0 0]) := ⟨ze106⟩
instance : ZeT Try.prog 108 ([.slice none 0 0]) := ⟨ze108⟩
instance : ZeT Try.prog 110 ([.slice none 0 0]) := ⟨ze110⟩
instance : ZeT Try.prog 112 ([.slice none 0 0]) := ⟨ze112⟩
instance : ZeT Try.prog 116 ([.slice none 0 0]) := ⟨ze116⟩
instance : ZeT Try.prog 118 ([.slice none 0 0]) := ⟨ze118⟩
instance : ZeT Try.prog 120 ([.slice none 0 0]) := ⟨ze120⟩
instance : ZeT Try.prog 126 ([.int .i64 0, .int .i64 0, .slice none 0 0, .bool false]) := ⟨ze126⟩
instance : ZeT Try.prog 128 ([.int .i64 0, .int .i64 0, .string .empty, .slice none 0 0]) := ⟨ze128⟩
instance : ZeT Try.prog 130 ([.string .empty, .int .i64 0, .int .i64 0, .string .empty, .slice none 0 0, .slice none 0 0]) := ⟨ze130⟩
instance : ZeT Try.prog 132 ([.string .empty, .slice none 0 0]) := ⟨ze132⟩
instance : ZeT Try.prog 134 ([.int .i64 0, .slice none 0 0]) := ⟨ze134⟩
instance : ZeT Try.prog 137 ([.int .i64 0, .int .u32 0]) := ⟨ze137⟩
instance : ZeT Try.prog 139 ([.int .i64 0, .int .i64 0, .int .i64 0, .int .i64 0]) := ⟨ze139⟩
instance : ZeT Try.prog 141 ([.int .i64 0, .slice none 0 0, .slice none 0 0, .slice none 0 0]) := ⟨ze141⟩
instance : ZeT Try.prog 144 ([.int .i64 0, .string .empty, .int .i64 0, .int .i64 0, .string .empty, .slice none 0 0, .slice none 0 0]) := ⟨ze144⟩
instance : ZeT Try.prog 145 ([.slice none 0 0]) := ⟨ze145⟩
end Go.Ae
