/- The closed facts of the row that go over all that the law comes to: each with the list of its callees written out. -/
import Derived.Test.YtjebfbkigkjboaaGreatDoorCards
import Derived.WalkKit
import Derived.JoinedOf
import GoSem.ClaimGoes
import Derived.Test.YtjebfbkigkjboaaGreatDoorR7
set_option maxRecDepth 100000
namespace Go.Proofs.YtjebfbkigkjboaaGreatDoor.Sy
open Go Go.RowKit Go.ChangeShapes Go.WideShapes
abbrev cl3 : List FuncId := [3, 4, 7, 16, 37, 38, 63, 87, 152, 230, 310, 90, 155, 344, 243, 345, 366, 153, 231, 112, 46, 86, 192, 193, 194, 113, 195, 106, 256, 196, 114, 64, 9, 20, 47, 48, 88, 154, 89, 21, 22, 24, 115, 116, 125, 199, 200, 120, 118, 198, 150, 117, 197, 257, 81, 149, 85, 205, 151, 229, 307, 308, 309, 258, 259, 260, 320, 321, 346, 223, 119, 133, 121, 65, 66, 67, 68, 69, 70, 122, 123, 124, 126, 201, 127, 202, 128, 78, 39, 40, 41, 42, 72, 71, 129, 204, 203, 261, 130, 206, 262, 83, 207, 263, 323, 324, 318, 322, 347, 264, 326, 357, 233, 325, 348, 354, 372, 349, 367, 350, 368, 369, 351, 370, 371, 389, 352, 353, 355, 356, 265, 132, 131, 208, 267, 266, 327, 330, 84, 329, 328, 358, 373, 374, 390, 410, 268, 269, 331, 359, 360, 375, 391, 392, 376, 393, 394, 396, 397, 412, 411, 395, 398, 413, 424, 444, 445, 399, 414, 415, 416, 417, 418, 425, 419, 426, 427, 420, 377, 332, 361, 333, 362, 378, 363, 379, 400, 401, 402, 421, 428, 446, 429, 430, 447, 448, 453, 431, 432, 433, 434, 403, 405, 404, 380, 406, 385, 381, 407, 382, 408, 422, 364, 383, 384, 334, 335, 73, 17, 10, 23, 44, 80, 134, 74, 75, 135, 43, 76, 136, 209, 270, 271, 210, 211, 77, 104, 137, 212, 272, 273, 275, 274, 225, 142, 138, 224, 306, 343, 276, 336, 278, 139, 213, 277, 281, 214, 279, 246, 317, 337, 338, 141, 280, 249, 319, 250, 251, 215, 283, 282, 339, 365, 386, 387, 409, 423, 435, 441, 452, 436, 449, 437, 438, 450, 451, 454, 439, 440, 442, 443, 388, 216, 284, 217, 218, 285, 286, 340, 287, 288, 219, 290, 291, 292, 293, 342, 289, 341, 220, 294, 295, 296, 297, 221, 298, 299, 300, 301, 302, 222, 303, 304, 305, 140, 143, 79, 144, 226, 145, 146, 227, 147, 228, 148, 18, 45, 82, 5, 8, 19, 12, 28, 52, 91, 156, 157, 232, 234, 158, 159, 235, 236, 311, 312, 29, 30, 53, 31, 11, 25, 49, 27, 26, 50, 51, 6, 13, 32, 54, 92, 161, 160, 162, 164, 237, 163, 166, 240, 314, 238, 313, 239, 165, 55, 34, 93, 94, 167, 241, 315, 242, 244, 316, 95, 33, 56, 96, 97, 57, 98, 168, 58, 99, 59, 14, 35, 60, 100, 169, 101, 170, 102, 103, 171, 61, 62, 105, 107, 172, 108, 173, 174, 245, 109, 175, 176, 110, 178, 177, 247, 248, 179, 180, 181, 182, 183, 111, 184, 252, 185, 186, 187, 188, 253, 189, 254, 190, 255, 191, 15, 36]
theorem cl_eq : Tryz.prog.closure 3 = cl3 := by kernel_rfl
theorem un_eq : Tryz.prog.unfollowed 3 = true := by unfold Program.unfollowed; rw [cl_eq]; kernel_rfl
theorem re_eq : Tryz.prog.recurses 3 = true := by unfold Program.recurses; rw [un_eq]; rfl
theorem ip_eq : Tryz.prog.inPlace 3 = Rows.replayKnownRow.inPlace := by unfold Program.inPlace; rw [cl_eq]; kernel_rfl
theorem gl_eq : (cl3.flatMap fun g => ((Tryz.prog.funcs[g]?).bind (·.body)).elim [] Code.globalsNamed) = [0, 0, 0, 1, 2, 3, 4, 5, 0] := by kernel_rfl
theorem er_eq : (cl3.filterMap fun g => (Tryz.prog.funcs[g]?).bind fun fn => if fn.body.isNone then entryReads.lookup fn.name else none) = ["internal/bytealg.MaxLen", "internal/bytealg.MaxLen"] := by kernel_rfl
theorem nm_eq : Tryz.prog.varsNamed 3 = Rows.replayKnownRow.named := by
  unfold Program.varsNamed
  rw [cl_eq, gl_eq, er_eq]
  kernel_rfl
end Go.Proofs.YtjebfbkigkjboaaGreatDoor.Sy

/- The law starts no goroutine. -/
set_option maxRecDepth 100000
namespace Go.Proofs.YtjebfbkigkjboaaGreatDoor.Sy
open Go Go.RowKit Go.ChangeShapes Go.WideShapes
theorem go1_eq : (cl3.any fun g => (Tryz.prog.funcs[g]?).any Func.goes) = false := by kernel_rfl
theorem go2_eq : Tryz.prog.funcs.any Func.goes = false := by kernel_rfl
theorem go_eq : Tryz.prog.goes 3 = false := by
  unfold Program.goes
  rw [cl_eq, un_eq, go1_eq, go2_eq]; rfl
theorem fn3_named : Tryz.prog.funcNamed Rows.replayKnownRow.func = some 3 := by kernel_rfl
theorem goesBy_of {P : Program} {c : OpenClaim} {f : FuncId} (hs : c.start = .entering) (hf : P.funcNamed c.func = some f) (hg : P.goes f = false) : false = c.goesBy P := by
  unfold OpenClaim.goesBy Program.goesAt Program.goesFrom
  rw [hf, hs, Option.any_some, hg]; rfl
theorem gb_eq : false = Rows.replayKnownRow.goesBy Tryz.prog := goesBy_of rfl fn3_named go_eq
theorem main_eq : Tryz.prog.mainIs = some (Rows.replayKnownCard.stood.harness.1, Rows.replayKnownCard.stood.harness.2.toList) := by kernel_rfl
theorem wf_eq : Rows.replayKnownRow.wfByText (OpenSpec.ofChange Rows.replayKnownSpec) = true := by kernel_rfl
end Go.Proofs.YtjebfbkigkjboaaGreatDoor.Sy
