/- What is asked of what a law reaches (S17). No condition. -/
import Derived.Test.YtpdmmpajjdaebaaGreatLa
set_option linter.unusedVariables false
set_option maxRecDepth 100000
namespace Go.Proofs.YtpdmmpajjdaebaaGreat.replicaNil
open Go.Wam
theorem clos : Tryz.prog.closure 3 = [3, 6, 21, 7, 45, 9, 8, 47, 106, 200, 107, 48, 109, 199, 108, 201, 205, 306, 307, 308, 202, 203, 305, 204, 110, 111, 112, 206, 309, 207, 310, 311, 432, 113, 114, 105, 49, 115, 116, 208, 312, 332, 433, 525, 529, 526, 527, 528, 591, 592, 334, 536, 421, 517, 587, 596, 593, 177, 280, 174, 279, 397, 504, 396, 314, 315, 434, 435, 436, 437, 438, 439, 440, 530, 531, 313, 316, 117, 209, 317, 441, 210, 211, 212, 144, 223, 59, 118, 213, 128, 214, 318, 119, 216, 122, 215, 319, 217, 120, 13, 51, 126, 220, 221, 322, 323, 443, 532, 324, 445, 124, 444, 325, 446, 58, 127, 129, 130, 131, 222, 132, 224, 327, 326, 225, 329, 328, 226, 331, 330, 227, 333, 121, 160, 218, 320, 321, 442, 219, 133, 228, 67, 335, 159, 157, 268, 229, 336, 447, 533, 342, 458, 460, 550, 459, 548, 602, 549, 294, 413, 414, 603, 630, 636, 650, 631, 647, 632, 510, 511, 633, 648, 649, 652, 634, 635, 637, 638, 534, 594, 595, 626, 627, 535, 448, 181, 337, 449, 537, 598, 597, 628, 599, 629, 600, 601, 175, 338, 450, 538, 539, 540, 541, 339, 451, 542, 340, 452, 543, 341, 453, 66, 454, 544, 455, 545, 456, 546, 547, 457, 134, 137, 123, 232, 277, 125, 343, 233, 344, 96, 185, 292, 186, 293, 404, 410, 405, 509, 406, 407, 512, 513, 584, 408, 409, 411, 412, 234, 235, 345, 136, 135, 230, 231, 55, 142, 145, 146, 139, 12, 54, 141, 143, 237, 347, 238, 348, 138, 140, 236, 346, 461, 551, 239, 349, 350, 462, 240, 351, 463, 241, 10, 50, 52, 16, 46, 104, 198, 18, 17, 19, 11, 53, 14, 56, 15, 57, 20] := (closure_eq funcsN tabN leads 3).trans (by kernel_rfl)
theorem c9 : (Rows.replicaNilRow.inPlace == Tryz.prog.inPlace 3) = true := by unfold Program.inPlace; rw [clos]; kernel_rfl
theorem unf : Tryz.prog.unfollowed 3 = true := by unfold Program.unfollowed; rw [clos]; kernel_rfl
theorem c10 : (Rows.replicaNilRow.unfollowed == Tryz.prog.unfollowed 3) = true := by rw [unf]; kernel_rfl
theorem c11 : (Rows.replicaNilRow.recurses == Tryz.prog.recurses 3) = true := by unfold Program.recurses; rw [unf]; kernel_rfl
theorem c12 : (Rows.replicaNilRow.named == Tryz.prog.varsNamed 3) = true := by unfold Program.varsNamed; rw [clos]; kernel_rfl
end Go.Proofs.YtpdmmpajjdaebaaGreat.replicaNil
