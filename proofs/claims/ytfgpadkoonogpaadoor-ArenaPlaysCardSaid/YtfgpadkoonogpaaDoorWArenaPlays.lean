/- The walk of besomlaw6.ArenaPlays: it returns true, and writes nothing that was there. -/
import Derived.Test.YtfgpadkoonogpaaDoorAs
import Derived.Test.YtfgpadkoonogpaaDoorArgs7
import Derived.Test.YtfgpadkoonogpaaDoorMx
import Derived.BigQuiet
import Derived.Deep.CutBlock
import Derived.Deep.CutRange
import Derived.Deep.RegionHeld3
namespace Go.Proofs.YtfgpadkoonogpaaDoor.ArenaPlays
open Go.RowKit Pg Ar
set_option linter.unusedSimpArgs false
set_option linter.unusedVariables false

/-- What the great loop forgets. -/
def M2 : List (Option Nat) := [none, none, none, none, none, none, none, none, none, none, some 10, none, none, none, none, some 15, some 16, some 17, some 18, some 19, some 20, some 21, some 22, some 23, some 24, some 25, some 26, some 27, some 28, some 29, some 30, some 31, some 32, some 33, some 34, some 35, some 36, some 37, some 38, some 39, some 40, some 41, some 42, some 43, some 44, some 45, some 46, some 47, some 48, some 49, some 50, some 51, some 52, some 53, some 54, some 55, none, none, none, none, none, none, none, none, none, none, none, none, none, none, none, none, none, none, none, none, none, none, none, none, none, none, none, none, none, none, none, none, none, none, none, none, none, none, none, none, none, none, none, none, none, none, none, none, none, none, some 106, some 107, some 108, some 109, some 110, some 111, some 112, some 113, some 114, some 115, some 116, some 117, some 118, some 119, some 120, some 121, some 122, some 123, some 124, some 125, some 126, some 127, some 128, some 129, some 130, some 131, some 132, some 133, some 134, some 135, some 136, some 137, some 138, some 139, some 140, some 141, some 142, some 143, some 144, some 145, some 146, some 147, some 148, some 149, some 150, some 151, some 152, some 153, some 154, some 155, some 156, some 157, some 158, some 159, some 160, some 161, some 162, some 163, some 164, some 165, some 166, some 167, some 168, some 169, some 170, some 171, some 172, some 173, some 174, some 175, some 176, some 177, some 178, some 179, some 180, some 181, some 182, some 183, some 184, some 185, some 186, some 187, some 188, some 189, some 190, some 191, some 192, some 193, some 194, some 195, some 196, some 197, some 198, some 199, some 200, some 201, some 202, some 203, some 204, some 205, some 206, some 207, some 208, some 209, some 210, some 211, some 212, some 213, some 214, some 215, some 216, some 217, some 218, some 219, some 220, some 221, some 222, some 223, some 224, some 225, some 226, some 227, some 228, some 229, some 230, some 231, some 232, some 233, some 234, some 235, some 236, some 237, some 238, some 239, some 240, some 241, some 242, some 243, some 244, some 245, some 246, some 247, some 248, some 249, some 250, some 251, some 252, some 253, some 254, some 255, some 256, some 257, some 258, some 259, some 260, some 261, some 262, some 263, some 264, some 265, some 266, some 267, some 268, some 269, some 270, some 271, some 272, some 273, some 274, some 275, some 276, some 277, some 278, some 279, some 280, some 281, some 282, some 283, some 284, some 285, some 286, some 287, some 288, some 289, some 290, some 291, some 292, some 293, some 294, some 295, some 296, some 297, some 298, some 299, some 300, some 301, some 302, some 303, some 304, some 305, some 306, some 307, some 308, some 309, some 310, some 311, some 312, some 313, some 314, some 315, some 316, some 317, some 318, some 319, some 320, some 321, some 322, some 323, some 324, some 325, some 326, some 327, some 328, some 329, some 330, some 331, some 332, some 333, some 334, some 335, some 336, some 337, some 338, some 339, some 340, some 341, some 342, some 343, some 344, some 345, some 346, some 347, some 348, some 349, some 350, some 351, some 352, some 353, some 354, some 355, some 356, some 357, some 358, some 359, some 360, some 361, some 362, some 363, some 364, some 365, some 366, some 367, some 368, some 369, some 370, some 371, some 372, some 373, some 374, some 375, some 376, some 377, some 378, some 379, some 380, some 381, some 382, some 383, some 384, some 385, some 386, some 387, some 388, some 389, some 390, some 391, some 392, some 393, some 394, some 395, some 396, some 397, some 398, some 399, some 400, some 401, some 402, some 403, some 404, some 405, some 406, some 407, some 408, some 409, some 410, some 411, some 412, some 413, some 414, some 415, some 416, some 417, some 418, some 419, some 420, some 421, some 422, some 423, some 424, some 425, some 426, some 427, some 428, some 429, some 430, some 431, some 432, some 433, some 434, some 435, some 436, some 437, some 438, some 439, some 440, some 441, some 442, some 443, some 444, some 445, some 446, some 447, some 448, some 449, some 450, some 451, some 452, some 453, some 454, some 455, some 456, some 457, some 458, some 459, some 460, some 461, some 462, some 463, some 464, some 465, some 466, some 467, some 468, some 469, some 470, some 471, some 472, some 473, some 474, some 475, some 476, some 477, some 478, some 479, some 480, some 481, some 482, some 483, some 484, some 485, some 486, some 487, some 488, some 489, some 490, some 491, some 492, some 493, some 494, some 495, some 496, some 497, some 498, some 499, some 500, some 501, some 502, some 503, some 504, some 505, some 506, some 507, some 508, some 509, some 510, some 511, some 512, some 513, some 514, some 515, some 516, some 517, some 518, some 519, some 520, some 521, some 522, some 523, some 524, some 525, some 526, some 527, some 528, some 529, some 530, some 531, some 532, some 533, some 534, some 535, some 536, some 537, some 538, some 539, some 540, some 541, some 542, some 543, some 544, some 545, some 546, some 547, some 548, some 549, some 550, some 551, some 552, some 553, some 554, some 555, some 556, some 557, some 558, some 559, some 560, some 561, some 562, some 563, some 564, some 565, some 566, some 567, some 568, some 569, some 570, some 571, some 572, some 573, some 574, some 575, some 576, some 577, some 578, some 579, some 580, some 581, some 582, some 583, some 584, some 585, some 586, some 587, some 588, some 589, some 590, some 591, some 592, some 593, some 594, some 595, some 596, some 597, some 598, some 599, some 600, some 601, some 602, some 603, some 604, some 605, some 606, some 607, some 608, some 609, some 610, some 611, some 612, some 613, some 614, some 615, some 616, some 617, some 618, some 619, some 620, some 621, some 622, some 623, some 624, some 625, some 626, some 627, some 628, some 629, some 630, some 631, some 632, some 633, some 634, some 635, some 636, some 637, some 638, some 639, some 640, some 641, some 642, some 643, some 644, some 645, some 646, some 647, some 648, some 649, some 650, some 651, some 652, some 653, some 654, some 655, some 656, some 657, some 658, some 659, some 660, some 661, some 662, some 663, some 664, some 665, some 666, some 667, some 668, some 669, some 670, some 671, some 672, some 673, some 674, none, none, none, none, none, none, none, none, none, none, none, none, none, none, none, none, none, none, none, none, none, none, none, none, none, none, none, none, none, none, none, none, none, none, none, none, none, none, none, none, none, none, none, none, none, none, none, none, none, none, none, none, none, none, none, none, none, none, none, none, none, none, none, none, none, none, none, none, none, none, none, none, none, none, none]
/-- What the switch forgets. -/
def M4 : List (Option Nat) := [none, none, none, none, none, none, none, none, none, none, none, none, none, none, none, none, none, some 17, some 18, some 19, some 20, some 21, some 22, some 23, some 24, some 25, some 26, some 27, some 28, some 29, some 30, some 31, some 32, some 33, some 34, some 35, none, none, none, none, none, none, none, none, none, none, none, none, none, none, none, none, none, none, none, none, none, none, none, none, none, none, none, none, none, none, none, none, none, none, none, none, none, none, none, none, none, none, none, none, none, none, none, none, none, none, none, none, none, none, none, none, none, none, none, none, none, none, none, none, none, none, none, none, none, none, none, none, none, none, none, none, none, none, none, none, none, none, none, none, none, none, none, none, none, none, none, some 127, some 128, some 129, some 130, some 131, some 132, some 133, some 134, some 135, some 136, some 137, some 138, some 139, some 140, some 141, some 142, some 143, some 144, some 145, some 146, some 147, some 148, some 149, some 150, some 151, some 152, some 153, some 154, some 155, some 156, some 157, some 158, some 159, some 160, some 161, some 162, some 163, some 164, some 165, some 166, some 167, some 168, some 169, some 170, some 171, some 172, some 173, some 174, some 175, some 176, some 177, some 178, some 179, some 180, some 181, some 182, some 183, some 184, some 185, some 186, some 187, some 188, some 189, some 190, some 191, some 192, some 193, some 194, some 195, some 196, some 197, some 198, some 199, some 200, some 201, some 202, some 203, some 204, some 205, some 206, some 207, some 208, some 209, some 210, some 211, some 212, some 213, some 214, some 215, some 216, some 217, some 218, some 219, some 220, some 221, some 222, some 223, some 224, some 225, some 226, some 227, some 228, some 229, some 230, some 231, some 232, some 233, some 234, some 235, some 236, some 237, some 238, some 239, some 240, some 241, some 242, some 243, some 244, some 245, some 246, some 247, some 248, some 249, some 250, some 251, some 252, some 253, some 254, some 255, some 256, some 257, some 258, some 259, some 260, some 261, some 262, some 263, some 264, some 265, some 266, some 267, some 268, some 269, some 270, some 271, some 272, some 273, some 274, some 275, some 276, some 277, some 278, some 279, some 280, some 281, some 282, some 283, some 284, some 285, some 286, some 287, some 288, some 289, some 290, some 291, some 292, some 293, some 294, some 295, some 296, some 297, some 298, some 299, some 300, some 301, some 302, some 303, some 304, some 305, some 306, some 307, some 308, some 309, some 310, some 311, some 312, some 313, some 314, some 315, some 316, some 317, some 318, some 319, some 320, some 321, some 322, some 323, some 324, some 325, some 326, some 327, some 328, some 329, some 330, some 331, some 332, some 333, some 334, some 335, some 336, some 337, some 338, some 339, some 340, some 341, some 342, some 343, some 344, some 345, some 346, some 347, some 348, some 349, some 350, some 351, some 352, some 353, some 354, some 355, some 356, some 357, some 358, some 359, some 360, some 361, some 362, some 363, some 364, some 365, some 366, some 367, some 368, some 369, some 370, some 371, some 372, some 373, some 374, some 375, some 376, some 377, some 378, some 379, some 380, some 381, some 382, some 383, some 384, some 385, some 386, some 387, some 388, some 389, some 390, some 391, some 392, some 393, some 394, some 395, some 396, some 397, some 398, some 399, some 400, some 401, some 402, some 403, some 404, some 405, some 406, some 407, some 408, some 409, some 410, some 411, some 412, some 413, some 414, some 415, some 416, some 417, some 418, none, none, none, none, none, none, none, none, none, none, none, none, none, none, none, none, none, none, none, none, none, none, none, none, none, none, none, none, none, none, none, none, none, none, none, none, none, none, none, none, none, none, none, none, none, none, none, none, none, none, none, none, none, none, none, none, none, none, none, none, none, none, none, none, none, none, none, none, none, none, none, none, none, none, none, none, none, none, none, none, none, none, none, none, none, none, none, none, none, none, none, none, none, none, none, none, none, none, none, none, none, none, none, none, none, none, none, none, none, none, none, none, none, none, none, none, none, none, none, none, none, none, none, none, none, none, none, none, none, none, none, none, none, none, none, none, none, none, none, none, none, none, none, none, none, none, none, none, none, none, none, none, none, none, none, none, none, none, none, none, none, none, none, none, none, none, none, none, none, none, none, none, none, none, none, none, none, none, none, none, none, none, none, none, none, none, none, none, none, none, none, none, none, none, none, none, none, none, none, none, none, none, none, none, none, none, none, none, none, none, none, none, none, none, none, none, none, none, none, none, none, none, none, none, none, none, none, none, none, none, none, none, none, none, none, none, none, none, none, none, none, none, none, none, none, none, none, none, none, none, none, none, none, none, none, none, none, none, none, none, none, none, none, none, none, none, none, none, none, none, none, none, none, none, none, none, none, none, none, none, none, none, none, none, none, none, none, none, none, none, none, none, none, none, none, none, none, none, none, none, none, none, none, none, none, none, none, none, none, none, none, none, none, none, none, none, none, none, none, none, none, none, none, none, none, none, none, none, none, none, none]
set_option maxRecDepth 100000 in
theorem early (P : Int) (A : Option Addr) (m c : Nat) (addr page at_ : Int) (w : World) (hT : Tab w) (hm : m ≤ 9223372036854775807) (h : 80 < m ∨ 8 < P) :
    Calls Tryd.prog 3 #[.int .i64 P, .slice A m c, .int .i64 addr, .int .i64 page, .int .i64 at_] w fun e w' => e = .returned (.bool true) ∧ Below w.heap.size w w' := by
  have HT := Lib.hid hT
  clear hT
  by_cases h0 : 80 < m
  · have h0' : (80 : Int) < (m : Int) := by omega
    clear h0
    clear h
    go_enter Tryd.func3, Tryd.ntmps3
    go_wp2_with fail
    refine (Ar.alive _ HT.out).mono ?_
    rintro e w1 ⟨rfl, hb⟩
    dsimp only
    go_wp2_with fail
    go_ret
    exact ⟨rfl, hb⟩
  · have h0' : ¬ (80 : Int) < (m : Int) := by omega
    have h1 : 8 < P := by omega
    clear h
    go_enter Tryd.func3, Tryd.ntmps3
    go_wp2_with fail
    refine (Ar.alive _ HT.out).mono ?_
    rintro e w1 ⟨rfl, hb⟩
    dsimp only
    go_wp2_with fail
    go_ret
    exact ⟨rfl, hb⟩

set_option maxRecDepth 100000 in
set_option maxHeartbeats 40000000 in
theorem core (P : Int) (n : Nat) (A : Option Addr) (m c : Nat) (pl : List (Int × Int × Int × Bool)) (addr page at_ : Int) (w : World) (hT : Tab w) (hP : P ≤ 8) (hPn : (min (max P 0) 64).toNat = n)
    (hl : pl.length = m) (wl : ∀ q ∈ pl, (Lit.int .i64 q.1).wf = true ∧ (Lit.int .i64 q.2.1).wf = true ∧ (Lit.int .i64 q.2.2.1).wf = true) (hR : Reads w w.heap.size 4 A m c (quadCells pl)) (hm : m ≤ 80)
    (h1 : (Lit.int .i64 addr).wf = true) (h2 : (Lit.int .i64 page).wf = true) (h3 : (Lit.int .i64 at_).wf = true) :
    Calls Tryd.prog 3 #[.int .i64 P, .slice A m c, .int .i64 addr, .int .i64 page, .int .i64 at_] w fun e w' => e = .returned (.bool true) ∧ Below w.heap.size w w' := by
  have HT := Lib.hid hT
  have HL := Lib.hid hl
  have HWL := Lib.hid wl
  have HR := Lib.hid hR
  have H0 := Lib.hid hT.1
  have HAD := Lib.hid (wf_bd h1)
  have HPG := Lib.hid (wf_bd h2)
  have HAT := Lib.hid (wf_bd h3)
  have h1' : ¬ (80 : Int) < (m : Int) := by omega
  have h2' : ¬ (8 : Int) < P := by omega
  have hn8 : n ≤ 8 := by omega
  have HPN := Lib.hid hPn
  have HPN2 := Lib.hid (show min (max P 0) 64 = (n : Int) by omega)
  obtain ⟨i0, hi0, hz00, hz01, hz02⟩ := info_parts Pg.infoI
  have HI0 := Lib.hid (⟨hi0, hz00, hz01, hz02⟩ : Tryd.prog.info? 3 = some i0 ∧ i0.zero = some (.int .i64 0) ∧ i0.size = 1 ∧ i0.bytes = 8)
  clear hi0 hz00 hz01 hz02
  clear hT hl hR wl hPn h1 h2 h3
  go_enter Tryd.func3, Tryd.ntmps3
  go_wp2_with fail
  refine (Ar.alive _ HT.out).mono ?_
  rintro e w1 ⟨rfl, hb1⟩
  have HB1 := Lib.hid hb1
  have HT1 := Lib.hid (HT.out.call hb1)
  clear hb1
  dsimp only
  go_wp2_with fail
  refine (new_any P _).mono ?_
  intro e w2 hmd
  obtain ⟨b, gp, gw, rfl, ha2⟩ := AW.made HT1.out hmd
  rw [HPN.out] at ha2
  have H2 := Lib.hid ha2
  clear ha2 hmd
  dsimp only
  go_upto_region 7 with (fail)
  have hif : (if P < 0 then (0 : Int) else P) = (n : Int) := by
    have := HPN2.out
    split <;> omega
  rw [hif]
  clear hif
  obtain ⟨M, hM⟩ : ∃ M : Nat, 32 * n = M := ⟨_, rfl⟩
  obtain ⟨RC, hRC⟩ : ∃ RC, cells (fil n 0) = RC := ⟨_, rfl⟩
  obtain ⟨RW, hRW⟩ : ∃ RW, cells (List.replicate M 0) = RW := ⟨_, rfl⟩
  obtain ⟨RU, hRU⟩ : ∃ RU, urow (fun _ => 0) (List.replicate n none) = RU := ⟨_, rfl⟩
  have hmi : ∀ W : World, (Instr.makeSlice 27 (.int .i64 (n : Int)) (.int .i64 (n : Int))).run Tryd.prog W = .ok (.slice (some ⟨W.heap.size, 0, none⟩) n n) (W.alloc (.cells RC 3)) := fun W => by
    rw [← hRC]
    exact make_ints n (by omega) W
  have hmw : ∀ W : World, (Instr.makeSlice 27 (.int .i64 ((n : Int) * 32)) (.int .i64 ((n : Int) * 32))).run Tryd.prog W = .ok (.slice (some ⟨W.heap.size, 0, none⟩) M M) (W.alloc (.cells RW 3)) := fun W => by
    rw [← hRW, show (n : Int) * 32 = (M : Int) by omega]
    exact make_ints M (by omega) W
  have hmr : ∀ W : World, (Instr.makeSlice 28 (.int .i64 (n : Int)) (.int .i64 (n : Int))).run Tryd.prog W = .ok (.slice (some ⟨W.heap.size, 0, none⟩) n n) (W.alloc (.cells RU 43)) := fun W => by
    rw [← hRU]
    exact make_rows n (by omega) W
  have hn0 : (0 : Int) ≤ (n : Int) := by omega
  have hn8' : (n : Int) ≤ 8 := by omega
  have HM := Lib.hid hM
  have HRC := Lib.hid hRC
  have HRW := Lib.hid hRW
  have HRU := Lib.hid hRU
  clear hM hRC hRW hRU
  go_cut [12] from 84 to 92 (fun v wx => ∃ bm bc bu bw, v = .pointer (some ⟨bm, 0, none⟩) ∧ Mk w2 n M 0 wx bm bc bu bw)
  case first =>
    as_aux_lemma =>
      go_region
      all_goals
        go_wp2_with fail
        go_meet
        exact ⟨_, _, _, _, rfl, by first | exact mk_CUW HRC.out HRU.out HRW.out _ | exact mk_CWU HRC.out HRU.out HRW.out _ | exact mk_UCW HRC.out HRU.out HRW.out _ | exact mk_UWC HRC.out HRU.out HRW.out _ | exact mk_WCU HRC.out HRU.out HRW.out _ | exact mk_WUC HRC.out HRU.out HRW.out _⟩
  case rest =>
    obtain ⟨bm, bc, bu, bw, rfl, hmk⟩ := hcut
    obtain rfl := HM.out
    have HMK := Lib.hid hmk
    clear hmk hmi hmw hmr HRC HRW HRU HM
    go_wp2_with fail
    go_loopw [13] (fun iv wx => ∃ k : Nat, k ≤ n ∧ iv = .int .i64 (k : Int) ∧ Mk w2 n (32 * n) k wx bm bc bu bw) (fun iv _ => n - (intOf iv).toNat)
    case atStart => exact ⟨0, Nat.zero_le _, rfl, HMK.out⟩
    case round =>
      clear HMK
      obtain ⟨k, hk, rfl, hmk⟩ := hrel
      have HMK := Lib.hid hmk
      clear hmk
      by_cases hkn : k < n
      · have hkn2 : (k : Int) < (n : Int) := by omega
        have hk0 : (0 : Int) ≤ (k : Int) := by omega
        obtain ⟨c0, c1, c2, f0, f1, f2⟩ := HMK.out.blk.three
        have hc := (HMK.out.cls.cell k).trans (cells_get (fil_at hkn))
        have hf := HMK.out.cls.free k
        have l1 := HMK.out.blk.lt
        have l2 := HMK.out.cls.lt
        have HN := Lib.hid (HMK.out.next hkn)
        clear HMK
        go_wp2_with fail
        go_roundw
        case rel => exact ⟨k + 1, by omega, by go_num, HN.out⟩
        case measure => simp [intOf]; omega
      · obtain rfl : n = k := by omega
        have hkn2 : ¬ (n : Int) < (n : Int) := by omega
        have hap := AP.start H2.out HMK.out (by omega)
        obtain ⟨w3, rfl⟩ : ∃ w3 : World, w3 = wr := ⟨_, rfl⟩
        go_wp2_with fail
        obtain ⟨bk, hbk⟩ : ∃ bk, w3.heap.size = bk := ⟨_, rfl⟩
        obtain ⟨w4, hw4⟩ : ∃ w4, w3.alloc (.cells #[.slice none 0 0, .slice none 0 0, .slice none 0 0, .slice none 0 0, .slice none 0 0, .slice none 0 0, .slice none 0 0, .slice none 0 0, .slice none 0 0, .slice none 0 0] 38) = w4 := ⟨_, rfl⟩
        rw [hw4, hbk] at hap
        rw [hw4, hbk]
        obtain ⟨X, hX⟩ : ∃ X : ML, X = ⟨b, gp, gw, bm, bc, bu, bw, bk⟩ := ⟨_, rfl⟩
        rw [← hX] at hap
        have e1 : b = X.b := by rw [hX]
        have e2 : bm = X.bm := by rw [hX]
        have e3 : bk = X.bk := by rw [hX]
        have HAP := Lib.hid hap
        clear hap hX hbk hw4 HMK H2 hkn hk
        subst e1 e2 e3
        have H1 := Lib.hid HT1.out.1
        refine Mx.loopm M2 15 (fun us wx => ∃ (q : Nat) (gs : Nat → Nat) (ps : List (Option PM)) (ws : List Int) (S : Nat → Prop), q ≤ m ∧ us 15 = .int .i64 (q : Int) ∧ ps.length = n ∧ AP w1 wx X gs ps ps ws ws S none) (fun v => m - (intOf v).toNat) (by kernel_rfl) (by kernel_rfl) (by kernel_rfl) ⟨0, _, _, _, _, Nat.zero_le _, rfl, by simp, HAP.out⟩ ?_
        intro us wr J K T hT hJ hK hR
        clear HAP
        simp only [M2, Mx.mix] at hT
        subst hT
        obtain ⟨q, gs, ps, ws, S, hq, h15, hpn, hap⟩ := hR
        rw [h15] at hJ ⊢
        have HAP := Lib.hid hap
        have HPL := Lib.hid hpn
        clear hap hpn h15
        obtain ⟨w5, rfl⟩ : ∃ w5 : World, w5 = wr := ⟨_, rfl⟩
        by_cases hqm : q < m
        · have hqm2 : (q : Int) < (m : Int) := by omega
          have hq0 : (0 : Int) ≤ (q : Int) := by omega
          obtain ⟨⟨kind, N0, V, near⟩, hqq⟩ : ∃ x, pl[q]? = some x := ⟨_, List.getElem?_eq_getElem (by have := HL.out; omega)⟩
          obtain ⟨sb, off, rfl, hsb, hs0, hs1, hs2, hs3⟩ := (HR.out.below (fresh_call HB1.out HAP.out.aw.bel)).quad hqq
          have hww := HWL.out _ (List.mem_of_getElem? hqq)
          have HNB := Lib.hid (wf_bd hww.2.1)
          dsimp only at hs0 hs1 hs2 hs3
          have hszw := (fresh_call HB1.out HAP.out.aw.bel).size
          have hsb5 : sb < w5.heap.size := by omega
          have HAPo := Lib.hid (HAP.out.opd #[.int .i64 kind, .int .i64 N0, .int .i64 V, .bool near])
          clear hww hqq hszw
          go_upto_if 117 with (fail)
          obtain ⟨w6, hw6⟩ : ∃ w6, w5.alloc (.cells #[.int .i64 kind, .int .i64 N0, .int .i64 V, .bool near] 40) = w6 := ⟨_, rfl⟩
          obtain ⟨bo, hbo⟩ : ∃ bo, w5.heap.size = bo := ⟨_, rfl⟩
          rw [hw6, hbo] at HAPo
          rw [hw6, hbo]
          clear hw6 hbo HAP hs0 hs1 hs2 hs3 hsb5 hsb
          go_cut [16] from 118 to 124 (fun ov wx => ov = .pointer (some ⟨bo, 0, none⟩) ∧ ∃ N : Int, (-9223372036854775808 ≤ N ∧ N ≤ 9223372036854775807) ∧ AP w1 wx X gs ps ps ws ws S (some (bo, #[.int .i64 kind, .int .i64 N, .int .i64 V, .bool near])))
          case first =>
            as_aux_lemma =>
              have o0 := (HAPo.out.op _ _ rfl).1
              have q1 : w6.cell? ⟨bo, 1, none⟩ = some (.int .i64 N0) := o0.cell 1
              have f1 := o0.free 1
              have ql := o0.lt
              rcases near with _ | _
              · clear o0
                go_wp2_with fail
                go_meet
                exact ⟨rfl, N0, HNB.out, HAPo.out⟩
              · have HS := Lib.hid (fun v => HAPo.out.ops H1.out 1 v)
                clear o0
                go_wp2_with fail
                go_meet
                exact ⟨rfl, _, wrap_bd _, HS.out _⟩
          case rest =>
            obtain ⟨rfl, N, hN, hap⟩ := hcut
            have HN := Lib.hid hN
            have HAP := Lib.hid hap
            clear hN hap HAPo HNB
            obtain ⟨w7, rfl⟩ : ∃ w7 : World, w7 = wc := ⟨_, rfl⟩
            have o0 := (HAP.out.op _ _ rfl).1
            have q0 : w7.cell? ⟨bo, 0, none⟩ = some (.int .i64 kind) := o0.cell 0
            have ql := o0.lt
            go_upto_block 4 with (fail)
            clear q0 o0 ql
            refine Mx.cutm M4 (fun us wx => us 17 = .bool true ∧ ∃ (gs' : Nat → Nat) (ps' : List (Option PM)) (ws' : List Int), ps'.length = n ∧ AP w1 wx X gs' ps' ps' ws' ws' S (some (bo, #[.int .i64 kind, .int .i64 N, .int .i64 V, .bool near]))) (by kernel_rfl) (by kernel_rfl) ?_ ?_
            · intro J K' hJ hK
              by_cases e1 : kind = 1
              · as_aux_lemma =>
                  subst e1
                  go_wp2_with fail
                  go_loopw [18, 19] (fun xv kv wx => ∃ (j : Nat) (x : Int), j ≤ n ∧ kv = .int .i64 ((j : Int) - 1) ∧ xv = .int .i64 x ∧ Fst (wants ps N) j n x ∧ AP w1 wx X gs ps ps ws ws S (some (bo, #[.int .i64 1, .int .i64 N, .int .i64 V, .bool near]))) (fun _ kv _ => (intOf kv + 1).toNat)
                  case atStart => exact ⟨n, -1, Nat.le_refl _, rfl, rfl, Fst.start _ _, HAP.out⟩
                  case round =>
                    clear HAP
                    obtain ⟨j, x, hj, rfl, rfl, hf, hap⟩ := hrel
                    have HF := Lib.hid hf
                    have HAP := Lib.hid hap
                    clear hf hap
                    obtain ⟨w8, rfl⟩ : ∃ w8 : World, w8 = wr := ⟨_, rfl⟩
                    rcases j with _ | j
                    · rcases HF.out with ⟨rfl, hall⟩ | ⟨k, rfl, _, hkn, hk1, hk2⟩
                      · have hno : Cls.csl N = 0 ∨ ∀ i : Nat, ps[i]? ≠ some none := by
                          rcases cls_nz N with ⟨h, _⟩ | ⟨nn, z, c1, c2, c3, c4, c5, c6, c7, c8⟩
                          · exact .inl h
                          · refine .inr fun i e => ?_
                            have hl := (List.getElem?_eq_some_iff.1 e).1
                            have := HPL.out
                            exact wants_false (hall i (Nat.zero_le _) (by omega)) (by omega) e
                        have HNO := Lib.hid hno
                        clear hno hall
                        have o0 := (HAP.out.op _ _ rfl).1
                        have q1 : w8.cell? ⟨bo, 1, none⟩ = some (.int .i64 N) := o0.cell 1
                        have ql := o0.lt
                        clear o0
                        go_wp2_with fail
                        refine (HAP.out.grow_no N HNO.out).mono ?_
                        rintro e w9 ⟨rfl, h9⟩
                        have H9 := Lib.hid h9
                        clear h9 q1 ql
                        dsimp only
                        go_wp2_with fail
                        refine Met.intro (hJ.out _ _ ⟨_, rfl, ?_, ?_, rfl, gs, ps, ws, HPL.out, H9.out⟩)
                        · kernel_rfl
                        · kernel_rfl
                      · obtain ⟨hk0, hz⟩ := wants_true hk1
                        obtain ⟨nn, z, c1, c2, c3, c4, c5, c6, c7, c8⟩ : ∃ n z : Nat, Cls.csl N = (n : Int) ∧ Cls.csz N = (z : Int) ∧ 0 < n ∧ 0 < z ∧ n ≤ 32 ∧ z ≤ 16 ∧ 32 / z = n ∧ 0 ≤ N := by
                          rcases cls_nz N with ⟨_, h⟩ | h
                          · omega
                          · exact h
                        have hmin : ∀ i : Nat, i < k → ps[i]? ≠ some none := fun i hi => wants_false (hk2 i (Nat.zero_le _) hi) hz
                        have HMIN := Lib.hid hmin
                        have HK0 := Lib.hid hk0
                        have HC1 := Lib.hid c1
                        have HC2 := Lib.hid c2
                        have hk00 : (0 : Int) ≤ (k : Int) := by omega
                        clear hmin hk0 hk1 hk2 c1 c2 hz
                        have o0 := (HAP.out.op _ _ rfl).1
                        have q1 : w8.cell? ⟨bo, 1, none⟩ = some (.int .i64 N) := o0.cell 1
                        have ql := o0.lt
                        clear o0
                        go_wp2_with fail
                        refine (HAP.out.grow_is H1.out N HK0.out HMIN.out HC1.out c3).mono ?_
                        rintro e w9 ⟨rfl, bp, h9⟩
                        have H9 := Lib.hid h9
                        clear h9 q1 ql
                        have o0 := (H9.out.op _ _ rfl).1
                        have q1 : w9.cell? ⟨bo, 1, none⟩ = some (.int .i64 N) := o0.cell 1
                        have ql := o0.lt
                        clear o0
                        obtain ⟨c0, c1, c2, f0, f1, f2⟩ := H9.out.md.blk.three
                        have ml := H9.out.md.blk.lt
                        have hln : ps.length = n := HPL.out
                        have hkl : (k : Int) < (ps.length : Int) := by omega
                        have hcc := (H9.out.md.cls.cell k).trans (cls_get HK0.out)
                        have hcf := H9.out.md.cls.free k
                        have hcl := H9.out.md.cls.lt
                        dsimp only
                        go_upto_region 39 with (fail)
                        go_region
                        obtain ⟨w10, hw10⟩ : ∃ w10, (w9.setCell ⟨X.bc, k, none⟩ (.int .i64 N)).drew = w10 := ⟨_, rfl⟩
                        rw [hw10]
                        have hK10 : Kept (fun i => i = X.bc) w9 w10 := by
                          rw [← hw10]
                          exact ((Kept.refl (fun i => i = X.bc) w9).set (p := ⟨X.bc, k, none⟩) (.inl rfl) _).drew
                        have hB10 : Blk w10 X.bc ((cells (ps.map cl)).setIfInBounds k (.int .i64 N)) 3 := by
                          rw [← hw10]
                          exact H9.out.md.cls.set k (.int .i64 N)
                        have o0 := hK10.blk (H9.out.op _ _ rfl).1 fun e => (H9.out.op _ _ rfl).2.2.1 (.inr (.inl e))
                        have q1 : w10.cell? ⟨bo, 1, none⟩ = some (.int .i64 N) := o0.cell 1
                        have ql := o0.lt
                        have om := hK10.blk H9.out.md.blk fun e => blk_ne H9.out.md.blk H9.out.md.cls (by decide) e
                        have c1 : w10.cell? ⟨X.bm, 1, none⟩ = some (.slice (some ⟨X.bu, 0, none⟩) ps.length ps.length) := om.cell 1
                        have ml := om.lt
                        have ou := hK10.blk H9.out.md.row fun e => blk_ne H9.out.md.row H9.out.md.cls (by decide) e
                        have ul := ou.lt
                        have hne1 : X.bu ≠ X.bm := fun e => blk_ne ou om (by decide) e
                        have hne2 : X.bu ≠ bo := fun e => blk_ne ou o0 (by decide) e
                        have uc := (ou.cell k).trans (urow_get HK0.out)
                        have uf := ou.free k
                        have HCU := Lib.hid (fun (w11 : World) (hb : Below w10.heap.size w10 w11) => H9.out.grown (bp := bp) H1.out HK0.out HC1.out c3 c5 hK10 hB10 hb)
                        clear hw10 hK10 hB10 o0 om ou HAP HF hcc hcf hcl
                        have hmk : ∀ W : World, (Instr.makeSlice 43 (.int .i64 (32 / (z : Int))) (.int .i64 (32 / (z : Int)))).run Tryd.prog W = .ok (.slice (some ⟨W.heap.size, 0, none⟩) nn nn) (W.alloc (.cells (bcf nn fun _ => false) 4)) := fun W => by
                          rw [show (32 : Int) / (z : Int) = (nn : Int) from by rw [← c7]; rfl]
                          exact make_bools nn (by omega) W
                        have hmk2 : ∀ W : World, (Instr.makeSlice 43 (.int .i64 (nn : Int)) (.int .i64 (nn : Int))).run Tryd.prog W = .ok (.slice (some ⟨W.heap.size, 0, none⟩) nn nn) (W.alloc (.cells (bcf nn fun _ => false) 4)) := fun W => make_bools nn (by omega) W
                        have hq1 : IntKind.i64.wrap ((32 : Int).tdiv (z : Int)) = (nn : Int) := by
                          rw [IntWalk.i64_quo _ _ ⟨by omega, by omega, by omega⟩, ← c7]
                          rfl
                        have hz5 : ¬ (z : Int) = 0 := by omega
                        have hz6 : ¬ z = 0 := by omega
                        have hz2 : ((z : Int) == 0) = false := by simp; omega
                        have hz3 : (0 : Int) ≤ (z : Int) := by omega
                        have hz4 : (1 : Int) ≤ (z : Int) := by omega
                        go_upto_region 40 with (fail)
                        go_region_held3 (fun w' => w'.cell? ⟨X.bm, 1, none⟩ = some (.slice (some ⟨X.bu, 0, none⟩) ps.length ps.length) ∧ w'.cell? ⟨bo, 1, none⟩ = some (.int .i64 N)) (first | exact ⟨c1, q1⟩ | exact ⟨c1', q1'⟩ | go_keep) (first
                          | (go_at_call 8
                             refine (Cls.rsize_any N _).mono ?_
                             rw [HC2.out]
                             rintro e w11 ⟨rfl, hb11⟩
                             have q1' := (hb11.cell (p := ⟨bo, 1, none⟩) ql).trans q1
                             have c1' := (hb11.cell (p := ⟨X.bm, 1, none⟩) ml).trans c1
                             have uc' := (hb11.cell (p := ⟨X.bu, k, none⟩) ul).trans uc
                             have uf' := (hb11.frozen (p := ⟨X.bu, k, none⟩) ul).trans uf
                             have ml' : X.bm < w11.heap.size := Nat.lt_of_lt_of_le ml hb11.size
                             have ul' : X.bu < w11.heap.size := Nat.lt_of_lt_of_le ul hb11.size
                             dsimp only)
                          | fail)
                        all_goals
                          go_wp2_with fail
                          refine Met.intro (hJ.out _ _ ⟨_, rfl, ?_, ?_, rfl, _, ps.set k (some ⟨bp, N, nn, 0, 0⟩), ws, by rw [List.length_set]; exact HPL.out, by first | exact HCU.out _ hb11 | exact HCU.out _ ((below_drewN (Below.refl _ _) 1).trans hb11)⟩)
                          · kernel_rfl
                          · kernel_rfl
                    · have hj1 : ((j + 1 : Nat) : Int) - 1 = (j : Int) := by omega
                      rw [hj1]
                      clear hj1
                      have hj0 : (0 : Int) ≤ (j : Int) := by omega
                      have hln : ps.length = n := HPL.out
                      have hjl : (j : Int) < (ps.length : Int) := by omega
                      obtain ⟨p, hp⟩ : ∃ p, ps[j]? = some p := ⟨_, List.getElem?_eq_getElem (by omega)⟩
                      have hcc := (HAP.out.md.cls.cell j).trans (cls_get hp)
                      have o0 := (HAP.out.op _ _ rfl).1
                      have q1 : w8.cell? ⟨bo, 1, none⟩ = some (.int .i64 N) := o0.cell 1
                      have ql := o0.lt
                      clear o0
                      obtain ⟨c0, c1, c2, f0, f1, f2⟩ := HAP.out.md.blk.three
                      have ml := HAP.out.md.blk.lt
                      have HP := Lib.hid hp
                      rcases p with _ | p
                      · unfold cl at hcc
                        have hz1 : (if (0 : Int) < Cls.csz N then true else false) = wants ps N j := by rw [wants_none HP.out]; by_cases h : 0 < Cls.csz N <;> simp [h]
                        by_cases hz : 0 < Cls.csz N
                        · have HF2 := Lib.hid (Fst.yes (f := wants ps N) (j := j) (n := n) (by omega) (by rw [wants_none HP.out]; simp [hz]))
                          clear hz1 hp HF
                          go_wp2_with fail
                          refine (Cls.rsize_any N _).mono ?_
                          rintro e w9 ⟨rfl, hb9⟩
                          have H9 := Lib.hid (HAP.out.call hb9)
                          clear hb9 hcc c0 c1 c2 f0 f1 f2 ml q1 ql HAP
                          dsimp only
                          go_wp2_with fail
                          go_roundw
                          case rel => exact ⟨j, (j : Int), by omega, rfl, rfl, HF2.out, H9.out⟩
                          case measure => simp [intOf]
                        · have HF2 := Lib.hid (Fst.no HF.out (by rw [wants_none HP.out]; simp [hz]))
                          clear hz1 hp HF
                          go_wp2_with fail
                          refine (Cls.rsize_any N _).mono ?_
                          rintro e w9 ⟨rfl, hb9⟩
                          have H9 := Lib.hid (HAP.out.call hb9)
                          clear hb9 hcc c0 c1 c2 f0 f1 f2 ml q1 ql HAP
                          dsimp only
                          go_wp2_with fail
                          go_roundw
                          case rel => exact ⟨j, x, by omega, rfl, rfl, HF2.out, H9.out⟩
                          case measure => simp [intOf]
                      · unfold cl at hcc
                        obtain ⟨z, z0, _⟩ := HAP.out.md.c0 hp
                        have HF2 := Lib.hid (Fst.no HF.out (wants_some hp))
                        clear hp HF
                        go_wp2_with fail
                        go_roundw
                        case rel => exact ⟨j, x, by omega, rfl, rfl, HF2.out, HAP.out⟩
                        case measure => simp [intOf]
              · by_cases e2 : kind = 2
                · as_aux_lemma =>
                    subst e2
                    have hln : ps.length = n := HPL.out
                    go_upto_block 9 with (fail)
                    go_cut [20] from 248 to 313 (fun xv wx => ∃ wt : Int, xv = .int .i64 wt ∧ ((wt = 0 ∧ Full ps N n ∧ AP w1 wx X gs ps ps ws ws S (some (bo, #[.int .i64 2, .int .i64 N, .int .i64 V, .bool near]))) ∨ ∃ (k s z : Nat) (p : PM), Fnd ps N k s z p ∧ wt = 1048576 + ((32 * k + s * z : Nat) : Int) ∧ AP w1 wx X gs ps (ps.set k (some ⟨p.b, p.c, p.n, ins p.U s, del p.M s⟩)) ws ws S (some (bo, #[.int .i64 2, .int .i64 N, .int .i64 V, .bool near]))))
                    case first =>
                      as_aux_lemma =>
                        go_wp2_with fail
                        go_loopw [20, 21] (fun xv kv wx => ∃ (j : Nat) (wt : Int), j ≤ n ∧ kv = .int .i64 (j : Int) ∧ xv = .int .i64 wt ∧ ((wt = 0 ∧ Full ps N j ∧ AP w1 wx X gs ps ps ws ws S (some (bo, #[.int .i64 2, .int .i64 N, .int .i64 V, .bool near]))) ∨ ∃ (k s z : Nat) (p : PM), Fnd ps N k s z p ∧ wt = 1048576 + ((32 * k + s * z : Nat) : Int) ∧ AP w1 wx X gs ps (ps.set k (some ⟨p.b, p.c, p.n, ins p.U s, del p.M s⟩)) ws ws S (some (bo, #[.int .i64 2, .int .i64 N, .int .i64 V, .bool near])))) (fun _ kv _ => n - (intOf kv).toNat)
                        case atStart => exact ⟨0, 0, Nat.zero_le _, rfl, rfl, .inl ⟨rfl, Full.zero _ _, HAP.out⟩⟩
                        case round =>
                          clear HAP
                          obtain ⟨j, wt, hj, rfl, rfl, hcase⟩ := hrel
                          obtain ⟨w8, rfl⟩ : ∃ w8 : World, w8 = wr := ⟨_, rfl⟩
                          rcases hcase with ⟨rfl, hfu, hap⟩ | hfnd
                          rotate_left
                          · have HFN := Lib.hid hfnd
                            have hw0 : ¬ wt = 0 := by
                              obtain ⟨k, s, z, p, _, e, _⟩ := hfnd
                              omega
                            have hw1 : (wt == 0) = false := by simpa using hw0
                            clear hfnd
                            by_cases hjn : j < n
                            · have hjn2 : (j : Int) < (n : Int) := by omega
                              clear hw0
                              go_wp2_with fail
                              go_meet
                              exact ⟨wt, rfl, .inr HFN.out⟩
                            · have hjn2 : ¬ (j : Int) < (n : Int) := by omega
                              clear hw0
                              go_wp2_with fail
                              go_meet
                              exact ⟨wt, rfl, .inr HFN.out⟩
                          · have HFU := Lib.hid hfu
                            have HAP := Lib.hid hap
                            clear hfu hap
                            by_cases hjn : j < n
                            rotate_left
                            · obtain rfl : n = j := by omega
                              have hjn2 : ¬ (n : Int) < (n : Int) := by omega
                              go_wp2_with fail
                              go_meet
                              exact ⟨0, rfl, .inl ⟨rfl, HFU.out, HAP.out⟩⟩
                            · have hjn2 : (j : Int) < (n : Int) := by omega
                              have hjl : (j : Int) < (ps.length : Int) := by omega
                              have hj0 : (0 : Int) ≤ (j : Int) := by omega
                              obtain ⟨p, hp⟩ : ∃ p, ps[j]? = some p := ⟨_, List.getElem?_eq_getElem (by omega)⟩
                              have HP := Lib.hid hp
                              clear hp
                              go_wp2_with fail
                              go_loopw [20, 22] (fun xv sv wx => ∃ (s : Nat) (wt : Int), s ≤ 32 ∧ sv = .int .i64 (s : Int) ∧ xv = .int .i64 wt ∧ ((wt = 0 ∧ (∀ q, p = some q → s ≤ q.n ∧ (q.c = N → ∀ i, i < s → q.U.testBit i = true)) ∧ AP w1 wx X gs ps ps ws ws S (some (bo, #[.int .i64 2, .int .i64 N, .int .i64 V, .bool near]))) ∨ ∃ (s' z : Nat) (q : PM), p = some q ∧ s ≤ q.n ∧ Fnd ps N j s' z q ∧ wt = 1048576 + ((32 * j + s' * z : Nat) : Int) ∧ AP w1 wx X gs ps (ps.set j (some ⟨q.b, q.c, q.n, ins q.U s', del q.M s'⟩)) ws ws S (some (bo, #[.int .i64 2, .int .i64 N, .int .i64 V, .bool near])))) (fun _ sv _ => 33 - (intOf sv).toNat)
                              case atStart => exact ⟨0, 0, by omega, rfl, rfl, .inl ⟨rfl, fun q _ => ⟨Nat.zero_le _, fun _ i hi => by omega⟩, HAP.out⟩⟩
                              case round =>
                                clear HAP
                                obtain ⟨s, wt, hs32, rfl, rfl, hcase⟩ := hrel
                                obtain ⟨w9, rfl⟩ : ∃ w9 : World, w9 = wr := ⟨_, rfl⟩
                                have hs0 : (0 : Int) ≤ (s : Int) := by omega
                                rcases hcase with ⟨rfl, hbits, hap⟩ | ⟨s', z, q, rfl, hsq, hfnd, hwt, hap⟩
                                · have HAP := Lib.hid hap
                                  have HBT := Lib.hid hbits
                                  clear hap hbits
                                  have o0 := (HAP.out.op _ _ rfl).1
                                  have q1 : w9.cell? ⟨bo, 1, none⟩ = some (.int .i64 N) := o0.cell 1
                                  have ql := o0.lt
                                  clear o0
                                  obtain ⟨c0, c1, c2, f0, f1, f2⟩ := HAP.out.md.blk.three
                                  have ml := HAP.out.md.blk.lt
                                  have uc := (HAP.out.md.row.cell j).trans (urow_get HP.out)
                                  have ul := HAP.out.md.row.lt
                                  have hcc := (HAP.out.md.cls.cell j).trans (cls_get HP.out)
                                  have hcl := HAP.out.md.cls.lt
                                  rcases p with _ | q
                                  · unfold uv at uc
                                    unfold cl at hcc
                                    dsimp only at uc hcc
                                    have hsl : decide ((s : Int) < 0) = false := by simp
                                    have HF2 := Lib.hid (HFU.out.next fun q e => by rw [HP.out] at e; cases e)
                                    have HAP2 := Lib.hid (fun d => HAP.out.call (below_drewN (Below.refl w9.heap.size w9) d))
                                    clear HAP
                                    go_upto_region 45 with (fail)
                                    go_quiet (fail)
                                    go_wp2_with fail
                                    go_roundw
                                    case rel => exact ⟨j + 1, 0, by omega, by go_num, rfl, .inl ⟨rfl, HF2.out, HAP2.out _⟩⟩
                                    case measure => simp [intOf]; omega
                                  · unfold uv at uc
                                    unfold cl at hcc
                                    dsimp only at uc hcc
                                    obtain ⟨z, hc0, hcz, hz0, hz16, hn32, hn0, hnz⟩ := HAP.out.md.c0 HP.out
                                    have hb := HBT.out q rfl
                                    have HAP2 := Lib.hid (fun d => HAP.out.call (below_drewN (Below.refl w9.heap.size w9) d))
                                    have HCZ := Lib.hid hcz
                                    clear hcz
                                    by_cases hcn : q.c = N
                                    · have HCN := Lib.hid hcn
                                      have hcd : (q.c == N) = true := by simpa using hcn
                                      by_cases hsn : s < q.n
                                      · have hsl : decide ((s : Int) < (q.n : Int)) = true := by simpa using hsn
                                        have hsl2 : (s : Int) < (q.n : Int) := by omega
                                        obtain ⟨g1, _⟩ := HAP.out.md.each j q HP.out
                                        obtain ⟨gc, gf⟩ := bcf_cell g1 hsn
                                        have gl := g1.lt
                                        have hne1 : gs j ≠ bo := fun e => blk_ne g1 (HAP.out.op _ _ rfl).1 (by decide) e
                                        have hne2 : gs j ≠ X.bm := fun e => blk_ne g1 HAP.out.md.blk (by decide) e
                                        have hqn : ((0 : Int) == 0) = true := rfl
                                        rcases hbit : q.U.testBit s with _ | _
                                        · rw [hbit] at gc
                                          have HFD := Lib.hid (show Fnd ps N j s z q from ⟨HP.out, hcn, HFU.out, hsn, hbit, hb.2 hcn, by rw [← hcn]; exact HCZ.out⟩)
                                          have HPT := Lib.hid (HAP.out.put (x := true) (U' := ins q.U s) H1.out (del q.M s) HP.out hsn fun i => by
                                            rw [ins_bit]
                                            by_cases e : i = s
                                            · rw [if_pos e, e]; simp
                                            · rw [if_neg e]; simp [show ¬ s = i from fun h => e h.symm])
                                          have hzz := slot_bd (s := (s : Int)) (z := (z : Int)) (by omega) (by omega) (by omega) (by omega)
                                          have HW1 := Lib.hid (show wrap64 ((s : Int) * (z : Int)) = (s : Int) * (z : Int) from wrap64_id (by omega))
                                          have HW2 := Lib.hid (show wrap64 (1048576 + (j : Int) * 32 + (s : Int) * (z : Int)) = 1048576 + ((32 * j + s * z : Nat) : Int) from by
                                            rw [wrap64_id (by omega)]
                                            have e : ((s * z : Nat) : Int) = (s : Int) * (z : Int) := Int.natCast_mul s z
                                            rw [← e]
                                            omega)
                                          obtain ⟨Q, hQ⟩ : ∃ Q : Int, 1048576 + ((32 * j + s * z : Nat) : Int) = Q := ⟨_, rfl⟩
                                          have HQ := Lib.hid hQ
                                          rw [hQ] at HW2
                                          have hcd2 := hcn
                                          clear hbit hb HAP HAP2 hzz hQ g1 hcn HBT HFU
                                          rw [hcd2] at hcc
                                          have hNN : (N == N) = true := by simp
                                          go_upto_region 45 with (fail)
                                          go_quiet (fail)
                                          go_wp2_with fail
                                          refine (Cls.rsize_any N _).mono ?_
                                          rw [HFD.out.hz]
                                          rintro e w10 ⟨rfl, hb10⟩
                                          have H10 := Lib.hid (show AP w1 w10 X gs ps (ps.set j (some ⟨q.b, q.c, q.n, ins q.U s, del q.M s⟩)) ws ws S (some (bo, #[.int .i64 2, .int .i64 N, .int .i64 V, .bool near])) from (HPT.out.call (below_drewN (Below.refl _ _) _)).call hb10)
                                          clear hb10 HPT
                                          dsimp only
                                          go_wp2_with (first | simp only [HW1.out] | simp only [HW2.out])
                                          go_roundw
                                          case rel => exact ⟨s + 1, Q, by omega, by go_num, rfl, .inr ⟨s, z, q, rfl, by omega, HFD.out, HQ.out.symm, H10.out⟩⟩
                                          case measure => simp [intOf]; omega
                                        · rw [hbit] at gc
                                          have HB2 := Lib.hid (show ∀ q', some q = some q' → s + 1 ≤ q'.n ∧ (q'.c = N → ∀ i, i < s + 1 → q'.U.testBit i = true) from fun q' e => by
                                            injection e with e
                                            subst e
                                            refine ⟨by omega, fun _ i hi => ?_⟩
                                            by_cases e : i = s
                                            · rw [e]; exact hbit
                                            · exact hb.2 hcn i (by omega))
                                          rw [hcn] at hcc
                                          have hNN : (N == N) = true := by simp
                                          clear hbit hb HAP g1 hcn HBT hcd
                                          go_upto_region 45 with (fail)
                                          go_quiet (fail)
                                          go_wp2_with fail
                                          go_roundw
                                          case rel => exact ⟨s + 1, 0, by omega, by go_num, rfl, .inl ⟨rfl, HB2.out, HAP2.out _⟩⟩
                                          case measure => simp [intOf]; omega
                                      · have hsl : decide ((s : Int) < (q.n : Int)) = false := by simpa using hsn
                                        have HF2 := Lib.hid (HFU.out.next fun q' e hc i hi => by
                                          rw [HP.out] at e
                                          injection e with e
                                          injection e with e
                                          subst e
                                          exact hb.2 hc i (by omega))
                                        clear hb HAP hcn hcd HBT
                                        go_upto_region 45 with (fail)
                                        go_quiet (fail)
                                        go_wp2_with fail
                                        go_roundw
                                        case rel => exact ⟨j + 1, 0, by omega, by go_num, rfl, .inl ⟨rfl, HF2.out, HAP2.out _⟩⟩
                                        case measure => simp [intOf]; omega
                                    · have hcd : (q.c == N) = false := by simpa using hcn
                                      have HF2 := Lib.hid (HFU.out.next fun q' e hc i hi => by
                                        rw [HP.out] at e
                                        injection e with e
                                        injection e with e
                                        subst e
                                        exact absurd hc hcn)
                                      clear hb HAP HBT
                                      by_cases hsn : s < q.n
                                      · have hsl : decide ((s : Int) < (q.n : Int)) = true := by simpa using hsn
                                        have hsl2 : (s : Int) < (q.n : Int) := by omega
                                        have hcd2 : decide (q.c = N) = false := by simpa using hcn
                                        clear hcn
                                        go_upto_region 45 with (fail)
                                        go_quiet (fail)
                                        go_wp2_with fail
                                        go_roundw
                                        case rel => exact ⟨j + 1, 0, by omega, by go_num, rfl, .inl ⟨rfl, HF2.out, HAP2.out _⟩⟩
                                        case measure => simp [intOf]; omega
                                      · have hsl : decide ((s : Int) < (q.n : Int)) = false := by simpa using hsn
                                        clear hcn
                                        go_upto_region 45 with (fail)
                                        go_quiet (fail)
                                        go_wp2_with fail
                                        go_roundw
                                        case rel => exact ⟨j + 1, 0, by omega, by go_num, rfl, .inl ⟨rfl, HF2.out, HAP2.out _⟩⟩
                                        case measure => simp [intOf]; omega
                                · have HAP := Lib.hid hap
                                  have HFD := Lib.hid hfnd
                                  have HWT := Lib.hid hwt
                                  have hqq : (ps.set j (some (⟨q.b, q.c, q.n, ins q.U s', del q.M s'⟩ : PM)))[j]? = some (some ⟨q.b, q.c, q.n, ins q.U s', del q.M s'⟩) := List.getElem?_set_self (by omega)
                                  have hw1 : (wt == 0) = false := by
                                    have : ¬ wt = 0 := by omega
                                    simpa using this
                                  clear hap hfnd hwt
                                  have o0 := (HAP.out.op _ _ rfl).1
                                  have q1 : w9.cell? ⟨bo, 1, none⟩ = some (.int .i64 N) := o0.cell 1
                                  have ql := o0.lt
                                  clear o0
                                  obtain ⟨c0, c1, c2, f0, f1, f2⟩ := HAP.out.md.blk.three
                                  have ml := HAP.out.md.blk.lt
                                  have uc := (HAP.out.md.row.cell j).trans (urow_get hqq)
                                  have ul := HAP.out.md.row.lt
                                  have hcc := (HAP.out.md.cls.cell j).trans (cls_get hqq)
                                  have hcl := HAP.out.md.cls.lt
                                  unfold uv at uc
                                  unfold cl at hcc
                                  dsimp only at uc hcc
                                  have hjl2 : (j : Int) < ((ps.set j (some (⟨q.b, q.c, q.n, ins q.U s', del q.M s'⟩ : PM))).length : Int) := by rw [List.length_set]; omega
                                  have hcn := HFD.out.hc
                                  rw [hcn] at hcc
                                  have hNN : (N == N) = true := by simp
                                  have HAP2 := Lib.hid (fun d => HAP.out.call (below_drewN (Below.refl w9.heap.size w9) d))
                                  clear HAP hqq hcn
                                  by_cases hsn : s < q.n
                                  · have hsl : decide ((s : Int) < (q.n : Int)) = true := by simpa using hsn
                                    have hsl2 : (s : Int) < (q.n : Int) := by omega
                                    go_upto_region 45 with (fail)
                                    go_quiet (fail)
                                    go_wp2_with fail
                                    go_roundw
                                    case rel => exact ⟨j + 1, wt, by omega, by go_num, rfl, .inr ⟨j, s', z, q, HFD.out, HWT.out, HAP2.out _⟩⟩
                                    case measure => simp [intOf]; omega
                                  · have hsl : decide ((s : Int) < (q.n : Int)) = false := by simpa using hsn
                                    go_upto_region 45 with (fail)
                                    go_quiet (fail)
                                    go_wp2_with fail
                                    go_roundw
                                    case rel => exact ⟨j + 1, wt, by omega, by go_num, rfl, .inr ⟨j, s', z, q, HFD.out, HWT.out, HAP2.out _⟩⟩
                                    case measure => simp [intOf]; omega
                    case rest =>
                      obtain ⟨wt, rfl, hcase⟩ := hcut
                      clear HAP
                      obtain ⟨w8, rfl⟩ : ∃ w8 : World, w8 = wc := ⟨_, rfl⟩
                      rcases hcase with ⟨rfl, hfu, hap⟩ | ⟨k, s, z, p, hfd, hwt, hap⟩
                      · have HAP := Lib.hid hap
                        have HFU := Lib.hid (show Full ps N ps.length from by rw [hln]; exact hfu)
                        clear hap hfu
                        have o0 := (HAP.out.op _ _ rfl).1
                        have q1 : w8.cell? ⟨bo, 1, none⟩ = some (.int .i64 N) := o0.cell 1
                        have ql := o0.lt
                        clear o0
                        go_wp2_with fail
                        refine (HAP.out.take_no H1.out N HFU.out).mono ?_
                        rintro e w9 ⟨rfl, h9⟩
                        have H9 := Lib.hid h9
                        clear h9 q1 ql HAP
                        dsimp only
                        go_wp2_with fail
                        go_loopw [25] (fun rv wx => rv = .int .i64 0 ∧ AP w1 wx X gs ps ps ws ws S (some (bo, #[.int .i64 2, .int .i64 N, .int .i64 V, .bool near]))) (fun _ _ => 0)
                        case atStart => exact ⟨rfl, H9.out⟩
                        case round =>
                          clear H9
                          obtain ⟨rfl, hap⟩ := hrel
                          have HAP := Lib.hid hap
                          clear hap
                          obtain ⟨w10, rfl⟩ : ∃ w10 : World, w10 = wr := ⟨_, rfl⟩
                          have o0 := (HAP.out.op _ _ rfl).1
                          have q1 : w10.cell? ⟨bo, 1, none⟩ = some (.int .i64 N) := o0.cell 1
                          have ql := o0.lt
                          clear o0
                          go_wp2_with fail
                          refine (Cls.rsize_any N _).mono ?_
                          rintro e w11 ⟨rfl, hb11⟩
                          have H11 := Lib.hid (HAP.out.call hb11)
                          clear hb11 q1 ql HAP
                          obtain ⟨Z, hZ⟩ : ∃ Z, Cls.csz N = Z := ⟨_, rfl⟩
                          rw [hZ]
                          clear hZ
                          dsimp only
                          by_cases hz : 0 < Z
                          · go_wp2_with fail
                            refine Met.intro (hJ.out _ _ ⟨_, rfl, ?_, ?_, rfl, gs, ps, ws, HPL.out, H11.out⟩)
                            · kernel_rfl
                            · kernel_rfl
                          · go_wp2_with fail
                            refine Met.intro (hJ.out _ _ ⟨_, rfl, ?_, ?_, rfl, gs, ps, ws, HPL.out, H11.out⟩)
                            · kernel_rfl
                            · kernel_rfl
                      · obtain rfl := hfd.hc
                        have HFD := Lib.hid hfd
                        have HAP := Lib.hid hap
                        obtain ⟨o, ho⟩ : ∃ o : Nat, 32 * k + s * z = o := ⟨_, rfl⟩
                        rw [ho] at hwt
                        have HO := Lib.hid ho
                        have HWT := Lib.hid hwt
                        have hwt0 : (0 : Int) < wt := by omega
                        have hwtt : (wt == wt) = true := by simp
                        have hx1 : wt - 1048576 = (o : Int) := by omega
                        have hwtb : wt ≤ 9000000 := by
                          have h1 := hfd.hs
                          have h2 := (hap.md.c0 (k := k) (p := ⟨p.b, p.c, p.n, ins p.U s, del p.M s⟩) (by rw [List.getElem?_set_self (List.getElem?_eq_some_iff.1 hfd.hk).1]))
                          obtain ⟨zz, _, h3, _, h4, h5, _⟩ := h2
                          have h6 := hfd.hz
                          have h7 := (List.getElem?_eq_some_iff.1 hfd.hk).1
                          dsimp only at h3 h5
                          have h8 : s * z ≤ 32 * 16 := Nat.mul_le_mul (by omega) (by omega)
                          omega
                        clear hwt
                        obtain ⟨z', _, hcz, hz0, hz16, hn32, _, hnz⟩ := hap.aw.ar |> fun _ => hap.md.c0 (k := k) (p := ⟨p.b, p.c, p.n, ins p.U s, del p.M s⟩) (by rw [List.getElem?_set_self (List.getElem?_eq_some_iff.1 hfd.hk).1])
                        have hzz : z' = z := by have := hfd.hz; dsimp only at hcz; omega
                        subst hzz
                        dsimp only at hn32 hnz
                        have hkl := (List.getElem?_eq_some_iff.1 hfd.hk).1
                        have hwl : ws.length = 32 * ps.length := hap.md.hw.trans (by rw [List.length_set])
                        have hoz : o + z' ≤ ws.length := by
                          have h1 : s * z' + z' ≤ p.n * z' := by
                            have := Nat.mul_le_mul_right z' (show s + 1 ≤ p.n from hfd.hs)
                            rw [Nat.add_mul, Nat.one_mul] at this
                            exact this
                          omega
                        have hwl2 : ws.length ≤ 256 := by omega
                        have HZ := Lib.hid hfd.hz
                        clear hap hfd ho hcz hnz hkl
                        have o0 := (HAP.out.op _ _ rfl).1
                        have q1 : w8.cell? ⟨bo, 1, none⟩ = some (.int .i64 p.c) := o0.cell 1
                        have ql := o0.lt
                        clear o0
                        go_wp2_with fail
                        refine (HAP.out.take_is H1.out HFD.out.hk HFD.out.hF HFD.out.hs HFD.out.hU HFD.out.all HFD.out.hz).mono ?_
                        rw [show ((1048576 + 32 * k + s * z' : Nat) : Int) = wt from by rw [HWT.out, ← HO.out]; simp only [Int.natCast_add]; omega, show 32 * k + s * z' = o from HO.out]
                        rintro e w9 ⟨rfl, h9⟩
                        have H9 := Lib.hid h9
                        clear h9 q1 ql HAP
                        dsimp only
                        go_wp2_with fail
                        obtain ⟨ps', hps'⟩ : ∃ ps', ps.set k (some ⟨p.b, p.c, p.n, ins p.U s, del p.M s⟩) = ps' := ⟨_, rfl⟩
                        have hpl' : ps'.length = n := by rw [← hps', List.length_set]; exact hln
                        rw [hps'] at H9
                        have HPL2 := Lib.hid hpl'
                        clear hps' hpl' HFD HO
                        go_loopw [25] (fun rv wx => ∃ r : Nat, r ≤ z' ∧ rv = .int .i64 (r : Int) ∧ AP w1 wx X gs ps' ps' (clr ws o z') (clr ws o r) S (some (bo, #[.int .i64 2, .int .i64 p.c, .int .i64 V, .bool near]))) (fun rv _ => z' - (intOf rv).toNat)
                        case atStart => exact ⟨0, Nat.zero_le _, rfl, H9.out⟩
                        case round =>
                          clear H9
                          obtain ⟨r, hr, rfl, hap⟩ := hrel
                          have HAP := Lib.hid hap
                          clear hap
                          obtain ⟨w10, rfl⟩ : ∃ w10 : World, w10 = wr := ⟨_, rfl⟩
                          have o0 := (HAP.out.op _ _ rfl).1
                          have q1 : w10.cell? ⟨bo, 1, none⟩ = some (.int .i64 p.c) := o0.cell 1
                          have ql := o0.lt
                          clear o0
                          go_wp2_with fail
                          refine (Cls.rsize_any p.c _).mono ?_
                          rw [HZ.out]
                          rintro e w11 ⟨rfl, hb11⟩
                          have H11 := Lib.hid (HAP.out.call hb11)
                          clear hb11 q1 ql HAP
                          dsimp only
                          by_cases hrz : r < z'
                          · have hrz2 : (r : Int) < (z' : Int) := by omega
                            obtain ⟨c0, c1, c2, f0, f1, f2⟩ := H11.out.md.blk.three
                            have ml := H11.out.md.blk.lt
                            obtain ⟨t, ht⟩ : ∃ t : Nat, o + r = t := ⟨_, rfl⟩
                            have hx2 : (o : Int) + (r : Int) = (t : Int) := by omega
                            have hx3 : (t : Int) < ((clr ws o r).length : Int) := by rw [clr_len]; omega
                            have hx4 : (0 : Int) ≤ (t : Int) := by omega
                            have hx5 : (t : Int) ≤ 256 := by omega
                            obtain ⟨x0, wc⟩ : ∃ x0, w11.cell? ⟨X.bw, t, none⟩ = some (.int .i64 x0) := ⟨_, (H11.out.md.wrd.cell t).trans (cells_get (List.getElem?_eq_getElem (by rw [clr_len]; omega)))⟩
                            have wf := H11.out.md.wrd.free t
                            have wl := H11.out.md.wrd.lt
                            have HN := Lib.hid (show AP w1 (w11.setCell ⟨X.bw, t, none⟩ (.int .i64 0)) X gs ps' ps' (clr ws o z') (clr ws o (r + 1)) S (some (bo, #[.int .i64 2, .int .i64 p.c, .int .i64 V, .bool near])) from by
                              have := H11.out.word H1.out t 0
                              rw [← ht, clr_next] at this
                              rw [← ht]
                              exact this)
                            clear ht
                            clear H11
                            go_wp2_with (first | simp only [hx1] | simp only [hx2])
                            go_roundw
                            case rel => exact ⟨r + 1, by omega, by go_num, HN.out⟩
                            case measure => simp [intOf]; omega
                          · obtain rfl : z' = r := by omega
                            have hrz2 : ¬ (z' : Int) < (z' : Int) := by omega
                            go_wp2_with fail
                            refine Met.intro (hJ.out _ _ ⟨_, rfl, ?_, ?_, rfl, gs, ps', clr ws o z', HPL2.out, H11.out⟩)
                            · kernel_rfl
                            · kernel_rfl
                · by_cases e3 : kind = 3
                  · as_aux_lemma =>
                      subst e3
                      have o0 := (HAP.out.op _ _ rfl).1
                      have q1 : w7.cell? ⟨bo, 1, none⟩ = some (.int .i64 N) := o0.cell 1
                      have ql := o0.lt
                      clear o0
                      go_wp2_with fail
                      refine (HAP.out.slot_ N HN.out).mono ?_
                      rintro e w8 ⟨rfl, h9⟩
                      have H8 := Lib.hid h9
                      clear h9 q1 ql HAP
                      have o0 := (H8.out.op _ _ rfl).1
                      have q1 : w8.cell? ⟨bo, 1, none⟩ = some (.int .i64 N) := o0.cell 1
                      have ql := o0.lt
                      clear o0
                      rcases hs : slot ps N with _ | ⟨k, p, s⟩
                      · rw [ans_none hs]
                        have HS := Lib.hid (show ∀ k p s, slot ps N = some (k, p, s) → base ps k s ≠ N from fun k p s e => by rw [hs] at e; cases e)
                        clear hs
                        dsimp only
                        go_wp2_with fail
                        refine (H8.out.free_no_ N HN.out.2 HS.out).mono ?_
                        rintro e w9 ⟨rfl, h9⟩
                        have H9 := Lib.hid h9
                        clear h9 q1 ql H8
                        dsimp only
                        go_wp2_with fail
                        refine Met.intro (hJ.out _ _ ⟨_, rfl, ?_, ?_, rfl, gs, ps, ws, HPL.out, H9.out⟩)
                        · kernel_rfl
                        · kernel_rfl
                      · rw [show ans ps N = .returned (.tuple #[.int .i64 k, .int .i64 s, .int .i64 (base ps k s), .bool true]) by unfold ans; rw [hs]]
                        obtain ⟨hk, hU, hsn, -⟩ := slot_some H8.out.aw.ar hs
                        have HS := Lib.hid hs
                        clear hs
                        have hk0 : (0 : Int) ≤ (k : Int) := by omega
                        have hs0 : (0 : Int) ≤ (s : Int) := by omega
                        by_cases hb : base ps k s = N
                        · rw [hb]
                          have HB := Lib.hid hb
                          have HK := Lib.hid hk
                          have HUL := Lib.hid (H8.out.aw.ar.page k p hk).1.hU
                          clear hb hk hU
                          have hnn : (N == N) = true := by simp
                          dsimp only
                          go_wp2_with fail
                          refine (H8.out.free_is H1.out N HN.out.2 HS.out HB.out).mono ?_
                          rintro e w9 ⟨rfl, h9⟩
                          have H9 := Lib.hid h9
                          clear h9 q1 ql H8
                          have o0 := (H9.out.op _ _ rfl).1
                          have q1 : w9.cell? ⟨bo, 1, none⟩ = some (.int .i64 N) := o0.cell 1
                          have ql := o0.lt
                          clear o0
                          obtain ⟨c0, c1, c2, f0, f1, f2⟩ := H9.out.md.blk.three
                          have ml := H9.out.md.blk.lt
                          have hkl : (k : Int) < (ps.length : Int) := by have := (List.getElem?_eq_some_iff.1 HK.out).1; omega
                          have uc := (H9.out.md.row.cell k).trans (urow_get HK.out)
                          have ul := H9.out.md.row.lt
                          unfold uv at uc
                          dsimp only at uc
                          have hsl : (s : Int) < (p.n : Int) := by omega
                          obtain ⟨g1, _, g3, _, _⟩ := H9.out.md.each k p HK.out
                          obtain ⟨gc, gf⟩ := bcf_cell g1 hsn
                          have gl := g1.lt
                          have H10 := Lib.hid (H9.out.put (x := false) (U' := del p.U s) H1.out (del p.M s) HK.out hsn fun i => by
                            rw [del_bit HUL.out (by omega)]
                            by_cases e : i = s
                            · rw [if_pos e, e]; simp
                            · rw [if_neg e]; simp [show ¬ s = i from fun h => e h.symm])
                          clear g1 H9
                          dsimp only
                          go_wp2_with fail
                          refine Met.intro (hJ.out _ _ ⟨_, rfl, ?_, ?_, rfl, gs, ps.set k (some ⟨p.b, p.c, p.n, del p.U s, del p.M s⟩), ws, by rw [List.length_set]; exact HPL.out, H10.out⟩)
                          · kernel_rfl
                          · kernel_rfl
                        · obtain ⟨B, hB⟩ : ∃ B, base ps k s = B := ⟨_, rfl⟩
                          rw [hB] at hb ⊢
                          have hbb : (B == N) = false := by simpa using hb
                          have HF := Lib.hid (show ∀ k p s, slot ps N = some (k, p, s) → base ps k s ≠ N from fun k' p' s' e => by
                            rw [HS.out] at e
                            injection e with e
                            injection e with e1 e2
                            injection e2 with e2 e3
                            subst e1 e3
                            rw [hB]
                            exact hb)
                          clear hb hB hk hU
                          dsimp only
                          go_wp2_with fail
                          refine (H8.out.free_no_ N HN.out.2 HF.out).mono ?_
                          rintro e w9 ⟨rfl, h9⟩
                          have H9 := Lib.hid h9
                          clear h9 q1 ql H8
                          have o0 := (H9.out.op _ _ rfl).1
                          have q1 : w9.cell? ⟨bo, 1, none⟩ = some (.int .i64 N) := o0.cell 1
                          have ql := o0.lt
                          clear o0
                          dsimp only
                          go_wp2_with fail
                          refine Met.intro (hJ.out _ _ ⟨_, rfl, ?_, ?_, rfl, gs, ps, ws, HPL.out, H9.out⟩)
                          · kernel_rfl
                          · kernel_rfl
                  · by_cases e4 : kind = 4
                    · as_aux_lemma =>
                        subst e4
                        have o0 := (HAP.out.op _ _ rfl).1
                        have q1 : w7.cell? ⟨bo, 1, none⟩ = some (.int .i64 N) := o0.cell 1
                        have ql := o0.lt
                        clear o0
                        go_wp2_with fail
                        refine (HAP.out.slot_ N HN.out).mono ?_
                        rintro e w8 ⟨rfl, h9⟩
                        have H8 := Lib.hid h9
                        clear h9 q1 ql HAP
                        have o0 := (H8.out.op _ _ rfl).1
                        have q1 : w8.cell? ⟨bo, 1, none⟩ = some (.int .i64 N) := o0.cell 1
                        have q2 : w8.cell? ⟨bo, 2, none⟩ = some (.int .i64 V) := o0.cell 2
                        have ql := o0.lt
                        clear o0
                        rcases hs : slot ps N with _ | ⟨k, p, s⟩
                        · rw [ans_none hs]
                          have HS := Lib.hid hs
                          clear hs
                          dsimp only
                          go_wp2_with fail
                          refine (H8.out.store_no_ N V HN.out.2 HS.out).mono ?_
                          rintro e w9 ⟨rfl, h9⟩
                          have H9 := Lib.hid h9
                          clear h9 q1 q2 ql H8
                          dsimp only
                          go_wp2_with fail
                          refine Met.intro (hJ.out _ _ ⟨_, rfl, ?_, ?_, rfl, gs, ps, ws, HPL.out, H9.out⟩)
                          · kernel_rfl
                          · kernel_rfl
                        · rw [show ans ps N = .returned (.tuple #[.int .i64 k, .int .i64 s, .int .i64 (base ps k s), .bool true]) by unfold ans; rw [hs]]
                          obtain ⟨i, hi, hil⟩ := slot_word H8.out.aw.ar hs
                          have HS := Lib.hid (show (slot ps N).isSome = true by rw [hs]; rfl)
                          obtain ⟨B, hB⟩ : ∃ B, base ps k s = B := ⟨_, rfl⟩
                          rw [hB]
                          clear hs hB
                          dsimp only
                          go_wp2_with fail
                          refine (H8.out.store_is H1.out N V HN.out.2 HS.out).mono ?_
                          rintro e w9 ⟨rfl, h9⟩
                          rw [show (N - 1048576).toNat = i by omega] at h9
                          have H9 := Lib.hid h9
                          clear h9 q1 q2 ql H8
                          have o0 := (H9.out.op _ _ rfl).1
                          have q1 : w9.cell? ⟨bo, 1, none⟩ = some (.int .i64 N) := o0.cell 1
                          have q2 : w9.cell? ⟨bo, 2, none⟩ = some (.int .i64 V) := o0.cell 2
                          have ql := o0.lt
                          clear o0
                          obtain ⟨c0, c1, c2, f0, f1, f2⟩ := H9.out.md.blk.three
                          have ml := H9.out.md.blk.lt
                          have hwl : ws.length ≤ 2048 := by have := H9.out.md.hn; have := H9.out.md.hw; omega
                          have hx : wrap64 (N - 1048576) = (i : Int) := by rw [hi]; exact wrap64_id (by omega)
                          have hi0 : (0 : Int) ≤ (i : Int) := by omega
                          have hil2 : (i : Int) < (ws.length : Int) := by omega
                          have wc := (H9.out.md.wrd.cell i).trans (cells_get (List.getElem?_eq_getElem hil))
                          have wf := H9.out.md.wrd.free i
                          have wl := H9.out.md.wrd.lt
                          have H10 := Lib.hid ((H9.out.word H1.out i V).call (below_drewN (Below.refl _ _) 1))
                          clear H9 HS
                          dsimp only
                          go_upto_region 66 with (fail)
                          go_region
                          go_wp2_with fail
                          refine Met.intro (hJ.out _ _ ⟨_, rfl, ?_, ?_, rfl, gs, ps, ws.set i V, HPL.out, H10.out⟩)
                          · kernel_rfl
                          · kernel_rfl
                    · as_aux_lemma =>
                        have h1b : (kind == 1) = false := by simpa using e1
                        have h2b : (kind == 2) = false := by simpa using e2
                        have h3b : (kind == 3) = false := by simpa using e3
                        have h4b : (kind == 4) = false := by simpa using e4
                        clear e1 e2 e3 e4
                        have hln : ps.length = n := HPL.out
                        have o0 := (HAP.out.op _ _ rfl).1
                        have q1 : w7.cell? ⟨bo, 1, none⟩ = some (.int .i64 N) := o0.cell 1
                        have ql := o0.lt
                        clear o0
                        obtain ⟨c0, c1, c2, f0, f1, f2⟩ := HAP.out.md.blk.three
                        have ml := HAP.out.md.blk.lt
                        have hcl := HAP.out.md.cls.lt
                        have ul := HAP.out.md.row.lt
                        by_cases hN0 : 0 ≤ N
                        rotate_left
                        · have HGN := Lib.hid (show ∀ p, get ps N = some p → 0 < (Bit.bl p.U).length from fun p e => by have := get_lt e; omega)
                          have hd1 : decide ((0 : Int) ≤ N) = false := by simpa using hN0
                          clear hN0
                          go_upto_region 21 with (fail)
                          go_quiet (fail)
                          have HAP3 := Lib.hid (fun d => HAP.out.call (below_drewN (Below.refl w7.heap.size w7) d))
                          clear HAP q1 ql c0 c1 c2 f0 f1 f2 ml
                          go_wp2_with fail
                          go_loopw [34, 35] (fun mv sv wx => mv = .bool false ∧ sv = .int .i64 0 ∧ AP w1 wx X gs ps ps ws ws S (some (bo, #[.int .i64 kind, .int .i64 N, .int .i64 V, .bool near]))) (fun _ _ _ => 0)
                          case atStart => exact ⟨rfl, rfl, HAP3.out _⟩
                          case round =>
                            clear HAP3
                            obtain ⟨rfl, rfl, hap⟩ := hrel
                            have HAP := Lib.hid hap
                            clear hap
                            obtain ⟨w8, rfl⟩ : ∃ w8 : World, w8 = wr := ⟨_, rfl⟩
                            have HAP4 := Lib.hid (fun d => HAP.out.call (below_drewN (Below.refl w8.heap.size w8) d))
                            go_upto_region 23 with (fail)
                            go_quiet (fail)
                            obtain ⟨w9, hw9⟩ : ∃ w9, w8.drewN nq = w9 := ⟨_, rfl⟩
                            have H9 := Lib.hid (show AP w1 w9 X gs ps ps ws ws S (some (bo, #[.int .i64 kind, .int .i64 N, .int .i64 V, .bool near])) from by rw [← hw9]; exact HAP4.out _)
                            rw [hw9]
                            clear hw9 HAP HAP4
                            have o0 := (H9.out.op _ _ rfl).1
                            have q1 : w9.cell? ⟨bo, 1, none⟩ = some (.int .i64 N) := o0.cell 1
                            have ql := o0.lt
                            clear o0
                            go_wp2_with fail
                            refine (H9.out.drop_no_ N HGN.out).mono ?_
                            rintro e w10 ⟨rfl, h9⟩
                            have H10 := Lib.hid h9
                            clear h9 q1 ql H9
                            dsimp only
                            go_wp2_with fail
                            refine Met.intro (hJ.out _ _ ⟨_, rfl, ?_, ?_, rfl, gs, ps, ws, HPL.out, H10.out⟩)
                            · kernel_rfl
                            · kernel_rfl
                        · obtain ⟨k, rfl⟩ : ∃ k : Nat, N = k := ⟨N.toNat, by omega⟩
                          have hd1 : decide ((0 : Int) ≤ (k : Int)) = true := by simp
                          by_cases hkn : k < n
                          rotate_left
                          · have HGN := Lib.hid (show ∀ p, get ps (k : Int) = some p → 0 < (Bit.bl p.U).length from fun p e => by have := get_lt e; omega)
                            have hd2 : decide ((k : Int) < (n : Int)) = false := by simpa using hkn
                            clear hN0
                            go_upto_region 21 with (fail)
                            go_quiet (fail)
                            have HAP3 := Lib.hid (fun d => HAP.out.call (below_drewN (Below.refl w7.heap.size w7) d))
                            clear HAP q1 ql c0 c1 c2 f0 f1 f2 ml
                            go_wp2_with fail
                            go_loopw [34, 35] (fun mv sv wx => mv = .bool false ∧ sv = .int .i64 0 ∧ AP w1 wx X gs ps ps ws ws S (some (bo, #[.int .i64 kind, .int .i64 (k : Int), .int .i64 V, .bool near]))) (fun _ _ _ => 0)
                            case atStart => exact ⟨rfl, rfl, HAP3.out _⟩
                            case round =>
                              clear HAP3
                              obtain ⟨rfl, rfl, hap⟩ := hrel
                              have HAP := Lib.hid hap
                              clear hap
                              obtain ⟨w8, rfl⟩ : ∃ w8 : World, w8 = wr := ⟨_, rfl⟩
                              have HAP4 := Lib.hid (fun d => HAP.out.call (below_drewN (Below.refl w8.heap.size w8) d))
                              go_upto_region 23 with (fail)
                              go_quiet (fail)
                              obtain ⟨w9, hw9⟩ : ∃ w9, w8.drewN nq = w9 := ⟨_, rfl⟩
                              have H9 := Lib.hid (show AP w1 w9 X gs ps ps ws ws S (some (bo, #[.int .i64 kind, .int .i64 (k : Int), .int .i64 V, .bool near])) from by rw [← hw9]; exact HAP4.out _)
                              rw [hw9]
                              clear hw9 HAP HAP4
                              have o0 := (H9.out.op _ _ rfl).1
                              have q1 : w9.cell? ⟨bo, 1, none⟩ = some (.int .i64 (k : Int)) := o0.cell 1
                              have ql := o0.lt
                              clear o0
                              go_wp2_with fail
                              refine (H9.out.drop_no_ (k : Int) HGN.out).mono ?_
                              rintro e w10 ⟨rfl, h9⟩
                              have H10 := Lib.hid h9
                              clear h9 q1 ql H9
                              dsimp only
                              go_wp2_with fail
                              refine Met.intro (hJ.out _ _ ⟨_, rfl, ?_, ?_, rfl, gs, ps, ws, HPL.out, H10.out⟩)
                              · kernel_rfl
                              · kernel_rfl
                          · have hd2 : decide ((k : Int) < (n : Int)) = true := by simpa using hkn
                            have hk0 : (0 : Int) ≤ (k : Int) := by omega
                            have hkl : (k : Int) < (ps.length : Int) := by omega
                            have hkn2 : (k : Int) < (n : Int) := by omega
                            obtain ⟨p, hp⟩ : ∃ p, ps[k]? = some p := ⟨_, List.getElem?_eq_getElem (by omega)⟩
                            have hcc := (HAP.out.md.cls.cell k).trans (cls_get hp)
                            have HP := Lib.hid hp
                            have hgk : get ps (k : Int) = p := by rw [get_nat, hp]; rfl
                            clear hp hN0 hkn
                            rcases p with _ | p
                            · have HGN := Lib.hid (show ∀ p, get ps (k : Int) = some p → 0 < (Bit.bl p.U).length from fun p e => by rw [hgk] at e; cases e)
                              unfold cl at hcc
                              dsimp only at hcc
                              clear hgk
                              go_upto_region 21 with (fail)
                              go_quiet (fail)
                              have HAP3 := Lib.hid (fun d => HAP.out.call (below_drewN (Below.refl w7.heap.size w7) d))
                              clear HAP q1 ql c0 c1 c2 f0 f1 f2 ml
                              go_wp2_with fail
                              go_loopw [34, 35] (fun mv sv wx => mv = .bool false ∧ sv = .int .i64 0 ∧ AP w1 wx X gs ps ps ws ws S (some (bo, #[.int .i64 kind, .int .i64 (k : Int), .int .i64 V, .bool near]))) (fun _ _ _ => 0)
                              case atStart => exact ⟨rfl, rfl, HAP3.out _⟩
                              case round =>
                                clear HAP3
                                obtain ⟨rfl, rfl, hap⟩ := hrel
                                have HAP := Lib.hid hap
                                clear hap
                                obtain ⟨w8, rfl⟩ : ∃ w8 : World, w8 = wr := ⟨_, rfl⟩
                                have HAP4 := Lib.hid (fun d => HAP.out.call (below_drewN (Below.refl w8.heap.size w8) d))
                                go_upto_region 23 with (fail)
                                go_quiet (fail)
                                obtain ⟨w9, hw9⟩ : ∃ w9, w8.drewN nq = w9 := ⟨_, rfl⟩
                                have H9 := Lib.hid (show AP w1 w9 X gs ps ps ws ws S (some (bo, #[.int .i64 kind, .int .i64 (k : Int), .int .i64 V, .bool near])) from by rw [← hw9]; exact HAP4.out _)
                                rw [hw9]
                                clear hw9 HAP HAP4
                                have o0 := (H9.out.op _ _ rfl).1
                                have q1 : w9.cell? ⟨bo, 1, none⟩ = some (.int .i64 (k : Int)) := o0.cell 1
                                have ql := o0.lt
                                clear o0
                                go_wp2_with fail
                                refine (H9.out.drop_no_ (k : Int) HGN.out).mono ?_
                                rintro e w10 ⟨rfl, h9⟩
                                have H10 := Lib.hid h9
                                clear h9 q1 ql H9
                                dsimp only
                                go_wp2_with fail
                                refine Met.intro (hJ.out _ _ ⟨_, rfl, ?_, ?_, rfl, gs, ps, ws, HPL.out, H10.out⟩)
                                · kernel_rfl
                                · kernel_rfl
                            · unfold cl at hcc
                              dsimp only at hcc
                              obtain ⟨z, hc0, hcz, hz0, hz16, hn32, hn0, hnz⟩ := HAP.out.md.c0 HP.out
                              have hd3 : decide ((0 : Int) ≤ p.c) = true := by simpa using hc0
                              have HGK := Lib.hid hgk
                              have HBD := Lib.hid (HAP.out.md.each k p HP.out).2.2.2.2
                              clear hgk hcz hnz
                              go_upto_region 21 with (fail)
                              go_quiet (fail)
                              have HAP3 := Lib.hid (fun d => HAP.out.call (below_drewN (Below.refl w7.heap.size w7) d))
                              clear HAP q1 ql c0 c1 c2 f0 f1 f2 ml hcc
                              go_wp2_with fail
                              go_loopw [34, 35] (fun mv sv wx => ∃ s : Nat, s ≤ p.n ∧ mv = .bool true ∧ sv = .int .i64 (s : Int) ∧ (∀ i, i < s → p.U.testBit i = false) ∧ AP w1 wx X gs ps ps ws ws S (some (bo, #[.int .i64 kind, .int .i64 (k : Int), .int .i64 V, .bool near]))) (fun _ sv _ => p.n - (intOf sv).toNat)
                              case atStart => exact ⟨0, Nat.zero_le _, rfl, rfl, fun i hi => by omega, HAP3.out _⟩
                              case round =>
                                clear HAP3
                                obtain ⟨s, hsn, rfl, rfl, hbits, hap⟩ := hrel
                                have HAP := Lib.hid hap
                                have HBT := Lib.hid hbits
                                clear hap hbits
                                obtain ⟨w8, rfl⟩ : ∃ w8 : World, w8 = wr := ⟨_, rfl⟩
                                have hs0 : (0 : Int) ≤ (s : Int) := by omega
                                have HAP4 := Lib.hid (fun d => HAP.out.call (below_drewN (Below.refl w8.heap.size w8) d))
                                have o0 := (HAP.out.op _ _ rfl).1
                                have q1 : w8.cell? ⟨bo, 1, none⟩ = some (.int .i64 (k : Int)) := o0.cell 1
                                have ql := o0.lt
                                clear o0
                                obtain ⟨c0, c1, c2, f0, f1, f2⟩ := HAP.out.md.blk.three
                                have ml := HAP.out.md.blk.lt
                                have uc := (HAP.out.md.row.cell k).trans (urow_get HP.out)
                                have ul := HAP.out.md.row.lt
                                unfold uv at uc
                                dsimp only at uc
                                by_cases hsp : s < p.n
                                · have hsl : decide ((s : Int) < (p.n : Int)) = true := by simpa using hsp
                                  have hsl2 : (s : Int) < (p.n : Int) := by omega
                                  obtain ⟨g1, _⟩ := HAP.out.md.each k p HP.out
                                  obtain ⟨gc, gf⟩ := bcf_cell g1 hsp
                                  have gl := g1.lt
                                  rcases hbit : p.U.testBit s with _ | _
                                  · rw [hbit] at gc
                                    have HB2 := Lib.hid (show ∀ i, i < s + 1 → p.U.testBit i = false from fun i hi => by
                                      by_cases e : i = s
                                      · rw [e]; exact hbit
                                      · exact HBT.out i (by omega))
                                    clear hbit HBT g1 HAP
                                    go_upto_region 23 with (fail)
                                    go_quiet (fail)
                                    go_upto_region 25 with (fail)
                                    go_quiet (fail)
                                    go_wp2_with fail
                                    go_roundw
                                    case rel => exact ⟨s + 1, by omega, rfl, by go_num, HB2.out, HAP4.out _⟩
                                    case measure => simp [intOf]; omega
                                  · rw [hbit] at gc
                                    have HGN := Lib.hid (show ∀ q, get ps (k : Int) = some q → 0 < (Bit.bl q.U).length from fun q e => by
                                      rw [HGK.out] at e
                                      injection e with e
                                      subst e
                                      rcases Nat.eq_zero_or_pos (Bit.bl p.U).length with h | h
                                      · have := (bl_none HBD.out hn32).1 h s hsp
                                        rw [hbit] at this
                                        cases this
                                      · exact h)
                                    clear hbit HBT g1 HAP
                                    go_upto_region 23 with (fail)
                                    go_quiet (fail)
                                    go_upto_region 25 with (fail)
                                    go_quiet (fail)
                                    go_upto_region 27 with (fail)
                                    generalize hw9 : World.drewN _ _ = w9
                                    have H9 := Lib.hid (show AP w1 w9 X gs ps ps ws ws S (some (bo, #[.int .i64 kind, .int .i64 (k : Int), .int .i64 V, .bool near])) from by rw [← hw9]; first | exact HAP4.out _ | exact (HAP4.out _).call (below_drewN (Below.refl _ _) _))
                                    clear hw9 HAP4 q1 ql c0 c1 c2 f0 f1 f2 ml uc gc gf
                                    have o0 := (H9.out.op _ _ rfl).1
                                    have q1 : w9.cell? ⟨bo, 1, none⟩ = some (.int .i64 (k : Int)) := o0.cell 1
                                    have ql := o0.lt
                                    clear o0
                                    go_wp2_with fail
                                    refine (H9.out.drop_no_ (k : Int) HGN.out).mono ?_
                                    rintro e w10 ⟨rfl, h9⟩
                                    have H10 := Lib.hid h9
                                    clear h9 q1 ql H9
                                    dsimp only
                                    go_wp2_with fail
                                    refine Met.intro (hJ.out _ _ ⟨_, rfl, ?_, ?_, rfl, gs, ps, ws, HPL.out, H10.out⟩)
                                    · kernel_rfl
                                    · kernel_rfl
                                · have hsl : decide ((s : Int) < (p.n : Int)) = false := by simpa using hsp
                                  have HU0 := Lib.hid ((bl_none HBD.out hn32).2 fun i hi => HBT.out i (by omega))
                                  clear HBT HAP
                                  go_upto_region 23 with (fail)
                                  go_quiet (fail)
                                  obtain ⟨w9, hw9⟩ : ∃ w9, w8.drewN nq = w9 := ⟨_, rfl⟩
                                  have H9 := Lib.hid (show AP w1 w9 X gs ps ps ws ws S (some (bo, #[.int .i64 kind, .int .i64 (k : Int), .int .i64 V, .bool near])) from by rw [← hw9]; exact HAP4.out _)
                                  rw [hw9]
                                  clear hw9 HAP4 q1 ql c0 c1 c2 f0 f1 f2 ml uc
                                  have o0 := (H9.out.op _ _ rfl).1
                                  have q1 : w9.cell? ⟨bo, 1, none⟩ = some (.int .i64 (k : Int)) := o0.cell 1
                                  have ql := o0.lt
                                  clear o0
                                  go_wp2_with fail
                                  refine (H9.out.drop_is H1.out HP.out HU0.out).mono ?_
                                  rintro e w10 ⟨rfl, h9⟩
                                  have H10 := Lib.hid h9
                                  clear h9 q1 ql H9
                                  have o0 := (H10.out.op _ _ rfl).1
                                  have q1 : w10.cell? ⟨bo, 1, none⟩ = some (.int .i64 (k : Int)) := o0.cell 1
                                  have ql := o0.lt
                                  clear o0
                                  obtain ⟨c0, c1, c2, f0, f1, f2⟩ := H10.out.md.blk.three
                                  have ml := H10.out.md.blk.lt
                                  have hcc := (H10.out.md.cls.cell k).trans (cls_get HP.out)
                                  have hcf := H10.out.md.cls.free k
                                  have hcl := H10.out.md.cls.lt
                                  have uc := (H10.out.md.row.cell k).trans (urow_get HP.out)
                                  have uf := H10.out.md.row.free k
                                  have ul := H10.out.md.row.lt
                                  have hne : X.bc ≠ X.bu := fun e => blk_ne H10.out.md.cls H10.out.md.row (by decide) e
                                  have hne2 : X.bu ≠ X.bc := fun e => hne e.symm
                                  have hnb1 : X.bc ≠ bo := fun e => blk_ne H10.out.md.cls (H10.out.op _ _ rfl).1 (by decide) e
                                  have hnb2 : X.bu ≠ bo := fun e => blk_ne H10.out.md.row (H10.out.op _ _ rfl).1 (by decide) e
                                  have hnm1 : X.bc ≠ X.bm := fun e => blk_ne H10.out.md.cls H10.out.md.blk (by decide) e
                                  have hnm2 : X.bu ≠ X.bm := fun e => blk_ne H10.out.md.row H10.out.md.blk (by decide) e
                                  have HD1 := Lib.hid (H10.out.dropped1 H1.out k)
                                  have HD2 := Lib.hid (H10.out.dropped2 H1.out k)
                                  clear H10
                                  dsimp only
                                  go_upto_region 29 with (fail)
                                  go_region
                                  all_goals
                                    go_wp2_with fail
                                    refine Met.intro (hJ.out _ _ ⟨_, rfl, ?_, ?_, rfl, _, ps.set k none, ws, by rw [List.length_set]; exact HPL.out, by first | exact HD1.out | exact HD2.out⟩)
                                    · kernel_rfl
                                    · kernel_rfl
            · intro us wc T hT hcut
              simp only [M4, Mx.mix] at hT
              subst hT
              obtain ⟨h17, gs', ps', ws', hpn', hap'⟩ := hcut
              rw [h17]
              clear h17
              have HAP2 := Lib.hid hap'
              have HPL2 := Lib.hid hpn'
              clear hap' hpn' HAP HPL
              have HAP := HAP2
              clear HAP2
              obtain ⟨ps, rfl⟩ : ∃ x, x = ps' := ⟨_, rfl⟩
              obtain ⟨ws, rfl⟩ : ∃ x, x = ws' := ⟨_, rfl⟩
              obtain ⟨gs, rfl⟩ : ∃ x, x = gs' := ⟨_, rfl⟩
              have hln : ps.length = n := HPL2.out
              obtain ⟨w8, rfl⟩ : ∃ w8 : World, w8 = wc := ⟨_, rfl⟩
              go_wp2_with fail
              go_loopw [36, 37, 38] (fun av fv kv wx => ∃ (j nl : Nat) (A7 : Option Addr) (c7 : Nat), j ≤ n ∧ kv = .int .i64 (j : Int) ∧ fv = .int .i64 (nf (ps.take j) : Nat) ∧ av = .slice A7 nl c7 ∧ (allOf ps j).length = nl ∧ Below w8.heap.size w8 wx ∧ wx.ownsRow w8.heap.size 3 1 (.slice A7 nl c7) nl (ints' (allOf ps j))) (fun _ _ kv _ => n - (intOf kv).toNat)
              case atStart => exact ⟨0, 0, none, 0, Nat.zero_le _, rfl, rfl, rfl, rfl, Below.refl _ _, World.ownsRow_nil _ _ _ _⟩
              case round =>
                obtain ⟨j, nl, A7, c7, hj, rfl, rfl, rfl, hnl, hbe, ho⟩ := hrel
                have HBE := Lib.hid hbe
                have HO := Lib.hid ho
                have HNL := Lib.hid hnl
                have H9 := Lib.hid (HAP.out.call hbe)
                clear hbe ho hnl
                obtain ⟨w9, rfl⟩ : ∃ w9 : World, w9 = wr := ⟨_, rfl⟩
                by_cases hjn : j < n
                · as_aux_lemma =>
                    have hjn2 : (j : Int) < (n : Int) := by omega
                    have hj0 : (0 : Int) ≤ (j : Int) := by omega
                    have hjl : (j : Int) < (ps.length : Int) := by omega
                    obtain ⟨p, hp⟩ : ∃ p, ps[j]? = some p := ⟨_, List.getElem?_eq_getElem (by omega)⟩
                    have HP := Lib.hid hp
                    have HNF := Lib.hid (nf_succ hp)
                    have hnf8 : nf (ps.take j) ≤ 8 := by
                      have := nf_le (ps.take j)
                      rw [List.length_take] at this
                      omega
                    have hcc := (H9.out.md.cls.cell j).trans (cls_get hp)
                    have hcl := H9.out.md.cls.lt
                    have uc := (H9.out.md.row.cell j).trans (urow_get hp)
                    have ul := H9.out.md.row.lt
                    obtain ⟨c0, c1, c2, f0, f1, f2⟩ := H9.out.md.blk.three
                    have ml := H9.out.md.blk.lt
                    clear hp
                    obtain ⟨fr, hfr⟩ : ∃ fr, nf (ps.take j) = fr := ⟨_, rfl⟩
                    rw [hfr] at HNF hnf8 ⊢
                    clear hfr
                    rcases p with _ | p
                    · unfold uv at uc
                      unfold cl at hcc
                      dsimp only at uc hcc
                      have HAL := Lib.hid (show allOf ps (j + 1) = allOf ps j from by rw [allOf, begins_none HP.out, List.append_nil])
                      have HNF2 := Lib.hid (show nf (ps.take (j + 1)) = fr + 1 from HNF.out)
                      clear HNF
                      go_wp2_with fail
                      go_loopw [36, 39] (fun av sv wx => av = .slice A7 nl c7 ∧ sv = .int .i64 0 ∧ w9 = wx) (fun _ _ _ => 0)
                      case atStart => exact ⟨rfl, rfl, rfl⟩
                      case round =>
                        obtain ⟨rfl, rfl, rfl⟩ := hrel
                        go_wp2_with fail
                        go_roundw
                        case rel => exact ⟨j + 1, nl, A7, c7, by omega, by go_num, by rw [HNF2.out]; go_num, rfl, by rw [HAL.out]; exact HNL.out, HBE.out, by rw [HAL.out]; exact HO.out⟩
                        case measure => simp [intOf]; omega
                    · unfold uv at uc
                      unfold cl at hcc
                      dsimp only at uc hcc
                      obtain ⟨z, hc0, hcz, hz0, hz16, hn32, hn0, hnz⟩ := H9.out.md.c0 HP.out
                      have HCZ := Lib.hid hcz
                      have HGA := Lib.hid (bgs_all HP.out (H9.out.md.each j p HP.out).2.2.2.2 hn32)
                      have HNF2 := Lib.hid (show nf (ps.take (j + 1)) = fr from HNF.out)
                      clear HNF hcz H9
                      go_wp2_with fail
                      go_loopw [36, 39] (fun av sv wx => ∃ (s nl : Nat) (A7 : Option Addr) (c7 : Nat), s ≤ p.n ∧ sv = .int .i64 (s : Int) ∧ av = .slice A7 nl c7 ∧ (allOf ps j ++ bgs ps j s p.U).length = nl ∧ Below w8.heap.size w8 wx ∧ wx.ownsRow w8.heap.size 3 1 (.slice A7 nl c7) nl (ints' (allOf ps j ++ bgs ps j s p.U))) (fun _ sv _ => p.n - (intOf sv).toNat)
                      case atStart => exact ⟨0, nl, A7, c7, Nat.zero_le _, rfl, rfl, by rw [show bgs ps j 0 p.U = [] from rfl, List.append_nil]; exact HNL.out, HBE.out, by rw [show bgs ps j 0 p.U = [] from rfl, List.append_nil]; exact HO.out⟩
                      case round =>
                        clear HO HBE HNL uc c0 c1 c2 f0 f1 f2 ml hcc hcl ul
                        obtain ⟨s, nl, A7, c7, hsn, rfl, rfl, hnl, hbe, ho⟩ := hrel
                        have HBE := Lib.hid hbe
                        have HO := Lib.hid ho
                        have HNL := Lib.hid hnl
                        have hnl2 : nl ≤ 288 := by rw [← hnl]; exact allOf_bgs ps j s p.U (by omega) (by omega)
                        have H9 := Lib.hid (HAP.out.call hbe)
                        clear hbe ho hnl
                        obtain ⟨wa, rfl⟩ : ∃ wa : World, wa = wr := ⟨_, rfl⟩
                        have hcc := (H9.out.md.cls.cell j).trans (cls_get HP.out)
                        have hcl := H9.out.md.cls.lt
                        have uc := (H9.out.md.row.cell j).trans (urow_get HP.out)
                        have ul := H9.out.md.row.lt
                        obtain ⟨c0, c1, c2, f0, f1, f2⟩ := H9.out.md.blk.three
                        have ml := H9.out.md.blk.lt
                        unfold uv at uc
                        unfold cl at hcc
                        dsimp only at uc hcc
                        have hs0 : (0 : Int) ≤ (s : Int) := by omega
                        by_cases hsp : s < p.n
                        · have hsl2 : (s : Int) < (p.n : Int) := by omega
                          obtain ⟨g1, _⟩ := H9.out.md.each j p HP.out
                          obtain ⟨gc, gf⟩ := bcf_cell g1 hsp
                          have gl := g1.lt
                          have HBS := Lib.hid (bgs_succ ps j s p.U)
                          rcases hbit : p.U.testBit s with _ | _
                          · rw [hbit] at gc HBS
                            have HB2 := Lib.hid (show bgs ps j (s + 1) p.U = bgs ps j s p.U from by rw [HBS.out]; exact List.append_nil _)
                            clear hbit HBS g1 H9
                            go_wp2_with fail
                            go_roundw
                            case rel => exact ⟨s + 1, nl, A7, c7, by omega, by go_num, rfl, by rw [HB2.out]; exact HNL.out, HBE.out, by rw [HB2.out]; exact HO.out⟩
                            case measure => simp [intOf]; omega
                          · rw [hbit] at gc HBS
                            have hbs := base_some (ps := ps) (k := (j : Int)) (s := (s : Int)) (p := p) (by rw [get_nat, HP.out]; rfl)
                            rw [if_pos ⟨by omega, by omega⟩, HCZ.out] at hbs
                            have hzz := slot_bd (s := (s : Int)) (z := (z : Int)) (by omega) (by omega) (by omega) (by omega)
                            have HW1 := Lib.hid (show wrap64 ((s : Int) * (z : Int)) = (s : Int) * (z : Int) from wrap64_id (by omega))
                            obtain ⟨Q, hQ⟩ : ∃ Q : Int, 1048576 + (j : Int) * 32 + (s : Int) * (z : Int) = Q := ⟨_, rfl⟩
                            have HW2 := Lib.hid (show wrap64 (1048576 + (j : Int) * 32 + (s : Int) * (z : Int)) = Q from by rw [wrap64_id (by omega)]; exact hQ)
                            have HB2 := Lib.hid (show allOf ps j ++ bgs ps j (s + 1) p.U = (allOf ps j ++ bgs ps j s p.U) ++ [Q] from by
                              rw [HBS.out, if_pos rfl, hbs, hQ, List.append_assoc])
                            clear hbit HBS g1 H9 hbs hzz hQ
                            go_wp2_with fail
                            refine (Cls.rsize_any p.c _).mono ?_
                            rw [HCZ.out]
                            rintro e wb ⟨rfl, hbb⟩
                            have HBB := Lib.hid (fresh_call HBE.out hbb)
                            have HOB := Lib.hid (own_block HO.out fun k hk => hbb.block k (HO.out.lt k hk).2)
                            have hszb := HBB.out.size
                            clear hbb HBE HO gc gf gl uc c0 c1 c2 f0 f1 f2 ml hcc hcl ul
                            dsimp only
                            go_wp2_with (first
                              | simp only [HW1.out]
                              | simp only [HW2.out]
                              | (at_builtin; go_loud (refine wpList_app _ rfl _ _ 27 rfl w8.heap.size 3 i0 (.int .i64 0) 1 8 Tryd.underlying27 HI0.out.1 HI0.out.2.1 HI0.out.2.2.1 HI0.out.2.2.2 rfl (by decide) _ _ _ rfl (HOB.out.alloc _) (wb.heap.size + 1) _ 1 1 [.int .i64 Q] rfl (Blk.reads (Blk.new wb _ _) (by simp) rfl rfl (by decide)) ?c1 ?c2 ?c3 ?c4 ?_))
                              | fail)
                            case c1 => intro u hu; simp at hu; subst hu; rfl
                            case c2 => unfold maxLen; omega
                            case c3 => omega
                            case c4 => (try simp only [World.size_alloc]); omega
                            intro a8 c8 wd ho8 hg8 hat8
                            have HBE8 := Lib.hid (show Below w8.heap.size w8 wd from (fresh_alloc HBB.out _).grown hg8 (by simp; omega) (fun k hk => (HOB.out.lt k hk).1))
                            have HO8 := Lib.hid (show wd.ownsRow w8.heap.size 3 1 (.slice a8 (nl + 1) c8) (nl + 1) (ints' (allOf ps j ++ bgs ps j (s + 1) p.U)) from by rw [HB2.out]; simpa [ints'] using ho8)
                            have HNL8 := Lib.hid (show (allOf ps j ++ bgs ps j (s + 1) p.U).length = nl + 1 from by rw [HB2.out, List.length_append, HNL.out]; rfl)
                            clear ho8 hg8 hat8 HBB HOB
                            go_wp2_with fail
                            go_roundw
                            case rel => exact ⟨s + 1, nl + 1, a8, c8, by omega, by go_num, rfl, HNL8.out, HBE8.out, HO8.out⟩
                            case measure => simp [intOf]; omega
                        · obtain rfl : s = p.n := by omega
                          have hsl2 : ¬ (p.n : Int) < (p.n : Int) := by omega
                          rw [HGA.out] at HNL HO
                          clear H9
                          go_wp2_with fail
                          go_roundw
                          case rel => exact ⟨j + 1, nl, A7, c7, by omega, by go_num, by rw [HNF2.out], rfl, HNL.out, HBE.out, HO.out⟩
                          case measure => simp [intOf]; omega
                · obtain rfl : n = j := by omega
                  have hjn2 : ¬ (n : Int) < (n : Int) := by omega
                  go_wp2_with fail
                  refine (Ar.all_any _ _ _ _ _ _ H9.out.aw.ar H9.out.aw.tab).mono ?_
                  rintro e wb ⟨a8, c8, rfl, ho8, hb8⟩
                  rw [hln] at ho8 ⊢
                  have HO8 := Lib.hid ho8
                  have HB8 := Lib.hid hb8
                  have HWO := Lib.hid (show wb.ownsRow w8.heap.size 3 1 (.slice A7 nl c7) nl (ints' (allOf ps n)) from own_block HO.out fun k hk => hb8.block k (HO.out.lt k hk).2)
                  have hal := allOf_len ps n
                  have hnl9 : nl ≤ 256 := by have := HNL.out; omega
                  clear ho8 hb8 HO HBE
                  dsimp only
                  go_wp2_with fail
                  refine (H9.out.ints H1.out HB8.out HO8.out (by omega)).mono ?_
                  rintro e wd ⟨rfl, hki, S9, hb9⟩
                  have HP9 := Lib.hid (show Book.RI wd wd.heap.size a8 (allOf ps n).length c8 (allOf ps n) from ⟨rfl, Reads.of_own (hki _ _ _ _ HO8.out)⟩)
                  have HW9 := Lib.hid (show Book.RI wd wd.heap.size A7 nl c7 (allOf ps n) from ⟨HNL.out, Reads.of_own (hki _ _ _ _ HWO.out)⟩)
                  have HA := Lib.hid hb9
                  clear hki hb9 HO8 HWO HB8 H9
                  dsimp only
                  go_wp2_with fail
                  refine (room_any _ _ _ _ _ _ HA.out.aw.ar).mono ?_
                  rintro e we ⟨rfl, d, rfl⟩
                  rw [hln]
                  have HA2 := Lib.hid (HA.out.call (below_drewN (Below.refl _ _) d))
                  obtain ⟨we, hwe⟩ : ∃ we, wd.drewN d = we := ⟨_, rfl⟩
                  have HP2 := Lib.hid (show Book.RI we we.heap.size a8 (allOf ps n).length c8 (allOf ps n) from by rw [← hwe]; exact HP9.out)
                  have HW2 := Lib.hid (show Book.RI we we.heap.size A7 nl c7 (allOf ps n) from by rw [← hwe]; exact HW9.out)
                  rw [hwe] at HA2 ⊢
                  have htk : ps.take n = ps := by rw [← hln]; exact List.take_length
                  rw [htk]
                  have hfr8 : nf ps ≤ 8 := by have := nf_le ps; omega
                  obtain ⟨fr, hfr⟩ : ∃ fr, nf ps = fr := ⟨_, rfl⟩
                  rw [hfr] at hfr8 ⊢
                  have hff : ((fr : Int) == (fr : Int)) = true := by simp
                  have hnn : ((n : Int) == (n : Int)) = true := by simp
                  clear hwe HA HP9 HW9 htk hfr
                  dsimp only
                  go_wp2_with fail
                  refine (Book.same_yes _ HP2.out HW2.out).mono ?_
                  rintro e wf ⟨rfl, d2, rfl⟩
                  have HA3 := Lib.hid (HA2.out.call (below_drewN (Below.refl _ _) d2))
                  obtain ⟨wf, hwf⟩ : ∃ wf, we.drewN d2 = wf := ⟨_, rfl⟩
                  rw [hwf] at HA3 ⊢
                  have o0 := (HA3.out.op _ _ rfl).1
                  have q1 : wf.cell? ⟨bo, 1, none⟩ = some (.int .i64 N) := o0.cell 1
                  have ql := o0.lt
                  clear o0 hwf HA2 HP2 HW2 HNL
                  dsimp only
                  go_upto_block 19 with (fail)
                  obtain ⟨Z, hZ⟩ : ∃ Z : Int, wrap64 (1048576 + (wrap64 (at_.tmod 300 + 300)).tmod 300) = Z := ⟨_, rfl⟩
                  have hZb : -9223372036854775808 ≤ Z ∧ Z ≤ 9223372036854775807 := by rw [← hZ]; exact wrap_bd _
                  rw [hZ]
                  clear hZ q1 ql
                  obtain ⟨wg, hwg⟩ : ∃ wg, wf.alloc (.cells #[.int .i64 addr, .int .i64 N, .int .i64 Z] 3) = wg := ⟨_, rfl⟩
                  obtain ⟨ab, hab⟩ : ∃ ab, wf.heap.size = ab := ⟨_, rfl⟩
                  have hlb : Blk wg ab #[.int .i64 addr, .int .i64 N, .int .i64 Z] 3 := by rw [← hwg, ← hab]; exact Blk.new wf _ _
                  have HA4 := Lib.hid (show AP w1 wg X gs ps ps ws ws S9 (some (bo, #[.int .i64 kind, .int .i64 N, .int .i64 V, .bool near])) from by rw [← hwg]; exact HA3.out.call (fresh_alloc (Below.refl _ _) _))
                  have HLB := Lib.hid hlb
                  have HZB := Lib.hid hZb
                  rw [hwg, hab]
                  clear hwg hab hlb HA3 hZb HAP
                  go_wp2_with fail
                  go_loopw [511] (fun iv wx => ∃ i : Nat, i ≤ 3 ∧ iv = .int .i64 (i : Int) ∧ AP w1 wx X gs ps ps ws ws S9 (some (bo, #[.int .i64 kind, .int .i64 N, .int .i64 V, .bool near])) ∧ Blk wx ab #[.int .i64 addr, .int .i64 N, .int .i64 Z] 3) (fun iv _ => 3 - (intOf iv).toNat)
                  case atStart => exact ⟨0, Nat.zero_le _, rfl, HA4.out, HLB.out⟩
                  case round =>
                    clear HA4 HLB
                    obtain ⟨i, hi3, rfl, hap, hlb⟩ := hrel
                    have HAP := Lib.hid hap
                    have HLB := Lib.hid hlb
                    clear hap hlb
                    obtain ⟨wh, rfl⟩ : ∃ wh : World, wh = wr := ⟨_, rfl⟩
                    by_cases hi : i < 3
                    · have hi2 : (i : Int) < 3 := by omega
                      have hi0 : (0 : Int) ≤ (i : Int) := by omega
                      obtain ⟨v, hv, hvb⟩ : ∃ v : Int, wh.cell? ⟨ab, i, none⟩ = some (.int .i64 v) ∧ (-9223372036854775808 ≤ v ∧ v ≤ 9223372036854775807) := by
                        have h3 : i = 0 ∨ i = 1 ∨ i = 2 := by omega
                        rcases h3 with rfl | rfl | rfl
                        · exact ⟨addr, HLB.out.cell 0, HAD.out⟩
                        · exact ⟨N, HLB.out.cell 1, HN.out⟩
                        · exact ⟨Z, HLB.out.cell 2, HZB.out⟩
                      have hlt := HLB.out.lt
                      have HVB := Lib.hid hvb
                      clear hvb
                      go_wp2_with fail
                      refine (slot_m_any X.bm X.bc X.bu X.bw gs ps ws v _ HAP.out.md HVB.out).mono ?_
                      rintro e wi ⟨rfl, hbi⟩
                      have H1i := Lib.hid (HAP.out.call hbi)
                      have HL1 := Lib.hid (HLB.out.call hbi)
                      clear hbi hv hlt HAP HLB
                      rcases hs : slot ps v with _ | ⟨k, p, s⟩
                      · as_aux_lemma =>
                          rw [ans_none hs]
                          have HFB := Lib.hid (show fbase ps v = 0 by unfold fbase; rw [hs])
                          have HFW := Lib.hid (show fword ps ws v = 0 by unfold fword; rw [hs])
                          have HFS := Lib.hid (show fsize ps v = 0 by unfold fsize; rw [hs])
                          have HIS := Lib.hid (show (slot ps v).isSome = false by rw [hs]; rfl)
                          clear hs
                          dsimp only
                          go_wp2_with fail
                          refine (Ar.find_any _ _ _ _ _ v _ H1i.out.aw.ar HVB.out.2).mono ?_
                          rw [HFB.out, HIS.out]
                          rintro e wj ⟨rfl, d, rfl⟩
                          have H2i := Lib.hid (H1i.out.call (below_drewN (Below.refl _ _) d))
                          have HL2 := Lib.hid (HL1.out.drewN d)
                          obtain ⟨wj, hwj⟩ : ∃ wj, wi.drewN d = wj := ⟨_, rfl⟩
                          rw [hwj] at H2i HL2 ⊢
                          clear hwj H1i HL1
                          dsimp only
                          go_wp2_with fail
                          refine (Ar.load_any _ _ _ _ _ v _ H2i.out.aw.ar HVB.out.2).mono ?_
                          rw [HFW.out, HIS.out]
                          rintro e wk ⟨rfl, d, rfl⟩
                          have H3i := Lib.hid (H2i.out.call (below_drewN (Below.refl _ _) d))
                          have HL3 := Lib.hid (HL2.out.drewN d)
                          obtain ⟨wk, hwk⟩ : ∃ wk, wj.drewN d = wk := ⟨_, rfl⟩
                          rw [hwk] at H3i HL3 ⊢
                          clear hwk H2i HL2
                          have HSZ := Lib.hid (show ∀ x : Ext wk, Calls Tryd.prog 21 #[.pointer (some ⟨X.b, 0, none⟩), .int .i64 v] x.w fun e w' => e = .returned (.int .i64 0) ∧ ∃ y : Ext wk, w' = y.w from fun x => by
                            have := Ar.size_any X.b X.gp X.gw ps ws v x.w (H3i.out.aw.ar.call x.below) HVB.out.2
                            rw [HFS.out] at this
                            exact x.call_same this)
                          dsimp only
                          go_upto_region 90 with (fail)
                          refine Ext.region wk (by kernel_rfl) (by kernel_rfl) (Below.refl _ _) ?_
                          repeat (go_big_quiet_step ((go_at_call 21; exact HSZ.out _)))
                          refine wpQuiet_nil ?_
                          rintro _ ⟨x, rfl⟩
                          have H4i := Lib.hid (H3i.out.call x.below)
                          have HL4 := Lib.hid (HL3.out.call x.below)
                          clear HSZ H3i HL3
                          go_wp2_with fail
                          go_roundw
                          case rel => exact ⟨i + 1, by omega, by go_num, H4i.out, HL4.out⟩
                          case measure => simp [intOf]; omega
                      · as_aux_lemma =>
                          rw [show ans ps v = .returned (.tuple #[.int .i64 k, .int .i64 s, .int .i64 (base ps k s), .bool true]) by unfold ans; rw [hs]]
                          obtain ⟨hk, hU, hsn, -⟩ := slot_some H1i.out.aw.ar hs
                          obtain ⟨iw, hiw, hiwl⟩ := slot_word H1i.out.aw.ar hs
                          obtain ⟨z, hc0, hcz, hz0, hz16, hn32, hn0, hnz⟩ := H1i.out.md.c0 hk
                          obtain ⟨Wd, hWd⟩ : ∃ Wd, ws[iw]? = some Wd := ⟨_, List.getElem?_eq_getElem hiwl⟩
                          obtain ⟨Bv, hBv⟩ : ∃ Bv, base ps k s = Bv := ⟨_, rfl⟩
                          have HFB := Lib.hid (show fbase ps v = Bv by unfold fbase; rw [hs]; exact hBv)
                          have HFW := Lib.hid (show fword ps ws v = Wd by unfold fword; rw [hs, show (v - 1048576).toNat = iw by omega]; simp [hWd])
                          have HFS := Lib.hid (show fsize ps v = (z : Int) by unfold fsize; rw [hs]; exact hcz)
                          have HIS := Lib.hid (show (slot ps v).isSome = true by rw [hs]; rfl)
                          have HCZ := Lib.hid hcz
                          have HK := Lib.hid hk
                          have HWD := Lib.hid hWd
                          have hwl : ws.length ≤ 2048 := by have := H1i.out.md.hn; have := H1i.out.md.hw; omega
                          have hkl : (k : Int) < (ps.length : Int) := by have := (List.getElem?_eq_some_iff.1 hk).1; omega
                          have hk0 : (0 : Int) ≤ (k : Int) := by omega
                          have hw0 : (0 : Int) ≤ (iw : Int) := by omega
                          have hw1 : (iw : Int) < (ws.length : Int) := by omega
                          rw [hBv]
                          clear hs hBv hWd hk hcz hU hnz
                          dsimp only
                          go_wp2_with fail
                          refine (Ar.find_any _ _ _ _ _ v _ H1i.out.aw.ar HVB.out.2).mono ?_
                          rw [HFB.out, HIS.out]
                          rintro e wj ⟨rfl, d, rfl⟩
                          have H2i := Lib.hid (H1i.out.call (below_drewN (Below.refl _ _) d))
                          have HL2 := Lib.hid (HL1.out.drewN d)
                          obtain ⟨wj, hwj⟩ : ∃ wj, wi.drewN d = wj := ⟨_, rfl⟩
                          rw [hwj] at H2i HL2 ⊢
                          clear hwj H1i HL1
                          dsimp only
                          go_wp2_with fail
                          refine (Ar.load_any _ _ _ _ _ v _ H2i.out.aw.ar HVB.out.2).mono ?_
                          rw [HFW.out, HIS.out]
                          rintro e wk ⟨rfl, d, rfl⟩
                          have H3i := Lib.hid (H2i.out.call (below_drewN (Below.refl _ _) d))
                          have HL3 := Lib.hid (HL2.out.drewN d)
                          obtain ⟨wk, hwk⟩ : ∃ wk, wj.drewN d = wk := ⟨_, rfl⟩
                          rw [hwk] at H3i HL3 ⊢
                          clear hwk H2i HL2
                          have HSZ := Lib.hid (show ∀ x : Ext wk, Calls Tryd.prog 21 #[.pointer (some ⟨X.b, 0, none⟩), .int .i64 v] x.w fun e w' => e = .returned (.int .i64 (z : Int)) ∧ ∃ y : Ext wk, w' = y.w from fun x => by
                            have := Ar.size_any X.b X.gp X.gw ps ws v x.w (H3i.out.aw.ar.call x.below) HVB.out.2
                            rw [HFS.out] at this
                            exact x.call_same this)
                          have HRS := Lib.hid (show ∀ x : Ext wk, Calls Tryd.prog 8 #[.int .i64 p.c] x.w fun e w' => e = .returned (.int .i64 (z : Int)) ∧ ∃ y : Ext wk, w' = y.w from fun x => by
                            have := Cls.rsize_any p.c x.w
                            rw [HCZ.out] at this
                            exact x.call this)
                          obtain ⟨c0, c1, c2, f0, f1, f2⟩ := H3i.out.md.blk.three
                          have ml := H3i.out.md.blk.lt
                          have hcc := (H3i.out.md.cls.cell k).trans (cls_get HK.out)
                          have hcl := H3i.out.md.cls.lt
                          have wc := (H3i.out.md.wrd.cell iw).trans (cells_get HWD.out)
                          have wl := H3i.out.md.wrd.lt
                          unfold cl at hcc
                          dsimp only at hcc
                          have hx : wrap64 (v - 1048576) = (iw : Int) := by rw [hiw]; exact wrap64_id (by omega)
                          have hn1 : (Bv != Bv) = false := by simp
                          have hn2 : (Wd != Wd) = false := by simp
                          have hn3 : ((z : Int) != (z : Int)) = false := by simp
                          dsimp only
                          go_upto_region 90 with (fail)
                          refine Ext.region wk (by kernel_rfl) (by kernel_rfl) (Below.refl _ _) ?_
                          repeat (go_big_quiet_step ((first | (go_at_call 21; exact HSZ.out _) | (go_at_call 8; exact HRS.out _))))
                          refine wpQuiet_nil ?_
                          rintro _ ⟨x, rfl⟩
                          have H4i := Lib.hid (H3i.out.call x.below)
                          have HL4 := Lib.hid (HL3.out.call x.below)
                          clear HSZ HRS H3i HL3 c0 c1 c2 f0 f1 f2 ml hcc hcl wc wl
                          go_wp2_with fail
                          go_roundw
                          case rel => exact ⟨i + 1, by omega, by go_num, H4i.out, HL4.out⟩
                          case measure => simp [intOf]; omega
                    · obtain rfl : i = 3 := by omega
                      have hi2 : ¬ ((3 : Nat) : Int) < 3 := by omega
                      clear HLB
                      obtain ⟨c0, c1, c2, f0, f1, f2⟩ := HAP.out.md.blk.three
                      have ml := HAP.out.md.blk.lt
                      have hcl := HAP.out.md.cls.lt
                      have ul := HAP.out.md.row.lt
                      by_cases hp0 : 0 ≤ page
                      rotate_left
                      · as_aux_lemma =>
                          have HG := Lib.hid (show get ps page = none from by
                            rcases h : get ps page with _ | p
                            · rfl
                            · have := get_lt h
                              omega)
                          have HBA := Lib.hid (show ∀ x : Ext wh, Calls Tryd.prog 24 #[.pointer (some ⟨X.b, 0, none⟩), .int .i64 page, .int .i64 at_] x.w fun e w' => e = .returned (.int .i64 0) ∧ ∃ y : Ext wh, w' = y.w from fun x => by
                            have := Ar.base_any X.b X.gp X.gw ps ws page at_ x.w (HAP.out.aw.ar.call x.below)
                            rw [base_none HG.out] at this
                            exact x.call_drew this)
                          have HCL := Lib.hid trivial
                          go_wp2_with fail
                          refine (page_any _ _ _ _ _ page _ HAP.out.aw.ar).mono ?_
                          rw [HG.out]
                          rintro e wi ⟨rfl, rfl⟩
                          dsimp only [ptr]

                          go_upto_region 98 with (fail)
                          refine Ext.region wh (by kernel_rfl) (by kernel_rfl) (Below.refl _ _) ?_
                          repeat (go_big_quiet_step ((first | (go_at_call 24; exact HBA.out _) | (go_at_call 23; exact HCL.out _))))
                          refine wpQuiet_nil ?_
                          rintro _ ⟨x, rfl⟩
                          have H5 := Lib.hid (HAP.out.call x.below)
                          clear HBA HCL HAP
                          go_wp2_with fail
                          refine Met.intro (hJ.out _ _ ⟨_, rfl, ?_, ?_, ⟨q + 1, gs, ps, ws, S9, by omega, ?_, hln, H5.out.opn⟩, ?_⟩)
                          · kernel_rfl
                          · kernel_rfl
                          · show Value.int .i64 ((q : Int) + 1) = .int .i64 ((q + 1 : Nat) : Int)
                            go_num
                          · show m - (intOf (Value.int .i64 ((q : Int) + 1))).toNat < m - (intOf (Value.int .i64 (q : Int))).toNat
                            simp [intOf]
                            omega
                      · obtain ⟨k, rfl⟩ : ∃ k : Nat, page = k := ⟨page.toNat, by omega⟩
                        by_cases hkn : k < n
                        rotate_left
                        · as_aux_lemma =>
                            have HG := Lib.hid (show get ps (k : Int) = none from by
                              rcases h : get ps (k : Int) with _ | p
                              · rfl
                              · have := get_lt h
                                omega)
                            have hkn2 : ¬ (k : Int) < (n : Int) := by omega
                            have HBA := Lib.hid (show ∀ x : Ext wh, Calls Tryd.prog 24 #[.pointer (some ⟨X.b, 0, none⟩), .int .i64 (k : Int), .int .i64 at_] x.w fun e w' => e = .returned (.int .i64 0) ∧ ∃ y : Ext wh, w' = y.w from fun x => by
                              have := Ar.base_any X.b X.gp X.gw ps ws (k : Int) at_ x.w (HAP.out.aw.ar.call x.below)
                              rw [base_none HG.out] at this
                              exact x.call_drew this)
                            have HCL := Lib.hid trivial
                            go_wp2_with fail
                            refine (page_any _ _ _ _ _ (k : Int) _ HAP.out.aw.ar).mono ?_
                            rw [HG.out]
                            rintro e wi ⟨rfl, rfl⟩
                            dsimp only [ptr]

                            go_upto_region 98 with (fail)
                            refine Ext.region wh (by kernel_rfl) (by kernel_rfl) (Below.refl _ _) ?_
                            repeat (go_big_quiet_step ((first | (go_at_call 24; exact HBA.out _) | (go_at_call 23; exact HCL.out _))))
                            refine wpQuiet_nil ?_
                            rintro _ ⟨x, rfl⟩
                            have H5 := Lib.hid (HAP.out.call x.below)
                            clear HBA HCL HAP
                            go_wp2_with fail
                            refine Met.intro (hJ.out _ _ ⟨_, rfl, ?_, ?_, ⟨q + 1, gs, ps, ws, S9, by omega, ?_, hln, H5.out.opn⟩, ?_⟩)
                            · kernel_rfl
                            · kernel_rfl
                            · show Value.int .i64 ((q : Int) + 1) = .int .i64 ((q + 1 : Nat) : Int)
                              go_num
                            · show m - (intOf (Value.int .i64 ((q : Int) + 1))).toNat < m - (intOf (Value.int .i64 (q : Int))).toNat
                              simp [intOf]
                              omega
                        · have hkn2 : (k : Int) < (n : Int) := by omega
                          have hkl : (k : Int) < (ps.length : Int) := by omega
                          have hk0 : (0 : Int) ≤ (k : Int) := by omega
                          obtain ⟨p, hp⟩ : ∃ p, ps[k]? = some p := ⟨_, List.getElem?_eq_getElem (by omega)⟩
                          have hcc := (HAP.out.md.cls.cell k).trans (cls_get hp)
                          have HP := Lib.hid hp
                          have HG := Lib.hid (show get ps (k : Int) = p by rw [get_nat, hp]; rfl)
                          clear hp
                          rcases p with _ | p
                          · as_aux_lemma =>
                              unfold cl at hcc
                              dsimp only at hcc
                              have HBA := Lib.hid (show ∀ x : Ext wh, Calls Tryd.prog 24 #[.pointer (some ⟨X.b, 0, none⟩), .int .i64 (k : Int), .int .i64 at_] x.w fun e w' => e = .returned (.int .i64 0) ∧ ∃ y : Ext wh, w' = y.w from fun x => by
                                have := Ar.base_any X.b X.gp X.gw ps ws (k : Int) at_ x.w (HAP.out.aw.ar.call x.below)
                                rw [base_none HG.out] at this
                                exact x.call_drew this)
                              have HCL := Lib.hid trivial
                              go_wp2_with fail
                              refine (page_any _ _ _ _ _ (k : Int) _ HAP.out.aw.ar).mono ?_
                              rw [HG.out]
                              rintro e wi ⟨rfl, rfl⟩
                              dsimp only [ptr]

                              go_upto_region 98 with (fail)
                              refine Ext.region wh (by kernel_rfl) (by kernel_rfl) (Below.refl _ _) ?_
                              repeat (go_big_quiet_step ((first | (go_at_call 24; exact HBA.out _) | (go_at_call 23; exact HCL.out _))))
                              refine wpQuiet_nil ?_
                              rintro _ ⟨x, rfl⟩
                              have H5 := Lib.hid (HAP.out.call x.below)
                              clear HBA HCL HAP
                              go_wp2_with fail
                              refine Met.intro (hJ.out _ _ ⟨_, rfl, ?_, ?_, ⟨q + 1, gs, ps, ws, S9, by omega, ?_, hln, H5.out.opn⟩, ?_⟩)
                              · kernel_rfl
                              · kernel_rfl
                              · show Value.int .i64 ((q : Int) + 1) = .int .i64 ((q + 1 : Nat) : Int)
                                go_num
                              · show m - (intOf (Value.int .i64 ((q : Int) + 1))).toNat < m - (intOf (Value.int .i64 (q : Int))).toNat
                                simp [intOf]
                                omega
                          · unfold cl at hcc
                            dsimp only at hcc
                            have uc := (HAP.out.md.row.cell k).trans (urow_get HP.out)
                            unfold uv at uc
                            dsimp only at uc
                            obtain ⟨z, hc0, hcz, hz0, hz16, hn32, hn0, hnz⟩ := HAP.out.md.c0 HP.out
                            have hnc : (p.c != p.c) = false := by simp
                            by_cases hin : 0 ≤ at_ ∧ at_ < (p.n : Int)
                            · as_aux_lemma =>
                                obtain ⟨s, rfl⟩ : ∃ s : Nat, at_ = s := ⟨at_.toNat, by omega⟩
                                have hs0 : (0 : Int) ≤ (s : Int) := by omega
                                have hsn : (s : Int) < (p.n : Int) := hin.2
                                have hbs := base_some (ps := ps) (k := (k : Int)) (s := (s : Int)) (p := p) HG.out
                                rw [if_pos hin, hcz] at hbs
                                have hzz := slot_bd (s := (s : Int)) (z := (z : Int)) (by omega) (by omega) (by omega) (by omega)
                                have HW1 := Lib.hid (show wrap64 ((s : Int) * (z : Int)) = (s : Int) * (z : Int) from wrap64_id (by omega))
                                obtain ⟨Q, hQ⟩ : ∃ Q : Int, 1048576 + (k : Int) * 32 + (s : Int) * (z : Int) = Q := ⟨_, rfl⟩
                                have HW2 := Lib.hid (show wrap64 (1048576 + (k : Int) * 32 + (s : Int) * (z : Int)) = Q from by rw [wrap64_id (by omega)]; exact hQ)
                                have HBV := Lib.hid (show base ps (k : Int) (s : Int) = Q from by rw [hbs, hQ])
                                have HCZ := Lib.hid hcz
                                have hqq : (Q != Q) = false := by simp
                                clear hbs hzz hQ hcz hin hnz
                                go_wp2_with fail
                                refine (Cls.rsize_any p.c _).mono ?_
                                rw [HCZ.out]
                                rintro e wi ⟨rfl, hbi⟩
                                have HAP2 := Lib.hid (HAP.out.call hbi)
                                clear hbi HAP c0 c1 c2 f0 f1 f2 ml hcl ul hcc uc
                                have HAP := HAP2
                                clear HAP2
                                obtain ⟨c0, c1, c2, f0, f1, f2⟩ := HAP.out.md.blk.three
                                have ml := HAP.out.md.blk.lt
                                have hcl := HAP.out.md.cls.lt
                                have hcc := (HAP.out.md.cls.cell k).trans (cls_get HP.out)
                                unfold cl at hcc
                                dsimp only at hcc
                                have HBA := Lib.hid (show ∀ x : Ext wi, Calls Tryd.prog 24 #[.pointer (some ⟨X.b, 0, none⟩), .int .i64 (k : Int), .int .i64 (s : Int)] x.w fun e w' => e = .returned (.int .i64 Q) ∧ ∃ y : Ext wi, w' = y.w from fun x => by
                                  have := Ar.base_any X.b X.gp X.gw ps ws (k : Int) (s : Int) x.w (HAP.out.aw.ar.call x.below)
                                  rw [HBV.out] at this
                                  exact x.call_drew this)
                                have HCL := Lib.hid (show ∀ x : Ext wi, Calls Tryd.prog 23 #[.pointer (some ⟨p.b, 0, none⟩)] x.w fun e w' => e = .returned (.int .i64 p.c) ∧ ∃ y : Ext wi, w' = y.w from fun x => x.call_same (Pg.class_any p.b p.c p.n p.U p.M x.w ((HAP.out.aw.ar.call x.below).page k p HP.out).1))
                                dsimp only
                                go_wp2_with (first | simp only [HW1.out] | simp only [HW2.out])
                                refine (page_any _ _ _ _ _ (k : Int) _ HAP.out.aw.ar).mono ?_
                                rw [HG.out]
                                rintro e wj ⟨rfl, rfl⟩
                                dsimp only [ptr]
                                go_upto_region 98 with (fail)
                                refine Ext.region wi (by kernel_rfl) (by kernel_rfl) (Below.refl _ _) ?_
                                repeat (go_big_quiet_step ((first | (go_at_call 24; exact HBA.out _) | (go_at_call 23; exact HCL.out _))))
                                refine wpQuiet_nil ?_
                                rintro _ ⟨x, rfl⟩
                                have H5 := Lib.hid (HAP.out.call x.below)
                                clear HBA HCL HAP
                                go_wp2_with fail
                                refine Met.intro (hJ.out _ _ ⟨_, rfl, ?_, ?_, ⟨q + 1, gs, ps, ws, S9, by omega, ?_, hln, H5.out.opn⟩, ?_⟩)
                                · kernel_rfl
                                · kernel_rfl
                                · show Value.int .i64 ((q : Int) + 1) = .int .i64 ((q + 1 : Nat) : Int)
                                  go_num
                                · show m - (intOf (Value.int .i64 ((q : Int) + 1))).toNat < m - (intOf (Value.int .i64 (q : Int))).toNat
                                  simp [intOf]
                                  omega
                            · have HBV := Lib.hid (show base ps (k : Int) at_ = 0 from by rw [base_some HG.out, if_neg hin])
                              have hor : at_ < 0 ∨ (p.n : Int) ≤ at_ := by omega
                              clear hin hcz hnz
                              by_cases ha0 : at_ < 0
                              · as_aux_lemma =>
                                  clear hor
                                  have HBA := Lib.hid (show ∀ x : Ext wh, Calls Tryd.prog 24 #[.pointer (some ⟨X.b, 0, none⟩), .int .i64 (k : Int), .int .i64 at_] x.w fun e w' => e = .returned (.int .i64 0) ∧ ∃ y : Ext wh, w' = y.w from fun x => by
                                    have := Ar.base_any X.b X.gp X.gw ps ws (k : Int) at_ x.w (HAP.out.aw.ar.call x.below)
                                    rw [HBV.out] at this
                                    exact x.call_drew this)
                                  have HCL := Lib.hid (show ∀ x : Ext wh, Calls Tryd.prog 23 #[.pointer (some ⟨p.b, 0, none⟩)] x.w fun e w' => e = .returned (.int .i64 p.c) ∧ ∃ y : Ext wh, w' = y.w from fun x => x.call_same (Pg.class_any p.b p.c p.n p.U p.M x.w ((HAP.out.aw.ar.call x.below).page k p HP.out).1))
                                  go_wp2_with fail
                                  refine (page_any _ _ _ _ _ (k : Int) _ HAP.out.aw.ar).mono ?_
                                  rw [HG.out]
                                  rintro e wi ⟨rfl, rfl⟩
                                  dsimp only [ptr]
                                  go_upto_region 98 with (fail)
                                  refine Ext.region wh (by kernel_rfl) (by kernel_rfl) (Below.refl _ _) ?_
                                  repeat (go_big_quiet_step ((first | (go_at_call 24; exact HBA.out _) | (go_at_call 23; exact HCL.out _))))
                                  refine wpQuiet_nil ?_
                                  rintro _ ⟨x, rfl⟩
                                  have H5 := Lib.hid (HAP.out.call x.below)
                                  clear HBA HCL HAP
                                  go_wp2_with fail
                                  refine Met.intro (hJ.out _ _ ⟨_, rfl, ?_, ?_, ⟨q + 1, gs, ps, ws, S9, by omega, ?_, hln, H5.out.opn⟩, ?_⟩)
                                  · kernel_rfl
                                  · kernel_rfl
                                  · show Value.int .i64 ((q : Int) + 1) = .int .i64 ((q + 1 : Nat) : Int)
                                    go_num
                                  · show m - (intOf (Value.int .i64 ((q : Int) + 1))).toNat < m - (intOf (Value.int .i64 (q : Int))).toNat
                                    simp [intOf]
                                    omega
                              · as_aux_lemma =>
                                  have ha1 : (p.n : Int) ≤ at_ := by omega
                                  clear hor
                                  have HBA := Lib.hid (show ∀ x : Ext wh, Calls Tryd.prog 24 #[.pointer (some ⟨X.b, 0, none⟩), .int .i64 (k : Int), .int .i64 at_] x.w fun e w' => e = .returned (.int .i64 0) ∧ ∃ y : Ext wh, w' = y.w from fun x => by
                                    have := Ar.base_any X.b X.gp X.gw ps ws (k : Int) at_ x.w (HAP.out.aw.ar.call x.below)
                                    rw [HBV.out] at this
                                    exact x.call_drew this)
                                  have HCL := Lib.hid (show ∀ x : Ext wh, Calls Tryd.prog 23 #[.pointer (some ⟨p.b, 0, none⟩)] x.w fun e w' => e = .returned (.int .i64 p.c) ∧ ∃ y : Ext wh, w' = y.w from fun x => x.call_same (Pg.class_any p.b p.c p.n p.U p.M x.w ((HAP.out.aw.ar.call x.below).page k p HP.out).1))
                                  go_wp2_with fail
                                  refine (page_any _ _ _ _ _ (k : Int) _ HAP.out.aw.ar).mono ?_
                                  rw [HG.out]
                                  rintro e wi ⟨rfl, rfl⟩
                                  dsimp only [ptr]
                                  go_upto_region 98 with (fail)
                                  refine Ext.region wh (by kernel_rfl) (by kernel_rfl) (Below.refl _ _) ?_
                                  repeat (go_big_quiet_step ((first | (go_at_call 24; exact HBA.out _) | (go_at_call 23; exact HCL.out _))))
                                  refine wpQuiet_nil ?_
                                  rintro _ ⟨x, rfl⟩
                                  have H5 := Lib.hid (HAP.out.call x.below)
                                  clear HBA HCL HAP
                                  go_wp2_with fail
                                  refine Met.intro (hJ.out _ _ ⟨_, rfl, ?_, ?_, ⟨q + 1, gs, ps, ws, S9, by omega, ?_, hln, H5.out.opn⟩, ?_⟩)
                                  · kernel_rfl
                                  · kernel_rfl
                                  · show Value.int .i64 ((q : Int) + 1) = .int .i64 ((q + 1 : Nat) : Int)
                                    go_num
                                  · show m - (intOf (Value.int .i64 ((q : Int) + 1))).toNat < m - (intOf (Value.int .i64 (q : Int))).toNat
                                    simp [intOf]
                                    omega
        · as_aux_lemma =>
            obtain rfl : m = q := by omega
            have hqm2 : ¬ (m : Int) < (m : Int) := by omega
            clear hJ
            go_wp2_with fail
            refine (taken_nil 0 _).mono ?_
            rintro e wa ⟨rfl, rfl⟩
            dsimp only
            go_wp2_with fail
            refine (find_nil 1048576 _ (by decide)).mono ?_
            rintro e wa ⟨rfl, rfl⟩
            dsimp only
            go_wp2_with fail
            refine (load_nil 1048576 _ (by decide)).mono ?_
            rintro e wa ⟨rfl, rfl⟩
            dsimp only
            go_wp2_with fail
            refine (room_nil _).mono ?_
            rintro e wa ⟨rfl, rfl⟩
            dsimp only
            go_wp2_with fail
            refine (grow_nil 0 _).mono ?_
            rintro e wb ⟨rfl, hb⟩
            have HAP2 := Lib.hid (HAP.out.call hb)
            clear hb HAP
            dsimp only
            go_wp2_with fail
            refine (free_nil 1048576 _ (by decide)).mono ?_
            rintro e wa ⟨rfl, rfl⟩
            dsimp only
            go_wp2_with fail
            refine (store_nil 1048576 1 _ (by decide)).mono ?_
            rintro e wa ⟨rfl, rfl⟩
            dsimp only
            go_wp2_with fail
            refine (drop_nil 0 _).mono ?_
            rintro e wa ⟨rfl, rfl⟩
            dsimp only
            go_wp2_with fail
            refine (page_nil 0 _).mono ?_
            rintro e wa ⟨rfl, rfl⟩
            dsimp only
            go_wp2_with fail
            refine (size_nil 1048576 _ (by decide)).mono ?_
            rintro e wa ⟨rfl, rfl⟩
            dsimp only
            go_wp2_with fail
            refine (base_nil 0 0 _).mono ?_
            rintro e wa ⟨rfl, rfl⟩
            dsimp only
            go_wp2_with fail
            refine (Ar.all_nil _).mono ?_
            rintro e wa ⟨rfl, rfl⟩
            dsimp only
            go_wp2_with fail
            refine (HAP2.out.bo.apart (by have := HAP2.out.bo.1 _ HAP2.out.bo.in_.1; omega)).mono ?_
            rintro e wz ⟨rfl, hk⟩
            have HE := Lib.hid (show Below w.heap.size w wz from (fresh_call HB1.out HAP2.out.aw.bel).trans (hk.below (fresh_call HB1.out HAP2.out.aw.bel).size fun i hi e => by
              have h1 := HB1.out.size
              have h2 := HAP2.out.aw.bel.size
              have h3 := HAP2.out.bn
              rcases e with e | e
              · have := HAP2.out.bs i e
                omega
              · omega))
            clear hk HAP2
            dsimp only
            go_wp2_with fail
            go_ret
            exact ⟨rfl, HE.out⟩

theorem walk (P : Int) (A : Option Addr) (m c : Nat) (pl : List (Int × Int × Int × Bool)) (addr page at_ : Int) (w : World) (hT : Tab w) (_w0 : (Lit.int .i64 P).wf = true) (hl : pl.length = m) (wl : ∀ q ∈ pl, (Lit.int .i64 q.1).wf = true ∧ (Lit.int .i64 q.2.1).wf = true ∧ (Lit.int .i64 q.2.2.1).wf = true) (hR : Reads w w.heap.size 4 A m c (quadCells pl))
    (h1 : (Lit.int .i64 addr).wf = true) (h2 : (Lit.int .i64 page).wf = true) (h3 : (Lit.int .i64 at_).wf = true) :
    Calls Tryd.prog 3 #[.int .i64 P, .slice A m c, .int .i64 addr, .int .i64 page, .int .i64 at_] w fun e w' => e = .returned (.bool true) ∧ Below w.heap.size w w' := by
  have hmm : m ≤ 9223372036854775807 := by have := hR.1; have := hR.2.1; unfold maxLen at this; omega
  by_cases h : 80 < m ∨ 8 < P
  · exact early P A m c addr page at_ w hT hmm h
  · exact core P _ A m c pl addr page at_ w hT (by omega) rfl hl wl hR (by omega) h1 h2 h3
end Go.Proofs.YtfgpadkoonogpaaDoor.ArenaPlays
