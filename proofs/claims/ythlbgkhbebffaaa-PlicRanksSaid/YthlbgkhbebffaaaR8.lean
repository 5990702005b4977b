/- The law in steps. -/
import Derived.Test.YthlbgkhbebffaaaR6
import Derived.Test.YthlbgkhbebffaaaR7
import Derived.Test.YthlbgkhbebffaaaR0
import Derived.Test.YthlbgkhbebffaaaR4
namespace Go.Proofs.Ythlbgkhbebffaaa
open Go Go.Sx
set_option maxRecDepth 100000
set_option maxHeartbeats 4000000
noncomputable def joinC (b : Bool) (y z : List DV) : List DV := [.i (bif b then (dget y 2).toI else (dget z 2).toI), .b (bif b then (dget y 3).toB else (dget z 3).toB), .b (bif b then (dget y 4).toB else (dget z 4).toB), .b (bif b then (dget y 5).toB else (dget z 5).toB), .b (bif b then (dget y 6).toB else (dget z 6).toB), .b (bif b then (dget y 7).toB else (dget z 7).toB), .i (bif b then (dget y 8).toI else (dget z 8).toI), .b (bif b then (dget y 9).toB else (dget z 9).toB), .b (bif b then (dget y 10).toB else (dget z 10).toB), .b (bif b then (dget y 11).toB else (dget z 11).toB), .b (bif b then (dget y 12).toB else (dget z 12).toB), .b (bif b then (dget y 13).toB else (dget z 13).toB), .i (bif b then (dget y 14).toI else (dget z 14).toI), .b (bif b then (dget y 15).toB else (dget z 15).toB), .b (bif b then (dget y 16).toB else (dget z 16).toB), .b (bif b then (dget y 17).toB else (dget z 17).toB), .b (bif b then (dget y 18).toB else (dget z 18).toB), .b (bif b then (dget y 19).toB else (dget z 19).toB), .i (bif b then (dget y 20).toI else (dget z 20).toI), .b (bif b then (dget y 21).toB else (dget z 21).toB), .b (bif b then (dget y 22).toB else (dget z 22).toB), .b (bif b then (dget y 23).toB else (dget z 23).toB), .b (bif b then (dget y 24).toB else (dget z 24).toB), .b (bif b then (dget y 25).toB else (dget z 25).toB), .i (bif b then (dget y 26).toI else (dget z 26).toI), .b (bif b then (dget y 27).toB else (dget z 27).toB), .b (bif b then (dget y 28).toB else (dget z 28).toB), .b (bif b then (dget y 29).toB else (dget z 29).toB), .b (bif b then (dget y 30).toB else (dget z 30).toB), .b (bif b then (dget y 31).toB else (dget z 31).toB), .i (bif b then (dget y 32).toI else (dget z 32).toI), .b (bif b then (dget y 33).toB else (dget z 33).toB), .b (bif b then (dget y 34).toB else (dget z 34).toB), .b (bif b then (dget y 35).toB else (dget z 35).toB), .b (bif b then (dget y 36).toB else (dget z 36).toB), .b (bif b then (dget y 37).toB else (dget z 37).toB), .i (bif b then (dget y 38).toI else (dget z 38).toI), .b (bif b then (dget y 39).toB else (dget z 39).toB), .b (bif b then (dget y 40).toB else (dget z 40).toB), .b (bif b then (dget y 41).toB else (dget z 41).toB), .b (bif b then (dget y 42).toB else (dget z 42).toB), .b (bif b then (dget y 43).toB else (dget z 43).toB), .i (bif b then (dget y 44).toI else (dget z 44).toI), .b (bif b then (dget y 45).toB else (dget z 45).toB), .b (bif b then (dget y 46).toB else (dget z 46).toB), .b (bif b then (dget y 47).toB else (dget z 47).toB), .b (bif b then (dget y 48).toB else (dget z 48).toB), .b (bif b then (dget y 49).toB else (dget z 49).toB), .i (bif b then (dget y 50).toI else (dget z 50).toI), .b (bif b then (dget y 51).toB else (dget z 51).toB), .b (bif b then (dget y 52).toB else (dget z 52).toB), .b (bif b then (dget y 53).toB else (dget z 53).toB), .b (bif b then (dget y 54).toB else (dget z 54).toB), .b (bif b then (dget y 55).toB else (dget z 55).toB), .i (bif b then (dget y 56).toI else (dget z 56).toI), .i (bif b then (dget y 57).toI else (dget z 57).toI)]
noncomputable def wrS (k k3 ranks : Int) (cells : List DV) : List DV := g7 (cells ++ [.i k, .i 4, .i (iland .u64 (ishr .u64 ranks k3) 7)])
noncomputable def lnS (k : Int) (y : List DV) : List DV := g10 (segD y 2 56 ++ [.i k, .b true])
noncomputable def srcS (k k4 k3 ranks lines : Int) (cells : List DV) : List DV := joinC (iland .u64 (ishr .u64 lines k) 1 == 1) (lnS k (wrS k4 k3 ranks cells)) (wrS k4 k3 ranks cells)
noncomputable def lftS (k k3 ranks lines on left : Int) : Int := bif iland .u64 (ishr .u64 lines k) 1 == 1 then (bif (iland .u64 (ishr .u64 on k) 1 == 1) && decide (iland .u64 (ishr .u64 ranks k3) 7 > 0) then IntKind.wrap .i64 (left + 1) else left) else left
noncomputable def srcs (ranks lines : Int) (cells : List DV) : List DV := (srcS 8 32 24 ranks lines (srcS 7 28 21 ranks lines (srcS 6 24 18 ranks lines (srcS 5 20 15 ranks lines (srcS 4 16 12 ranks lines (srcS 3 12 9 ranks lines (srcS 2 8 6 ranks lines (srcS 1 4 3 ranks lines cells))))))))
noncomputable def lfts (ranks lines on : Int) : Int := (lftS 8 24 ranks lines on (lftS 7 21 ranks lines on (lftS 6 18 ranks lines on (lftS 5 15 ranks lines on (lftS 4 12 ranks lines on (lftS 3 9 ranks lines on (lftS 2 6 ranks lines on (lftS 1 3 ranks lines on 0))))))))
noncomputable def penR (y : List DV) : Int := r9_0 ((dget y 3).toI) ((dget y 9).toI) ((dget y 11).toB) ((dget y 13).toB) ((dget y 14).toB) ((dget y 15).toI) ((dget y 17).toB) ((dget y 19).toB) ((dget y 20).toB) ((dget y 21).toI) ((dget y 23).toB) ((dget y 25).toB) ((dget y 26).toB) ((dget y 27).toI) ((dget y 29).toB) ((dget y 31).toB) ((dget y 32).toB) ((dget y 33).toI) ((dget y 35).toB) ((dget y 37).toB) ((dget y 38).toB) ((dget y 39).toI) ((dget y 41).toB) ((dget y 43).toB) ((dget y 44).toB) ((dget y 45).toI) ((dget y 47).toB) ((dget y 49).toB) ((dget y 50).toB) ((dget y 51).toI) ((dget y 53).toB) ((dget y 55).toB) ((dget y 56).toB) ((dget y 57).toI) ((dget y 58).toI)
noncomputable def penP (y : List DV) : Bool := p9 ((dget y 3).toI) ((dget y 9).toI) ((dget y 11).toB) ((dget y 13).toB) ((dget y 14).toB) ((dget y 15).toI) ((dget y 17).toB) ((dget y 19).toB) ((dget y 20).toB) ((dget y 21).toI) ((dget y 23).toB) ((dget y 25).toB) ((dget y 26).toB) ((dget y 27).toI) ((dget y 29).toB) ((dget y 31).toB) ((dget y 32).toB) ((dget y 33).toI) ((dget y 35).toB) ((dget y 37).toB) ((dget y 38).toB) ((dget y 39).toI) ((dget y 41).toB) ((dget y 43).toB) ((dget y 44).toB) ((dget y 45).toI) ((dget y 47).toB) ((dget y 49).toB) ((dget y 50).toB) ((dget y 51).toI) ((dget y 53).toB) ((dget y 55).toB) ((dget y 56).toB)
noncomputable def cl4 (c : Int) (l : List DV) : List DV := g8 (segD l 6 56 ++ [.i (IntKind.wrap .u64 (2097156 + IntKind.wrap .u64 (4096 * c))), .i 4])
noncomputable def lp4 (ranks lines on bar c left : Int) (cells : List DV) : List DV := g100402 ([.i lines, .i on, .i ranks, .i bar, .i c, .b false, .i left, .i 8, .i 0] ++ cells)
noncomputable def fin4 (c : Int) (l : List DV) : Bool := bif !((dget l 1).toI == 0) then ((dget (cl4 c l) 1).toI == 0) && (penR (cl4 c l) == 0) else (dget l 2).toB
noncomputable def pre4 (on bar c : Int) : List DV := segD (g7 (segD (g7 (segD (g6 []) 0 56 ++ [.i (IntKind.wrap .u64 (8192 + IntKind.wrap .u64 (128 * c))), .i 4, .i on])) 2 56 ++ [.i (IntKind.wrap .u64 (2097152 + IntKind.wrap .u64 (4096 * c))), .i 4, .i (iland .u64 bar 7)])) 2 56
theorem r4_eq (ranks lines on bar c : Int) : r4_0 ranks lines on bar c = (!(!r5_0) && fin4 (Int.tmod c 2) (lp4 ranks lines on (iland .u64 bar 7) (Int.tmod c 2) (lfts ranks lines on) (srcs ranks lines (pre4 on bar (Int.tmod c 2))))) := by kernel_rfl
end Go.Proofs.Ythlbgkhbebffaaa

namespace Go.Proofs.Ythlbgkhbebffaaa
open Go Go.Sx
set_option maxRecDepth 100000
set_option maxHeartbeats 4000000
noncomputable def stf (P : Nat → Int) (U W V A B : Nat → Bool) (t0 t1 : Int) : List DV := st (P 0) (U 0) (W 0) (V 0) (A 0) (B 0) (P 1) (U 1) (W 1) (V 1) (A 1) (B 1) (P 2) (U 2) (W 2) (V 2) (A 2) (B 2) (P 3) (U 3) (W 3) (V 3) (A 3) (B 3) (P 4) (U 4) (W 4) (V 4) (A 4) (B 4) (P 5) (U 5) (W 5) (V 5) (A 5) (B 5) (P 6) (U 6) (W 6) (V 6) (A 6) (B 6) (P 7) (U 7) (W 7) (V 7) (A 7) (B 7) (P 8) (U 8) (W 8) (V 8) (A 8) (B 8) (t0) (t1)
noncomputable def contC (x0 x1 x2 x66 x65 x1683 x1684 x1685 x1744 x1748 : Int) : Bool :=
  let x1742 := igt x1683 0
  let x1806 := ilt x1748 1
  let x1807 := igt x1748 8
  let x1808 := x1806 || x1807
  let x1810 := ishr .u64 x1 x1748
  let x1811 := iland .u64 x1810 1
  let x1812 := x1811 == 0
  let x1813 := x1808 || x1812
  let x1815 := ishr .u64 x2 x1748
  let x1816 := iland .u64 x1815 1
  let x1817 := x1816 == 0
  let x1818 := x1813 || x1817
  let x1819 := !x1818
  let x1820 := IntKind.wrap .u64 (3 * x1748)
  let x1822 := ishr .u64 x0 x1820
  let x1823 := iland .u64 x1822 7
  let x1824 := x1823 == 0
  let x1825 := igt x1823 x1684
  let x1826 := x1824 || x1825
  let x1827 := x1823 == x1684
  let x1828 := ile x1748 x1685
  let x1829 := x1827 && x1828
  let x1830 := x1826 || x1829
  let x1831 := !x1830
  let x1832 := x1744 != 0
  let x1833 := igt x1823 x66
  let x1834 := x1832 != x1833
  let x1835 := x1744 != 0
  let x1836 := x1744 != 2048
  let x1837 := x1835 && x1836
  let x1838 := x1744 != 512
  let x1839 := x1837 && x1838
  let x1840 := x1834 || x1839
  let x1841 := x1744 == 2048
  let x1842 := x65 == 1
  let x1843 := x1841 && x1842
  let x1844 := x1840 || x1843
  let x1845 := x1744 == 512
  let x1846 := x65 == 0
  let x1847 := x1845 && x1846
  let x1848 := x1844 || x1847
  let x1849 := !x1848
  let x1850 := x1831 && x1849
  let x1851 := x1819 && x1850
  let x1853 := x1742 && x1851
  x1853
noncomputable def contW (x1 x2 x1683 : Int) (x1743 x1747 : Bool) (x1748 : Int) : Bool :=
  let x1742 := igt x1683 0
  let x1806 := ilt x1748 1
  let x1807 := igt x1748 8
  let x1808 := x1806 || x1807
  let x1809 := ige x1748 0
  let x1810 := ishr .u64 x1 x1748
  let x1811 := iland .u64 x1810 1
  let x1812 := x1811 == 0
  let x1813 := x1808 || x1812
  let x1814 := ige x1748 0
  let x1815 := ishr .u64 x2 x1748
  let x1816 := iland .u64 x1815 1
  let x1817 := x1816 == 0
  let x1818 := x1813 || x1817
  let x1819 := !x1818
  let x1820 := IntKind.wrap .u64 (3 * x1748)
  let x1821 := decide (x1820 ≥ 0)
  [ow [(x1742, true)] x1743, ow [(x1742, true)] x1747, ow [(x1742, true), (x1808, false)] x1809, ow [(x1742, true), (x1813, false)] x1814, ow [(x1742, true), (x1819, true)] x1821].all id
noncomputable def ds (ranks lines on bar c : Int) (z : Bool) (left last before : Int) (l : List DV) : List DV := [.i lines, .i on, .i ranks, .i bar, .i c, .b z, .i left, .i last, .i before] ++ l
theorem cont_0 (ranks lines on bar : Int) (z : Bool) (left last before : Int) (P : Nat → Int) (U W V A B : Nat → Bool) (t0 t1 : Int) : C100402 (ds ranks lines on bar 0 z left last before (stf P U W V A B t0 t1)) = contC ranks lines on bar 0 left last before (r9_0 (P 0) (P 1) (W 1) (A 1) (B 1) (P 2) (W 2) (A 2) (B 2) (P 3) (W 3) (A 3) (B 3) (P 4) (W 4) (A 4) (B 4) (P 5) (W 5) (A 5) (B 5) (P 6) (W 6) (A 6) (B 6) (P 7) (W 7) (A 7) (B 7) (P 8) (W 8) (A 8) (B 8) t0 t1) (dget (g8 (stf P U W V A B t0 t1 ++ [.i 2097156, .i 4])) 1).toI := by kernel_rfl
theorem owes_0 (ranks lines on bar : Int) (z : Bool) (left last before : Int) (P : Nat → Int) (U W V A B : Nat → Bool) (t0 t1 : Int) : W100402 (ds ranks lines on bar 0 z left last before (stf P U W V A B t0 t1)) = contW lines on left (p9 (P 0) (P 1) (W 1) (A 1) (B 1) (P 2) (W 2) (A 2) (B 2) (P 3) (W 3) (A 3) (B 3) (P 4) (W 4) (A 4) (B 4) (P 5) (W 5) (A 5) (B 5) (P 6) (W 6) (A 6) (B 6) (P 7) (W 7) (A 7) (B 7) (P 8) (W 8) (A 8) (B 8)) (dget (g8 (stf P U W V A B t0 t1 ++ [.i 2097156, .i 4])) 0).toB (dget (g8 (stf P U W V A B t0 t1 ++ [.i 2097156, .i 4])) 1).toI := by kernel_rfl
theorem next_0 (ranks lines on bar : Int) (z : Bool) (left last before : Int) (P : Nat → Int) (U W V A B : Nat → Bool) (t0 t1 : Int) : N100402 (ds ranks lines on bar 0 z left last before (stf P U W V A B t0 t1)) = (fun m : Int => ds ranks lines on bar 0 z (IntKind.wrap .i64 (left - 1)) (iland .u64 (ishr .u64 ranks (IntKind.wrap .u64 (3 * IntKind.wrap .u64 m))) 7) (IntKind.wrap .u64 m) (stf P U (fun k => bif decide (m > 0) then (bif m == (k : Int) then false else W k) else W k) (fun k => bif decide (m > 0) then (m == (k : Int) || V k) else V k) A B t0 t1)) (r14_0 (P 0) (P 1) (W 1) (A 1) (B 1) (P 2) (W 2) (A 2) (B 2) (P 3) (W 3) (A 3) (B 3) (P 4) (W 4) (A 4) (B 4) (P 5) (W 5) (A 5) (B 5) (P 6) (W 6) (A 6) (B 6) (P 7) (W 7) (A 7) (B 7) (P 8) (W 8) (A 8) (B 8) 0) := by kernel_rfl
theorem out_0 (ranks lines on bar : Int) (z : Bool) (last before : Int) (P : Nat → Int) (U W V A B : Nat → Bool) (t0 t1 : Int) : T100402 (ds ranks lines on bar 0 z 0 last before (stf P U W V A B t0 t1)) = [.i 1, .b z, .i 0, .i last, .i before] ++ stf P U W V A B t0 t1 := by kernel_rfl
theorem clm_0 (P : Nat → Int) (U W V A B : Nat → Bool) (t0 t1 : Int) : (dget (g8 (stf P U W V A B t0 t1 ++ [.i 2097156, .i 4])) 1).toI = IntKind.wrap .u64 (r14_0 (P 0) (P 1) (W 1) (A 1) (B 1) (P 2) (W 2) (A 2) (B 2) (P 3) (W 3) (A 3) (B 3) (P 4) (W 4) (A 4) (B 4) (P 5) (W 5) (A 5) (B 5) (P 6) (W 6) (A 6) (B 6) (P 7) (W 7) (A 7) (B 7) (P 8) (W 8) (A 8) (B 8) 0) := by kernel_rfl
theorem cont_1 (ranks lines on bar : Int) (z : Bool) (left last before : Int) (P : Nat → Int) (U W V A B : Nat → Bool) (t0 t1 : Int) : C100402 (ds ranks lines on bar 1 z left last before (stf P U W V A B t0 t1)) = contC ranks lines on bar 1 left last before (r9_0 (P 0) (P 1) (W 1) (A 1) (B 1) (P 2) (W 2) (A 2) (B 2) (P 3) (W 3) (A 3) (B 3) (P 4) (W 4) (A 4) (B 4) (P 5) (W 5) (A 5) (B 5) (P 6) (W 6) (A 6) (B 6) (P 7) (W 7) (A 7) (B 7) (P 8) (W 8) (A 8) (B 8) t0 t1) (dget (g8 (stf P U W V A B t0 t1 ++ [.i 2101252, .i 4])) 1).toI := by kernel_rfl
theorem owes_1 (ranks lines on bar : Int) (z : Bool) (left last before : Int) (P : Nat → Int) (U W V A B : Nat → Bool) (t0 t1 : Int) : W100402 (ds ranks lines on bar 1 z left last before (stf P U W V A B t0 t1)) = contW lines on left (p9 (P 0) (P 1) (W 1) (A 1) (B 1) (P 2) (W 2) (A 2) (B 2) (P 3) (W 3) (A 3) (B 3) (P 4) (W 4) (A 4) (B 4) (P 5) (W 5) (A 5) (B 5) (P 6) (W 6) (A 6) (B 6) (P 7) (W 7) (A 7) (B 7) (P 8) (W 8) (A 8) (B 8)) (dget (g8 (stf P U W V A B t0 t1 ++ [.i 2101252, .i 4])) 0).toB (dget (g8 (stf P U W V A B t0 t1 ++ [.i 2101252, .i 4])) 1).toI := by kernel_rfl
theorem next_1 (ranks lines on bar : Int) (z : Bool) (left last before : Int) (P : Nat → Int) (U W V A B : Nat → Bool) (t0 t1 : Int) : N100402 (ds ranks lines on bar 1 z left last before (stf P U W V A B t0 t1)) = (fun m : Int => ds ranks lines on bar 1 z (IntKind.wrap .i64 (left - 1)) (iland .u64 (ishr .u64 ranks (IntKind.wrap .u64 (3 * IntKind.wrap .u64 m))) 7) (IntKind.wrap .u64 m) (stf P U (fun k => bif decide (m > 0) then (bif m == (k : Int) then false else W k) else W k) (fun k => bif decide (m > 0) then (m == (k : Int) || V k) else V k) A B t0 t1)) (r14_0 (P 0) (P 1) (W 1) (A 1) (B 1) (P 2) (W 2) (A 2) (B 2) (P 3) (W 3) (A 3) (B 3) (P 4) (W 4) (A 4) (B 4) (P 5) (W 5) (A 5) (B 5) (P 6) (W 6) (A 6) (B 6) (P 7) (W 7) (A 7) (B 7) (P 8) (W 8) (A 8) (B 8) 1) := by kernel_rfl
theorem out_1 (ranks lines on bar : Int) (z : Bool) (last before : Int) (P : Nat → Int) (U W V A B : Nat → Bool) (t0 t1 : Int) : T100402 (ds ranks lines on bar 1 z 0 last before (stf P U W V A B t0 t1)) = [.i 1, .b z, .i 0, .i last, .i before] ++ stf P U W V A B t0 t1 := by kernel_rfl
theorem clm_1 (P : Nat → Int) (U W V A B : Nat → Bool) (t0 t1 : Int) : (dget (g8 (stf P U W V A B t0 t1 ++ [.i 2101252, .i 4])) 1).toI = IntKind.wrap .u64 (r14_0 (P 0) (P 1) (W 1) (A 1) (B 1) (P 2) (W 2) (A 2) (B 2) (P 3) (W 3) (A 3) (B 3) (P 4) (W 4) (A 4) (B 4) (P 5) (W 5) (A 5) (B 5) (P 6) (W 6) (A 6) (B 6) (P 7) (W 7) (A 7) (B 7) (P 8) (W 8) (A 8) (B 8) 1) := by kernel_rfl
end Go.Proofs.Ythlbgkhbebffaaa

namespace Go.Sx

theorem wrap_u64 (n : Int) : IntKind.wrap .u64 n = n % 18446744073709551616 := by simp [IntKind.wrap, IntKind.signed, IntKind.bits]
theorem wrap_i64 (n : Int) : IntKind.wrap .i64 n = if n % 18446744073709551616 ≥ 9223372036854775808 then n % 18446744073709551616 - 18446744073709551616 else n % 18446744073709551616 := by
  simp [IntKind.wrap, IntKind.signed, IntKind.bits]
theorem wrap_i64_of {n : Int} (h0 : -9223372036854775808 ≤ n) (h1 : n < 9223372036854775808) : IntKind.wrap .i64 n = n := by rw [wrap_i64]; split <;> omega
theorem wrap_u64_of {n : Int} (h0 : 0 ≤ n) (h1 : n < 18446744073709551616) : IntKind.wrap .u64 n = n := by rw [wrap_u64]; omega

section
variable {a m p : Int}
end
end Go.Sx

namespace Go.Proofs.Ythlbgkhbebffaaa
open Go Go.Sx
set_option maxRecDepth 100000
set_option maxHeartbeats 1000000

def bst (P : Nat → Int) (q : Nat → Bool) (n out : Nat) : Nat := bif q n then (bif decide (P n > P out) then n else out) else out
def best (P : Nat → Int) (q : Nat → Bool) : Nat := bst P q 8 (bst P q 7 (bst P q 6 (bst P q 5 (bst P q 4 (bst P q 3 (bst P q 2 (bst P q 1 0)))))))
def Inv (P : Nat → Int) (q : Nat → Bool) (j out : Nat) : Prop :=
  out ≤ j ∧ P 0 ≤ P out ∧ (out ≠ 0 → q out = true ∧ P 0 < P out) ∧ ∀ k, 1 ≤ k → k ≤ j → q k = true → P k ≤ P out ∧ (P k = P out → out ≤ k)
theorem inv_step {P : Nat → Int} {q : Nat → Bool} {j out : Nat} (h : Inv P q j out) : Inv P q (j + 1) (bst P q (j + 1) out) := by
  obtain ⟨h1, h2, h3, h4⟩ := h
  unfold bst
  cases hq : q (j + 1)
  · refine ⟨by simp only [cond_false]; omega, h2, h3, fun k a b c => ?_⟩
    by_cases hk : k = j + 1
    · subst hk; rw [hq] at c; cases c
    · exact h4 k a (by omega) c
  · rw [cond_true]
    by_cases hp : P (j + 1) > P out
    · rw [decide_eq_true hp, cond_true]
      refine ⟨Nat.le_refl _, by omega, fun _ => ⟨hq, by omega⟩, fun k a b c => ?_⟩
      by_cases hk : k = j + 1
      · subst hk; exact ⟨Int.le_refl _, fun _ => Nat.le_refl _⟩
      · have := h4 k a (by omega) c
        exact ⟨by omega, fun h => by omega⟩
    · rw [decide_eq_false hp, cond_false]
      refine ⟨by omega, h2, h3, fun k a b c => ?_⟩
      by_cases hk : k = j + 1
      · subst hk; exact ⟨by omega, fun _ => by omega⟩
      · exact h4 k a (by omega) c
theorem best_inv (P : Nat → Int) (q : Nat → Bool) : Inv P q 8 (best P q) :=
  inv_step (inv_step (inv_step (inv_step (inv_step (inv_step (inv_step (inv_step (j := 0) (out := 0) ⟨Nat.le_refl _, Int.le_refl _, fun h => absurd rfl h, fun k a b _ => by omega⟩)))))))

theorem ps_at (P : Nat → Int) {k : Nat} (h : k ≤ 8) : [P 0, P 1, P 2, P 3, P 4, P 5, P 6, P 7, P 8].getD k 0 = P k := by
  obtain rfl | rfl | rfl | rfl | rfl | rfl | rfl | rfl | rfl : k = 0 ∨ k = 1 ∨ k = 2 ∨ k = 3 ∨ k = 4 ∨ k = 5 ∨ k = 6 ∨ k = 7 ∨ k = 8 := by omega
  all_goals rfl
theorem bI_ok (P : Nat → Int) (W A : Nat → Bool) {n out : Nat} (hn : n ≤ 8) (ho : out ≤ 8) :
    bI [P 0, P 1, P 2, P 3, P 4, P 5, P 6, P 7, P 8] (W n) (A n) (n : Int) (out : Int) = ((bst P (fun k => W k && A k) n out : Nat) : Int) ∧ bst P (fun k => W k && A k) n out ≤ 8 := by
  unfold bI bst
  rw [Int.toNat_natCast, Int.toNat_natCast, ps_at P hn, ps_at P ho]
  dsimp only
  cases W n <;> cases A n
  · exact ⟨rfl, ho⟩
  · exact ⟨rfl, ho⟩
  · exact ⟨rfl, ho⟩
  · show (bif decide (P n > P out) then (n : Int) else (out : Int)) = (((bif decide (P n > P out) then n else out : Nat)) : Int) ∧ (bif decide (P n > P out) then n else out) ≤ 8
    cases decide (P n > P out)
    · exact ⟨rfl, ho⟩
    · exact ⟨rfl, hn⟩
section
variable (P : Nat → Int) (W A : Nat → Bool)
theorem chain_ok : ∃ o1 o2 o3 o4 o5 o6 o7 : Nat, o1 ≤ 8 ∧ o2 ≤ 8 ∧ o3 ≤ 8 ∧ o4 ≤ 8 ∧ o5 ≤ 8 ∧ o6 ≤ 8 ∧ o7 ≤ 8 ∧
    bI [P 0, P 1, P 2, P 3, P 4, P 5, P 6, P 7, P 8] (W 1) (A 1) 1 0 = (o1 : Int) ∧ bI [P 0, P 1, P 2, P 3, P 4, P 5, P 6, P 7, P 8] (W 2) (A 2) 2 (o1 : Int) = (o2 : Int) ∧
    bI [P 0, P 1, P 2, P 3, P 4, P 5, P 6, P 7, P 8] (W 3) (A 3) 3 (o2 : Int) = (o3 : Int) ∧ bI [P 0, P 1, P 2, P 3, P 4, P 5, P 6, P 7, P 8] (W 4) (A 4) 4 (o3 : Int) = (o4 : Int) ∧
    bI [P 0, P 1, P 2, P 3, P 4, P 5, P 6, P 7, P 8] (W 5) (A 5) 5 (o4 : Int) = (o5 : Int) ∧ bI [P 0, P 1, P 2, P 3, P 4, P 5, P 6, P 7, P 8] (W 6) (A 6) 6 (o5 : Int) = (o6 : Int) ∧
    bI [P 0, P 1, P 2, P 3, P 4, P 5, P 6, P 7, P 8] (W 7) (A 7) 7 (o6 : Int) = (o7 : Int) ∧ bI [P 0, P 1, P 2, P 3, P 4, P 5, P 6, P 7, P 8] (W 8) (A 8) 8 (o7 : Int) = ((best P (fun k => W k && A k) : Nat) : Int) := by
  obtain ⟨a1, b1⟩ := bI_ok P W A (n := 1) (out := 0) (by decide) (by decide)
  obtain ⟨a2, b2⟩ := bI_ok P W A (n := 2) (by decide) b1
  obtain ⟨a3, b3⟩ := bI_ok P W A (n := 3) (by decide) b2
  obtain ⟨a4, b4⟩ := bI_ok P W A (n := 4) (by decide) b3
  obtain ⟨a5, b5⟩ := bI_ok P W A (n := 5) (by decide) b4
  obtain ⟨a6, b6⟩ := bI_ok P W A (n := 6) (by decide) b5
  obtain ⟨a7, b7⟩ := bI_ok P W A (n := 7) (by decide) b6
  obtain ⟨a8, b8⟩ := bI_ok P W A (n := 8) (by decide) b7
  exact ⟨_, _, _, _, _, _, _, b1, b2, b3, b4, b5, b6, b7, a1, a2, a3, a4, a5, a6, a7, a8⟩
end
theorem ow_t (l : List (Bool × Bool)) : ow l true = true := by simp [ow]
section
variable (P : Nat → Int) (W A B : Nat → Bool)
theorem r14_0ok : r14_0 (P 0) (P 1) (W 1) (A 1) (B 1) (P 2) (W 2) (A 2) (B 2) (P 3) (W 3) (A 3) (B 3) (P 4) (W 4) (A 4) (B 4) (P 5) (W 5) (A 5) (B 5) (P 6) (W 6) (A 6) (B 6) (P 7) (W 7) (A 7) (B 7) (P 8) (W 8) (A 8) (B 8) 0 = ((best P (fun k => W k && A k) : Nat) : Int) ∧
    p14 (P 0) (P 1) (W 1) (A 1) (B 1) (P 2) (W 2) (A 2) (B 2) (P 3) (W 3) (A 3) (B 3) (P 4) (W 4) (A 4) (B 4) (P 5) (W 5) (A 5) (B 5) (P 6) (W 6) (A 6) (B 6) (P 7) (W 7) (A 7) (B 7) (P 8) (W 8) (A 8) (B 8) 0 = true := by
  obtain ⟨o1, o2, o3, o4, o5, o6, o7, l1, l2, l3, l4, l5, l6, l7, h1, h2, h3, h4, h5, h6, h7, h8⟩ := chain_ok P W A
  have ge : ∀ o : Nat, decide ((o : Int) ≥ 0) = true := fun o => decide_eq_true (by omega)
  have lt : ∀ o : Nat, o ≤ 8 → decide ((o : Int) < 9) = true := fun o h => decide_eq_true (by omega)
  have z1 : decide ((0 : Int) ≥ 0) = true := rfl
  have z2 : decide ((0 : Int) < 2) = true := rfl
  constructor
  · rw [best_0, h1, h2, h3, h4, h5, h6, h7, h8]
  · rw [bestp_0]
    simp only [h1, h2, h3, h4, h5, h6, h7, ge, lt o1 l1, lt o2 l2, lt o3 l3, lt o4 l4, lt o5 l5, lt o6 l6, lt o7 l7, z1, z2, ow_t]
    rfl
theorem r14_1ok : r14_0 (P 0) (P 1) (W 1) (A 1) (B 1) (P 2) (W 2) (A 2) (B 2) (P 3) (W 3) (A 3) (B 3) (P 4) (W 4) (A 4) (B 4) (P 5) (W 5) (A 5) (B 5) (P 6) (W 6) (A 6) (B 6) (P 7) (W 7) (A 7) (B 7) (P 8) (W 8) (A 8) (B 8) 1 = ((best P (fun k => W k && B k) : Nat) : Int) ∧
    p14 (P 0) (P 1) (W 1) (A 1) (B 1) (P 2) (W 2) (A 2) (B 2) (P 3) (W 3) (A 3) (B 3) (P 4) (W 4) (A 4) (B 4) (P 5) (W 5) (A 5) (B 5) (P 6) (W 6) (A 6) (B 6) (P 7) (W 7) (A 7) (B 7) (P 8) (W 8) (A 8) (B 8) 1 = true := by
  obtain ⟨o1, o2, o3, o4, o5, o6, o7, l1, l2, l3, l4, l5, l6, l7, h1, h2, h3, h4, h5, h6, h7, h8⟩ := chain_ok P W B
  have ge : ∀ o : Nat, decide ((o : Int) ≥ 0) = true := fun o => decide_eq_true (by omega)
  have lt : ∀ o : Nat, o ≤ 8 → decide ((o : Int) < 9) = true := fun o h => decide_eq_true (by omega)
  have z1 : decide ((1 : Int) ≥ 0) = true := rfl
  have z2 : decide ((1 : Int) < 2) = true := rfl
  constructor
  · rw [best_1, h1, h2, h3, h4, h5, h6, h7, h8]
  · rw [bestp_1]
    simp only [h1, h2, h3, h4, h5, h6, h7, ge, lt o1 l1, lt o2 l2, lt o3 l3, lt o4 l4, lt o5 l5, lt o6 l6, lt o7 l7, z1, z2, ow_t]
    rfl
def pend (P : Nat → Int) (W A B : Nat → Bool) (t0 t1 : Int) : Int :=
  bif decide (P (best P (fun k => W k && B k)) > t1) then ilor .u64 (bif decide (P (best P (fun k => W k && A k)) > t0) then 2048 else 0) 512 else bif decide (P (best P (fun k => W k && A k)) > t0) then 2048 else 0
theorem r9_ok (t0 t1 : Int) : r9_0 (P 0) (P 1) (W 1) (A 1) (B 1) (P 2) (W 2) (A 2) (B 2) (P 3) (W 3) (A 3) (B 3) (P 4) (W 4) (A 4) (B 4) (P 5) (W 5) (A 5) (B 5) (P 6) (W 6) (A 6) (B 6) (P 7) (W 7) (A 7) (B 7) (P 8) (W 8) (A 8) (B 8) t0 t1 = pend P W A B t0 t1 ∧
    p9 (P 0) (P 1) (W 1) (A 1) (B 1) (P 2) (W 2) (A 2) (B 2) (P 3) (W 3) (A 3) (B 3) (P 4) (W 4) (A 4) (B 4) (P 5) (W 5) (A 5) (B 5) (P 6) (W 6) (A 6) (B 6) (P 7) (W 7) (A 7) (B 7) (P 8) (W 8) (A 8) (B 8) = true := by
  obtain ⟨h1, h2⟩ := r14_0ok P W A B
  obtain ⟨h3, h4⟩ := r14_1ok P W A B
  have i1 := (best_inv P (fun k => W k && A k)).1
  have i2 := (best_inv P (fun k => W k && B k)).1
  unfold pend
  constructor
  · simp only [r9_0, h1, h3, Int.toNat_natCast, ps_at P i1, ps_at P i2]
  · simp only [p9, h1, h2, h3, h4, ow_t, decide_eq_true (show ((best P (fun k => W k && A k) : Nat) : Int) ≥ 0 by omega), decide_eq_true (show ((best P (fun k => W k && A k) : Nat) : Int) < 9 by omega), decide_eq_true (show ((best P (fun k => W k && B k) : Nat) : Int) ≥ 0 by omega), decide_eq_true (show ((best P (fun k => W k && B k) : Nat) : Int) < 9 by omega)]
    rfl
end
end Go.Proofs.Ythlbgkhbebffaaa

namespace Go.Proofs.Ythlbgkhbebffaaa
open Go Go.Sx
set_option maxRecDepth 100000
set_option maxHeartbeats 1000000

theorem and7 (x : Int) : 0 ≤ iland .u64 x 7 ∧ iland .u64 x 7 ≤ 7 := by
  have h : (BitVec.ofInt 64 x &&& BitVec.ofInt 64 7).toNat ≤ 7 := by
    rw [BitVec.toNat_and]
    exact Nat.le_trans Nat.and_le_right (by decide)
  have : iland .u64 x 7 = IntKind.wrap .u64 ((BitVec.ofInt 64 x &&& BitVec.ofInt 64 7).toNat : Int) := rfl
  rw [this, wrap_u64_of (by omega) (by omega)]
  omega
theorem bit_zero {x k : Int} (h : (iland .u64 (ishr .u64 x k) 1 == 1) = true) : (iland .u64 (ishr .u64 x k) 1 == 0) = false := by
  rw [beq_iff_eq] at h
  rw [h]; rfl

def cnt (f : Nat → Bool) : Nat := (f 1).toNat + (f 2).toNat + (f 3).toNat + (f 4).toNat + (f 5).toNat + (f 6).toNat + (f 7).toNat + (f 8).toNat
theorem cnt_erase {f : Nat → Bool} {m : Nat} (h1 : 1 ≤ m) (h2 : m ≤ 8) (hf : f m = true) : cnt f = cnt (fun k => f k && !(m == k)) + 1 := by
  have e : ∀ k, k ≠ m → (f k && !(m == k)) = f k := fun k hk => by
    rw [beq_eq_false_iff_ne.2 (Ne.symm hk), Bool.not_false, Bool.and_true]
  have em : (f m && !(m == m)) = false := by rw [beq_self_eq_true, Bool.not_true, Bool.and_false]
  have tf : false.toNat = 0 := rfl
  have tt : true.toNat = 1 := rfl
  unfold cnt
  dsimp only
  obtain rfl | rfl | rfl | rfl | rfl | rfl | rfl | rfl : m = 1 ∨ m = 2 ∨ m = 3 ∨ m = 4 ∨ m = 5 ∨ m = 6 ∨ m = 7 ∨ m = 8 := by omega
  · rw [em, hf, e 2 (by decide), e 3 (by decide), e 4 (by decide), e 5 (by decide), e 6 (by decide), e 7 (by decide), e 8 (by decide), tf, tt]; omega
  · rw [em, hf, e 1 (by decide), e 3 (by decide), e 4 (by decide), e 5 (by decide), e 6 (by decide), e 7 (by decide), e 8 (by decide), tf, tt]; omega
  · rw [em, hf, e 1 (by decide), e 2 (by decide), e 4 (by decide), e 5 (by decide), e 6 (by decide), e 7 (by decide), e 8 (by decide), tf, tt]; omega
  · rw [em, hf, e 1 (by decide), e 2 (by decide), e 3 (by decide), e 5 (by decide), e 6 (by decide), e 7 (by decide), e 8 (by decide), tf, tt]; omega
  · rw [em, hf, e 1 (by decide), e 2 (by decide), e 3 (by decide), e 4 (by decide), e 6 (by decide), e 7 (by decide), e 8 (by decide), tf, tt]; omega
  · rw [em, hf, e 1 (by decide), e 2 (by decide), e 3 (by decide), e 4 (by decide), e 5 (by decide), e 7 (by decide), e 8 (by decide), tf, tt]; omega
  · rw [em, hf, e 1 (by decide), e 2 (by decide), e 3 (by decide), e 4 (by decide), e 5 (by decide), e 6 (by decide), e 8 (by decide), tf, tt]; omega
  · rw [em, hf, e 1 (by decide), e 2 (by decide), e 3 (by decide), e 4 (by decide), e 5 (by decide), e 6 (by decide), e 7 (by decide), tf, tt]
theorem cnt_zero {f : Nat → Bool} (h : cnt f = 0) {k : Nat} (h1 : 1 ≤ k) (h2 : k ≤ 8) : f k = false := by
  unfold cnt at h
  have key : ∀ b : Bool, b.toNat = 0 → b = false := fun b hb => by cases b <;> first | rfl | cases hb
  obtain rfl | rfl | rfl | rfl | rfl | rfl | rfl | rfl : k = 1 ∨ k = 2 ∨ k = 3 ∨ k = 4 ∨ k = 5 ∨ k = 6 ∨ k = 7 ∨ k = 8 := by omega
  all_goals (exact key _ (by omega))
theorem cnt_pos {f : Nat → Bool} (h : cnt f ≠ 0) : ∃ k, 1 ≤ k ∧ k ≤ 8 ∧ f k = true := by
  refine Classical.byContradiction fun hc => h ?_
  have key : ∀ k, 1 ≤ k → k ≤ 8 → (f k).toNat = 0 := fun k h1 h2 => by
    cases hk : f k
    · rfl
    · exact absurd ⟨k, h1, h2, hk⟩ hc
  unfold cnt
  rw [key 1 (by decide) (by decide), key 2 (by decide) (by decide), key 3 (by decide) (by decide), key 4 (by decide) (by decide), key 5 (by decide) (by decide), key 6 (by decide) (by decide), key 7 (by decide) (by decide), key 8 (by decide) (by decide)]

section
variable (ranks lines on bar : Int)
def rk (n : Nat) : Int := iland .u64 (ishr .u64 ranks ((3 * n : Nat) : Int)) 7
def lb (n : Nat) : Bool := iland .u64 (ishr .u64 lines (n : Int)) 1 == 1
def Pf (n : Nat) : Int := if n = 0 then 0 else rk ranks n
def Wf (D : Nat → Bool) (n : Nat) : Bool := decide (1 ≤ n) && lb lines n && !D n
def Af (n : Nat) : Bool := decide (1 ≤ n) && lb on n
def el (n : Nat) : Bool := lb lines n && lb on n && decide (0 < rk ranks n)
def none' : Nat → Bool := fun _ => false
end
theorem best_none {P : Nat → Int} {W : Nat → Bool} : best P (fun k => W k && none' k) = 0 := by
  have h := (best_inv P (fun k => W k && none' k)).2.2.1
  refine Classical.byContradiction fun hc => ?_
  have := (h hc).1
  simp [none'] at this
section
variable {ranks lines on bar : Int} {D : Nat → Bool}
theorem next_best (hc : cnt (fun k => el ranks lines on k && !D k) ≠ 0) : ∃ m, best (Pf ranks) (fun k => Wf lines D k && Af on k) = m ∧ 1 ≤ m ∧ m ≤ 8 ∧ el ranks lines on m = true ∧ D m = false ∧
    ∀ k, 1 ≤ k → k ≤ 8 → el ranks lines on k = true → D k = false → k ≠ m → rk ranks k < rk ranks m ∨ (rk ranks k = rk ranks m ∧ m < k) := by
  obtain ⟨i1, i2, i3, i4⟩ := best_inv (Pf ranks) (fun k => Wf lines D k && Af on k)
  generalize best (Pf ranks) (fun k => Wf lines D k && Af on k) = m at *
  have p0 : Pf ranks 0 = 0 := rfl
  have pk : ∀ k, 1 ≤ k → Pf ranks k = rk ranks k := fun k hk => by unfold Pf; rw [if_neg (by omega)]
  have hq : ∀ k, 1 ≤ k → el ranks lines on k = true → D k = false → (Wf lines D k && Af on k) = true := fun k h1 h2 h3 => by
    unfold el at h2
    simp only [Bool.and_eq_true] at h2
    unfold Wf Af
    rw [decide_eq_true h1, h2.1.1, h2.1.2, h3]; rfl
  obtain ⟨k0, a1, a2, a3⟩ := cnt_pos hc
  simp only [Bool.and_eq_true, Bool.not_eq_true'] at a3
  have r0 : 0 < rk ranks k0 := by
    have := a3.1
    unfold el at this
    simp only [Bool.and_eq_true, decide_eq_true_eq] at this
    exact this.2
  have b0 := i4 k0 a1 a2 (hq k0 a1 a3.1 a3.2)
  rw [pk k0 a1] at b0
  have hm : m ≠ 0 := fun h => by rw [h, p0] at b0; omega
  obtain ⟨c1, c2⟩ := i3 hm
  rw [p0, pk m (by omega)] at c2
  have c1 : (Wf lines D m && Af on m) = true := c1
  unfold Wf Af at c1
  simp only [Bool.and_eq_true, Bool.not_eq_true'] at c1
  refine ⟨m, rfl, by omega, i1, ?_, c1.1.2, fun k d1 d2 d3 d4 d5 => ?_⟩
  · unfold el; rw [c1.1.1.2, c1.2.2, decide_eq_true c2]; rfl
  · have := i4 k d1 d2 (hq k d1 d3 d4)
    rw [pk k d1, pk m (by omega)] at this
    rcases Int.lt_or_eq_of_le this.1 with h | h
    · exact .inl h
    · exact .inr ⟨h, by have := this.2 h; omega⟩
theorem rank_at {m : Nat} (h : m ≤ 8) : iland .u64 (ishr .u64 ranks (IntKind.wrap .u64 (3 * (m : Int)))) 7 = rk ranks m := by
  unfold rk
  rw [wrap_u64_of (by omega) (by omega)]
  congr 2

theorem cont_true_0 {m : Nat} {left last before : Int} (hl : 0 < left) (h1 : 1 ≤ m) (h2 : m ≤ 8) (he : el ranks lines on m = true) (ho : rk ranks m < last ∨ (rk ranks m = last ∧ before < m)) :
    contC ranks lines on bar 0 left last before (bif decide (rk ranks m > bar) then 2048 else 0) (m : Int) = true := by
  unfold el lb at he
  simp only [Bool.and_eq_true, decide_eq_true_eq] at he
  have a1 : igt left 0 = true := decide_eq_true hl
  have a2 : ilt (m : Int) 1 = false := decide_eq_false (by omega)
  have a3 : igt (m : Int) 8 = false := decide_eq_false (by omega)
  have a4 := bit_zero he.1.1
  have a5 := bit_zero he.1.2
  have a6 : (rk ranks m == 0) = false := beq_eq_false_iff_ne.2 (by omega)
  have a7 : igt (rk ranks m) last = false := decide_eq_false (by omega)
  have a8 : ((rk ranks m == last) && ile (m : Int) before) = false := by
    rcases ho with ho | ho
    · rw [beq_eq_false_iff_ne.2 (by omega)]; rfl
    · have : ile (m : Int) before = false := decide_eq_false (by omega)
      rw [this, Bool.and_false]
  have a9 : igt (rk ranks m) bar = decide (rk ranks m > bar) := rfl
  simp only [contC, rank_at h2, a1, a2, a3, a4, a5, a6, a7, a8, a9]
  cases decide (rk ranks m > bar) <;> rfl

theorem cont_true_1 {m : Nat} {left last before : Int} (hl : 0 < left) (h1 : 1 ≤ m) (h2 : m ≤ 8) (he : el ranks lines on m = true) (ho : rk ranks m < last ∨ (rk ranks m = last ∧ before < m)) :
    contC ranks lines on bar 1 left last before (bif decide (rk ranks m > bar) then 512 else 0) (m : Int) = true := by
  unfold el lb at he
  simp only [Bool.and_eq_true, decide_eq_true_eq] at he
  have a1 : igt left 0 = true := decide_eq_true hl
  have a2 : ilt (m : Int) 1 = false := decide_eq_false (by omega)
  have a3 : igt (m : Int) 8 = false := decide_eq_false (by omega)
  have a4 := bit_zero he.1.1
  have a5 := bit_zero he.1.2
  have a6 : (rk ranks m == 0) = false := beq_eq_false_iff_ne.2 (by omega)
  have a7 : igt (rk ranks m) last = false := decide_eq_false (by omega)
  have a8 : ((rk ranks m == last) && ile (m : Int) before) = false := by
    rcases ho with ho | ho
    · rw [beq_eq_false_iff_ne.2 (by omega)]; rfl
    · have : ile (m : Int) before = false := decide_eq_false (by omega)
      rw [this, Bool.and_false]
  have a9 : igt (rk ranks m) bar = decide (rk ranks m > bar) := rfl
  simp only [contC, rank_at h2, a1, a2, a3, a4, a5, a6, a7, a8, a9]
  cases decide (rk ranks m > bar) <;> rfl

theorem pend_0 : pend (Pf ranks) (Wf lines D) (Af on) none' bar 0 = bif decide (Pf ranks (best (Pf ranks) (fun k => Wf lines D k && Af on k)) > bar) then 2048 else 0 := by
  unfold pend
  rw [best_none]
  have p0 : decide (Pf ranks 0 > 0) = false := rfl
  rw [p0]
  cases decide (Pf ranks (best (Pf ranks) (fun k => Wf lines D k && Af on k)) > bar) <;> decide +kernel
theorem loop_0 {U : Nat → Bool} {z : Bool} : ∀ (L : Nat) (D : Nat → Bool) (last before : Int), cnt (fun k => el ranks lines on k && !D k) = L → L ≤ 8 →
    (∀ k, 1 ≤ k → k ≤ 8 → el ranks lines on k = true → D k = false → rk ranks k < last ∨ (rk ranks k = last ∧ before < k)) →
    ∃ (D' : Nat → Bool) (last' before' : Int), loopG W100402 C100402 N100402 T100402 (ds ranks lines on bar 0 z (L : Int) last before (stf (Pf ranks) U (Wf lines D) D (Af on) none' bar 0)) =
      some ([.i 1, .b z, .i 0, .i last', .i before'] ++ stf (Pf ranks) U (Wf lines D') D' (Af on) none' bar 0) ∧ cnt (fun k => el ranks lines on k && !D' k) = 0
  | 0, D, last, before, hc, _, _ => by
    refine ⟨D, last, before, ?_, hc⟩
    have g0 : igt ((0 : Nat) : Int) 0 = false := rfl
    refine (loopG_last ?_ ?_).trans (congrArg some (out_0 ranks lines on bar z last before _ _ _ _ _ _ _ _))
    · rw [owes_0]
      simp only [contW, g0]
      simp [ow]
    · rw [cont_0]
      simp only [contC, g0, Bool.false_and]
  | L + 1, D, last, before, hc, hL, ho => by
    obtain ⟨m, hm, m1, m2, me, md, mo⟩ := next_best (ranks := ranks) (lines := lines) (on := on) (D := D) (by omega)
    obtain ⟨q1, q2⟩ := r14_0ok (Pf ranks) (Wf lines D) (Af on) none'
    obtain ⟨q3, q4⟩ := r9_ok (Pf ranks) (Wf lines D) (Af on) none' bar 0
    have hb : best (Pf ranks) (fun k => Wf lines D k && Af on k) = m := hm
    rw [hb] at q1
    have hpm : Pf ranks m = rk ranks m := by unfold Pf; rw [if_neg (by omega)]
    rw [pend_0, hb, hpm] at q3
    have wm : IntKind.wrap .u64 (m : Int) = (m : Int) := wrap_u64_of (by omega) (by omega)
    have gm : decide ((m : Int) > 0) = true := decide_eq_true (by omega)
    have h1 : W100402 (ds ranks lines on bar 0 z ((L + 1 : Nat) : Int) last before (stf (Pf ranks) U (Wf lines D) D (Af on) none' bar 0)) = true := by
      rw [owes_0, clm_0, q1, q4, wm]
      have hp := claimp_0 (Pf ranks) U (Wf lines D) D (Af on) none' bar 0
      dsimp only at hp
      rw [q1, q2] at hp
      have g1 : decide ((m : Int) ≥ 0) = true := decide_eq_true (by omega)
      have g2 : decide ((m : Int) < 9) = true := decide_eq_true (by omega)
      have hp : (dget (g8 (stf (Pf ranks) U (Wf lines D) D (Af on) none' bar 0 ++ [.i 2097156, .i 4])) 0).toB = true := by
        refine Eq.trans hp ?_
        rw [g1, g2, ow_t]; rfl
      rw [hp]
      have g3 : ige (m : Int) 0 = true := g1
      have g4 : decide (IntKind.wrap .u64 (3 * (m : Int)) ≥ 0) = true := decide_eq_true (by rw [wrap_u64_of (by omega) (by omega)]; omega)
      simp only [contW, g3, g4, ow_t]
      rfl
    have h2 : C100402 (ds ranks lines on bar 0 z ((L + 1 : Nat) : Int) last before (stf (Pf ranks) U (Wf lines D) D (Af on) none' bar 0)) = true := by
      rw [cont_0, clm_0, q1, q3, wm]
      exact cont_true_0 (by omega) m1 m2 me (ho m m1 m2 me md)
    rw [loopG_next h1 h2, next_0]
    dsimp only
    rw [q1, wm, rank_at m2, gm]
    have e1 : IntKind.wrap .i64 (((L + 1 : Nat) : Int) - 1) = (L : Int) := by rw [wrap_i64_of (by omega) (by omega)]; omega
    have eW : (fun k : Nat => bif true then (bif (m : Int) == (k : Int) then false else Wf lines D k) else Wf lines D k) = Wf lines (fun k => D k || m == k) := by
      funext k
      have : ((m : Int) == (k : Int)) = (m == k) := by rw [Bool.eq_iff_iff]; simp only [beq_iff_eq]; omega
      rw [cond_true, this]
      unfold Wf
      dsimp only
      cases m == k
      · rw [cond_false, Bool.or_false]
      · rw [cond_true, Bool.or_true, Bool.not_true, Bool.and_false]
    have eV : (fun k : Nat => bif true then ((m : Int) == (k : Int) || D k) else D k) = (fun k => D k || m == k) := by
      funext k
      have : ((m : Int) == (k : Int)) = (m == k) := by rw [Bool.eq_iff_iff]; simp only [beq_iff_eq]; omega
      rw [cond_true, this, Bool.or_comm]
    rw [e1, eW, eV]
    refine loop_0 L (fun k => D k || m == k) (rk ranks m) (m : Int) ?_ (by omega) ?_
    · have := cnt_erase (f := fun k => el ranks lines on k && !D k) m1 m2 (by show (el ranks lines on m && !D m) = true; rw [me, md]; rfl)
      have e2 : (fun k => (fun k => el ranks lines on k && !D k) k && !(m == k)) = (fun k => el ranks lines on k && !(D k || m == k)) := by
        funext k
        show ((el ranks lines on k && !D k) && !(m == k)) = _
        rw [Bool.not_or, Bool.and_assoc]
      rw [e2] at this
      omega
    · intro k k1 k2 ke kd
      simp only [Bool.or_eq_false_iff, beq_eq_false_iff_ne] at kd
      have := mo k k1 k2 ke kd.1 (Ne.symm kd.2)
      omega

theorem pend_1 : pend (Pf ranks) (Wf lines D) none' (Af on) 0 bar = bif decide (Pf ranks (best (Pf ranks) (fun k => Wf lines D k && Af on k)) > bar) then 512 else 0 := by
  unfold pend
  rw [best_none]
  have p0 : decide (Pf ranks 0 > 0) = false := rfl
  rw [p0]
  cases decide (Pf ranks (best (Pf ranks) (fun k => Wf lines D k && Af on k)) > bar) <;> decide +kernel
theorem loop_1 {U : Nat → Bool} {z : Bool} : ∀ (L : Nat) (D : Nat → Bool) (last before : Int), cnt (fun k => el ranks lines on k && !D k) = L → L ≤ 8 →
    (∀ k, 1 ≤ k → k ≤ 8 → el ranks lines on k = true → D k = false → rk ranks k < last ∨ (rk ranks k = last ∧ before < k)) →
    ∃ (D' : Nat → Bool) (last' before' : Int), loopG W100402 C100402 N100402 T100402 (ds ranks lines on bar 1 z (L : Int) last before (stf (Pf ranks) U (Wf lines D) D none' (Af on) 0 bar)) =
      some ([.i 1, .b z, .i 0, .i last', .i before'] ++ stf (Pf ranks) U (Wf lines D') D' none' (Af on) 0 bar) ∧ cnt (fun k => el ranks lines on k && !D' k) = 0
  | 0, D, last, before, hc, _, _ => by
    refine ⟨D, last, before, ?_, hc⟩
    have g0 : igt ((0 : Nat) : Int) 0 = false := rfl
    refine (loopG_last ?_ ?_).trans (congrArg some (out_1 ranks lines on bar z last before _ _ _ _ _ _ _ _))
    · rw [owes_1]
      simp only [contW, g0]
      simp [ow]
    · rw [cont_1]
      simp only [contC, g0, Bool.false_and]
  | L + 1, D, last, before, hc, hL, ho => by
    obtain ⟨m, hm, m1, m2, me, md, mo⟩ := next_best (ranks := ranks) (lines := lines) (on := on) (D := D) (by omega)
    obtain ⟨q1, q2⟩ := r14_1ok (Pf ranks) (Wf lines D) none' (Af on)
    obtain ⟨q3, q4⟩ := r9_ok (Pf ranks) (Wf lines D) none' (Af on) 0 bar
    have hb : best (Pf ranks) (fun k => Wf lines D k && Af on k) = m := hm
    rw [hb] at q1
    have hpm : Pf ranks m = rk ranks m := by unfold Pf; rw [if_neg (by omega)]
    rw [pend_1, hb, hpm] at q3
    have wm : IntKind.wrap .u64 (m : Int) = (m : Int) := wrap_u64_of (by omega) (by omega)
    have gm : decide ((m : Int) > 0) = true := decide_eq_true (by omega)
    have h1 : W100402 (ds ranks lines on bar 1 z ((L + 1 : Nat) : Int) last before (stf (Pf ranks) U (Wf lines D) D none' (Af on) 0 bar)) = true := by
      rw [owes_1, clm_1, q1, q4, wm]
      have hp := claimp_1 (Pf ranks) U (Wf lines D) D none' (Af on) 0 bar
      dsimp only at hp
      rw [q1, q2] at hp
      have g1 : decide ((m : Int) ≥ 0) = true := decide_eq_true (by omega)
      have g2 : decide ((m : Int) < 9) = true := decide_eq_true (by omega)
      have hp : (dget (g8 (stf (Pf ranks) U (Wf lines D) D none' (Af on) 0 bar ++ [.i 2101252, .i 4])) 0).toB = true := by
        refine Eq.trans hp ?_
        rw [g1, g2, ow_t]; rfl
      rw [hp]
      have g3 : ige (m : Int) 0 = true := g1
      have g4 : decide (IntKind.wrap .u64 (3 * (m : Int)) ≥ 0) = true := decide_eq_true (by rw [wrap_u64_of (by omega) (by omega)]; omega)
      simp only [contW, g3, g4, ow_t]
      rfl
    have h2 : C100402 (ds ranks lines on bar 1 z ((L + 1 : Nat) : Int) last before (stf (Pf ranks) U (Wf lines D) D none' (Af on) 0 bar)) = true := by
      rw [cont_1, clm_1, q1, q3, wm]
      exact cont_true_1 (by omega) m1 m2 me (ho m m1 m2 me md)
    rw [loopG_next h1 h2, next_1]
    dsimp only
    rw [q1, wm, rank_at m2, gm]
    have e1 : IntKind.wrap .i64 (((L + 1 : Nat) : Int) - 1) = (L : Int) := by rw [wrap_i64_of (by omega) (by omega)]; omega
    have eW : (fun k : Nat => bif true then (bif (m : Int) == (k : Int) then false else Wf lines D k) else Wf lines D k) = Wf lines (fun k => D k || m == k) := by
      funext k
      have : ((m : Int) == (k : Int)) = (m == k) := by rw [Bool.eq_iff_iff]; simp only [beq_iff_eq]; omega
      rw [cond_true, this]
      unfold Wf
      dsimp only
      cases m == k
      · rw [cond_false, Bool.or_false]
      · rw [cond_true, Bool.or_true, Bool.not_true, Bool.and_false]
    have eV : (fun k : Nat => bif true then ((m : Int) == (k : Int) || D k) else D k) = (fun k => D k || m == k) := by
      funext k
      have : ((m : Int) == (k : Int)) = (m == k) := by rw [Bool.eq_iff_iff]; simp only [beq_iff_eq]; omega
      rw [cond_true, this, Bool.or_comm]
    rw [e1, eW, eV]
    refine loop_1 L (fun k => D k || m == k) (rk ranks m) (m : Int) ?_ (by omega) ?_
    · have := cnt_erase (f := fun k => el ranks lines on k && !D k) m1 m2 (by show (el ranks lines on m && !D m) = true; rw [me, md]; rfl)
      have e2 : (fun k => (fun k => el ranks lines on k && !D k) k && !(m == k)) = (fun k => el ranks lines on k && !(D k || m == k)) := by
        funext k
        show ((el ranks lines on k && !D k) && !(m == k)) = _
        rw [Bool.not_or, Bool.and_assoc]
      rw [e2] at this
      omega
    · intro k k1 k2 ke kd
      simp only [Bool.or_eq_false_iff, beq_eq_false_iff_ne] at kd
      have := mo k k1 k2 ke kd.1 (Ne.symm kd.2)
      omega

end
end Go.Proofs.Ythlbgkhbebffaaa

namespace Go.Proofs.Ythlbgkhbebffaaa
open Go Go.Sx
set_option maxRecDepth 100000
set_option maxHeartbeats 4000000
def updI (F : Nat → Int) (k : Nat) (v : Int) (n : Nat) : Int := bif Nat.beq n k then v else F n
def updB (F : Nat → Bool) (k : Nat) (v : Bool) (n : Nat) : Bool := bif Nat.beq n k then v else F n
theorem wr_1 (P : Nat → Int) (U W A B : Nat → Bool) (t0 t1 x : Int) : g7 (stf P U W none' A B t0 t1 ++ [.i 4, .i 4, .i x]) = .b true :: .b true :: stf (updI P 1 (low3 x)) U W none' A B t0 t1 := by kernel_rfl
theorem ln_1 (P : Nat → Int) (U W A B : Nat → Bool) (t0 t1 : Int) : lnS 1 (.b true :: .b true :: stf P U W none' A B t0 t1) = .b true :: .b true :: stf P (updB U 1 true) (updB W 1 (W 1 || true)) none' A B t0 t1 := by kernel_rfl
theorem jn_1 (b : Bool) (P : Nat → Int) (U W A B : Nat → Bool) (t0 t1 : Int) : joinC b (.b true :: .b true :: stf P (updB U 1 true) (updB W 1 (W 1 || true)) none' A B t0 t1) (.b true :: .b true :: stf P U W none' A B t0 t1) =
    stf P (updB U 1 (bif b then true else U 1)) (updB W 1 (bif b then (W 1 || true) else W 1)) none' A B t0 t1 := by cases b <;> kernel_rfl
theorem src_1 (ranks lines : Int) (P : Nat → Int) (U W A B : Nat → Bool) (t0 t1 : Int) : srcS 1 4 3 ranks lines (stf P U W none' A B t0 t1) = stf (updI P 1 (low3 (iland .u64 (ishr .u64 ranks 3) 7)))
    (updB U 1 (bif iland .u64 (ishr .u64 lines 1) 1 == 1 then true else U 1)) (updB W 1 (bif iland .u64 (ishr .u64 lines 1) 1 == 1 then (W 1 || true) else W 1)) none' A B t0 t1 := by
  unfold srcS wrS
  rw [wr_1, ln_1, jn_1]
theorem wr_2 (P : Nat → Int) (U W A B : Nat → Bool) (t0 t1 x : Int) : g7 (stf P U W none' A B t0 t1 ++ [.i 8, .i 4, .i x]) = .b true :: .b true :: stf (updI P 2 (low3 x)) U W none' A B t0 t1 := by kernel_rfl
theorem ln_2 (P : Nat → Int) (U W A B : Nat → Bool) (t0 t1 : Int) : lnS 2 (.b true :: .b true :: stf P U W none' A B t0 t1) = .b true :: .b true :: stf P (updB U 2 true) (updB W 2 (W 2 || true)) none' A B t0 t1 := by kernel_rfl
theorem jn_2 (b : Bool) (P : Nat → Int) (U W A B : Nat → Bool) (t0 t1 : Int) : joinC b (.b true :: .b true :: stf P (updB U 2 true) (updB W 2 (W 2 || true)) none' A B t0 t1) (.b true :: .b true :: stf P U W none' A B t0 t1) =
    stf P (updB U 2 (bif b then true else U 2)) (updB W 2 (bif b then (W 2 || true) else W 2)) none' A B t0 t1 := by cases b <;> kernel_rfl
theorem src_2 (ranks lines : Int) (P : Nat → Int) (U W A B : Nat → Bool) (t0 t1 : Int) : srcS 2 8 6 ranks lines (stf P U W none' A B t0 t1) = stf (updI P 2 (low3 (iland .u64 (ishr .u64 ranks 6) 7)))
    (updB U 2 (bif iland .u64 (ishr .u64 lines 2) 1 == 1 then true else U 2)) (updB W 2 (bif iland .u64 (ishr .u64 lines 2) 1 == 1 then (W 2 || true) else W 2)) none' A B t0 t1 := by
  unfold srcS wrS
  rw [wr_2, ln_2, jn_2]
theorem wr_3 (P : Nat → Int) (U W A B : Nat → Bool) (t0 t1 x : Int) : g7 (stf P U W none' A B t0 t1 ++ [.i 12, .i 4, .i x]) = .b true :: .b true :: stf (updI P 3 (low3 x)) U W none' A B t0 t1 := by kernel_rfl
theorem ln_3 (P : Nat → Int) (U W A B : Nat → Bool) (t0 t1 : Int) : lnS 3 (.b true :: .b true :: stf P U W none' A B t0 t1) = .b true :: .b true :: stf P (updB U 3 true) (updB W 3 (W 3 || true)) none' A B t0 t1 := by kernel_rfl
theorem jn_3 (b : Bool) (P : Nat → Int) (U W A B : Nat → Bool) (t0 t1 : Int) : joinC b (.b true :: .b true :: stf P (updB U 3 true) (updB W 3 (W 3 || true)) none' A B t0 t1) (.b true :: .b true :: stf P U W none' A B t0 t1) =
    stf P (updB U 3 (bif b then true else U 3)) (updB W 3 (bif b then (W 3 || true) else W 3)) none' A B t0 t1 := by cases b <;> kernel_rfl
theorem src_3 (ranks lines : Int) (P : Nat → Int) (U W A B : Nat → Bool) (t0 t1 : Int) : srcS 3 12 9 ranks lines (stf P U W none' A B t0 t1) = stf (updI P 3 (low3 (iland .u64 (ishr .u64 ranks 9) 7)))
    (updB U 3 (bif iland .u64 (ishr .u64 lines 3) 1 == 1 then true else U 3)) (updB W 3 (bif iland .u64 (ishr .u64 lines 3) 1 == 1 then (W 3 || true) else W 3)) none' A B t0 t1 := by
  unfold srcS wrS
  rw [wr_3, ln_3, jn_3]
theorem wr_4 (P : Nat → Int) (U W A B : Nat → Bool) (t0 t1 x : Int) : g7 (stf P U W none' A B t0 t1 ++ [.i 16, .i 4, .i x]) = .b true :: .b true :: stf (updI P 4 (low3 x)) U W none' A B t0 t1 := by kernel_rfl
theorem ln_4 (P : Nat → Int) (U W A B : Nat → Bool) (t0 t1 : Int) : lnS 4 (.b true :: .b true :: stf P U W none' A B t0 t1) = .b true :: .b true :: stf P (updB U 4 true) (updB W 4 (W 4 || true)) none' A B t0 t1 := by kernel_rfl
theorem jn_4 (b : Bool) (P : Nat → Int) (U W A B : Nat → Bool) (t0 t1 : Int) : joinC b (.b true :: .b true :: stf P (updB U 4 true) (updB W 4 (W 4 || true)) none' A B t0 t1) (.b true :: .b true :: stf P U W none' A B t0 t1) =
    stf P (updB U 4 (bif b then true else U 4)) (updB W 4 (bif b then (W 4 || true) else W 4)) none' A B t0 t1 := by cases b <;> kernel_rfl
theorem src_4 (ranks lines : Int) (P : Nat → Int) (U W A B : Nat → Bool) (t0 t1 : Int) : srcS 4 16 12 ranks lines (stf P U W none' A B t0 t1) = stf (updI P 4 (low3 (iland .u64 (ishr .u64 ranks 12) 7)))
    (updB U 4 (bif iland .u64 (ishr .u64 lines 4) 1 == 1 then true else U 4)) (updB W 4 (bif iland .u64 (ishr .u64 lines 4) 1 == 1 then (W 4 || true) else W 4)) none' A B t0 t1 := by
  unfold srcS wrS
  rw [wr_4, ln_4, jn_4]
theorem wr_5 (P : Nat → Int) (U W A B : Nat → Bool) (t0 t1 x : Int) : g7 (stf P U W none' A B t0 t1 ++ [.i 20, .i 4, .i x]) = .b true :: .b true :: stf (updI P 5 (low3 x)) U W none' A B t0 t1 := by kernel_rfl
theorem ln_5 (P : Nat → Int) (U W A B : Nat → Bool) (t0 t1 : Int) : lnS 5 (.b true :: .b true :: stf P U W none' A B t0 t1) = .b true :: .b true :: stf P (updB U 5 true) (updB W 5 (W 5 || true)) none' A B t0 t1 := by kernel_rfl
theorem jn_5 (b : Bool) (P : Nat → Int) (U W A B : Nat → Bool) (t0 t1 : Int) : joinC b (.b true :: .b true :: stf P (updB U 5 true) (updB W 5 (W 5 || true)) none' A B t0 t1) (.b true :: .b true :: stf P U W none' A B t0 t1) =
    stf P (updB U 5 (bif b then true else U 5)) (updB W 5 (bif b then (W 5 || true) else W 5)) none' A B t0 t1 := by cases b <;> kernel_rfl
theorem src_5 (ranks lines : Int) (P : Nat → Int) (U W A B : Nat → Bool) (t0 t1 : Int) : srcS 5 20 15 ranks lines (stf P U W none' A B t0 t1) = stf (updI P 5 (low3 (iland .u64 (ishr .u64 ranks 15) 7)))
    (updB U 5 (bif iland .u64 (ishr .u64 lines 5) 1 == 1 then true else U 5)) (updB W 5 (bif iland .u64 (ishr .u64 lines 5) 1 == 1 then (W 5 || true) else W 5)) none' A B t0 t1 := by
  unfold srcS wrS
  rw [wr_5, ln_5, jn_5]
theorem wr_6 (P : Nat → Int) (U W A B : Nat → Bool) (t0 t1 x : Int) : g7 (stf P U W none' A B t0 t1 ++ [.i 24, .i 4, .i x]) = .b true :: .b true :: stf (updI P 6 (low3 x)) U W none' A B t0 t1 := by kernel_rfl
theorem ln_6 (P : Nat → Int) (U W A B : Nat → Bool) (t0 t1 : Int) : lnS 6 (.b true :: .b true :: stf P U W none' A B t0 t1) = .b true :: .b true :: stf P (updB U 6 true) (updB W 6 (W 6 || true)) none' A B t0 t1 := by kernel_rfl
theorem jn_6 (b : Bool) (P : Nat → Int) (U W A B : Nat → Bool) (t0 t1 : Int) : joinC b (.b true :: .b true :: stf P (updB U 6 true) (updB W 6 (W 6 || true)) none' A B t0 t1) (.b true :: .b true :: stf P U W none' A B t0 t1) =
    stf P (updB U 6 (bif b then true else U 6)) (updB W 6 (bif b then (W 6 || true) else W 6)) none' A B t0 t1 := by cases b <;> kernel_rfl
theorem src_6 (ranks lines : Int) (P : Nat → Int) (U W A B : Nat → Bool) (t0 t1 : Int) : srcS 6 24 18 ranks lines (stf P U W none' A B t0 t1) = stf (updI P 6 (low3 (iland .u64 (ishr .u64 ranks 18) 7)))
    (updB U 6 (bif iland .u64 (ishr .u64 lines 6) 1 == 1 then true else U 6)) (updB W 6 (bif iland .u64 (ishr .u64 lines 6) 1 == 1 then (W 6 || true) else W 6)) none' A B t0 t1 := by
  unfold srcS wrS
  rw [wr_6, ln_6, jn_6]
theorem wr_7 (P : Nat → Int) (U W A B : Nat → Bool) (t0 t1 x : Int) : g7 (stf P U W none' A B t0 t1 ++ [.i 28, .i 4, .i x]) = .b true :: .b true :: stf (updI P 7 (low3 x)) U W none' A B t0 t1 := by kernel_rfl
theorem ln_7 (P : Nat → Int) (U W A B : Nat → Bool) (t0 t1 : Int) : lnS 7 (.b true :: .b true :: stf P U W none' A B t0 t1) = .b true :: .b true :: stf P (updB U 7 true) (updB W 7 (W 7 || true)) none' A B t0 t1 := by kernel_rfl
theorem jn_7 (b : Bool) (P : Nat → Int) (U W A B : Nat → Bool) (t0 t1 : Int) : joinC b (.b true :: .b true :: stf P (updB U 7 true) (updB W 7 (W 7 || true)) none' A B t0 t1) (.b true :: .b true :: stf P U W none' A B t0 t1) =
    stf P (updB U 7 (bif b then true else U 7)) (updB W 7 (bif b then (W 7 || true) else W 7)) none' A B t0 t1 := by cases b <;> kernel_rfl
theorem src_7 (ranks lines : Int) (P : Nat → Int) (U W A B : Nat → Bool) (t0 t1 : Int) : srcS 7 28 21 ranks lines (stf P U W none' A B t0 t1) = stf (updI P 7 (low3 (iland .u64 (ishr .u64 ranks 21) 7)))
    (updB U 7 (bif iland .u64 (ishr .u64 lines 7) 1 == 1 then true else U 7)) (updB W 7 (bif iland .u64 (ishr .u64 lines 7) 1 == 1 then (W 7 || true) else W 7)) none' A B t0 t1 := by
  unfold srcS wrS
  rw [wr_7, ln_7, jn_7]
theorem wr_8 (P : Nat → Int) (U W A B : Nat → Bool) (t0 t1 x : Int) : g7 (stf P U W none' A B t0 t1 ++ [.i 32, .i 4, .i x]) = .b true :: .b true :: stf (updI P 8 (low3 x)) U W none' A B t0 t1 := by kernel_rfl
theorem ln_8 (P : Nat → Int) (U W A B : Nat → Bool) (t0 t1 : Int) : lnS 8 (.b true :: .b true :: stf P U W none' A B t0 t1) = .b true :: .b true :: stf P (updB U 8 true) (updB W 8 (W 8 || true)) none' A B t0 t1 := by kernel_rfl
theorem jn_8 (b : Bool) (P : Nat → Int) (U W A B : Nat → Bool) (t0 t1 : Int) : joinC b (.b true :: .b true :: stf P (updB U 8 true) (updB W 8 (W 8 || true)) none' A B t0 t1) (.b true :: .b true :: stf P U W none' A B t0 t1) =
    stf P (updB U 8 (bif b then true else U 8)) (updB W 8 (bif b then (W 8 || true) else W 8)) none' A B t0 t1 := by cases b <;> kernel_rfl
theorem src_8 (ranks lines : Int) (P : Nat → Int) (U W A B : Nat → Bool) (t0 t1 : Int) : srcS 8 32 24 ranks lines (stf P U W none' A B t0 t1) = stf (updI P 8 (low3 (iland .u64 (ishr .u64 ranks 24) 7)))
    (updB U 8 (bif iland .u64 (ishr .u64 lines 8) 1 == 1 then true else U 8)) (updB W 8 (bif iland .u64 (ishr .u64 lines 8) 1 == 1 then (W 8 || true) else W 8)) none' A B t0 t1 := by
  unfold srcS wrS
  rw [wr_8, ln_8, jn_8]
noncomputable def srcn (ranks lines : Int) (cells : List DV) : Nat → List DV
  | 0 => cells
  | 1 => cells
  | 2 => (srcS 1 4 3 ranks lines cells)
  | 3 => (srcS 2 8 6 ranks lines (srcS 1 4 3 ranks lines cells))
  | 4 => (srcS 3 12 9 ranks lines (srcS 2 8 6 ranks lines (srcS 1 4 3 ranks lines cells)))
  | 5 => (srcS 4 16 12 ranks lines (srcS 3 12 9 ranks lines (srcS 2 8 6 ranks lines (srcS 1 4 3 ranks lines cells))))
  | 6 => (srcS 5 20 15 ranks lines (srcS 4 16 12 ranks lines (srcS 3 12 9 ranks lines (srcS 2 8 6 ranks lines (srcS 1 4 3 ranks lines cells)))))
  | 7 => (srcS 6 24 18 ranks lines (srcS 5 20 15 ranks lines (srcS 4 16 12 ranks lines (srcS 3 12 9 ranks lines (srcS 2 8 6 ranks lines (srcS 1 4 3 ranks lines cells))))))
  | 8 => (srcS 7 28 21 ranks lines (srcS 6 24 18 ranks lines (srcS 5 20 15 ranks lines (srcS 4 16 12 ranks lines (srcS 3 12 9 ranks lines (srcS 2 8 6 ranks lines (srcS 1 4 3 ranks lines cells)))))))
  | _ => []
noncomputable def owe4 (ranks lines on bar c : Int) (cl : Nat → List DV) (l : List DV) : Bool :=
  [ow [] p5, ow [(!(!r5_0), true)] (dget (g7 (segD (g6 []) 0 56 ++ [.i (IntKind.wrap .u64 (8192 + IntKind.wrap .u64 (128 * c))), .i 4, .i on])) 0).toB,
  ow [(!(!r5_0), true)] (dget (g7 (segD (g7 (segD (g6 []) 0 56 ++ [.i (IntKind.wrap .u64 (8192 + IntKind.wrap .u64 (128 * c))), .i 4, .i on])) 2 56 ++ [.i (IntKind.wrap .u64 (2097152 + IntKind.wrap .u64 (4096 * c))), .i 4, .i (iland .u64 bar 7)])) 0).toB,
  ow [(!(!r5_0), true)] (dget (wrS 4 3 ranks (cl 1)) 0).toB,
  ow [(!(!r5_0), true), (iland .u64 (ishr .u64 lines 1) 1 == 1, true)] (dget (lnS 1 (wrS 4 3 ranks (cl 1))) 0).toB,
  ow [(!(!r5_0), true)] (dget (wrS 8 6 ranks (cl 2)) 0).toB,
  ow [(!(!r5_0), true), (iland .u64 (ishr .u64 lines 2) 1 == 1, true)] (dget (lnS 2 (wrS 8 6 ranks (cl 2))) 0).toB,
  ow [(!(!r5_0), true)] (dget (wrS 12 9 ranks (cl 3)) 0).toB,
  ow [(!(!r5_0), true), (iland .u64 (ishr .u64 lines 3) 1 == 1, true)] (dget (lnS 3 (wrS 12 9 ranks (cl 3))) 0).toB,
  ow [(!(!r5_0), true)] (dget (wrS 16 12 ranks (cl 4)) 0).toB,
  ow [(!(!r5_0), true), (iland .u64 (ishr .u64 lines 4) 1 == 1, true)] (dget (lnS 4 (wrS 16 12 ranks (cl 4))) 0).toB,
  ow [(!(!r5_0), true)] (dget (wrS 20 15 ranks (cl 5)) 0).toB,
  ow [(!(!r5_0), true), (iland .u64 (ishr .u64 lines 5) 1 == 1, true)] (dget (lnS 5 (wrS 20 15 ranks (cl 5))) 0).toB,
  ow [(!(!r5_0), true)] (dget (wrS 24 18 ranks (cl 6)) 0).toB,
  ow [(!(!r5_0), true), (iland .u64 (ishr .u64 lines 6) 1 == 1, true)] (dget (lnS 6 (wrS 24 18 ranks (cl 6))) 0).toB,
  ow [(!(!r5_0), true)] (dget (wrS 28 21 ranks (cl 7)) 0).toB,
  ow [(!(!r5_0), true), (iland .u64 (ishr .u64 lines 7) 1 == 1, true)] (dget (lnS 7 (wrS 28 21 ranks (cl 7))) 0).toB,
  ow [(!(!r5_0), true)] (dget (wrS 32 24 ranks (cl 8)) 0).toB,
  ow [(!(!r5_0), true), (iland .u64 (ishr .u64 lines 8) 1 == 1, true)] (dget (lnS 8 (wrS 32 24 ranks (cl 8))) 0).toB,
  ow [(!(!r5_0), true)] (dget l 0).toB, ow [(!(!r5_0), true), (!((dget l 1).toI == 0), true)] (dget (cl4 c l) 0).toB, ow [(!(!r5_0), true), (!((dget l 1).toI == 0), true), ((dget (cl4 c l) 1).toI == 0, true)] (penP (cl4 c l))].all id
theorem p4_eq (ranks lines on bar c : Int) : p4 ranks lines on bar c = owe4 ranks lines on bar (Int.tmod c 2) (srcn ranks lines (pre4 on bar (Int.tmod c 2))) (lp4 ranks lines on (iland .u64 bar 7) (Int.tmod c 2) (lfts ranks lines on) (srcs ranks lines (pre4 on bar (Int.tmod c 2)))) := by kernel_rfl
theorem lp4_eq (ranks lines on bar c left : Int) (P : Nat → Int) (U W V A B : Nat → Bool) (t0 t1 : Int) : lp4 ranks lines on bar c left (stf P U W V A B t0 t1) = wrapG [.i, .b, .i, .i, .i, .i, .b, .b, .b, .b, .b, .i, .b, .b, .b, .b, .b, .i, .b, .b, .b, .b, .b, .i, .b, .b, .b, .b, .b, .i, .b, .b, .b, .b, .b, .i, .b, .b, .b, .b, .b, .i, .b, .b, .b, .b, .b, .i, .b, .b, .b, .b, .b, .i, .b, .b, .b, .b, .b, .i, .i] (loopG W100402 C100402 N100402 T100402 (ds ranks lines on bar c false left 8 0 (stf P U W V A B t0 t1))) := by kernel_rfl
theorem wrap_eq (z : Bool) (a b : Int) (P : Nat → Int) (U W V A B : Nat → Bool) (t0 t1 : Int) : wrapG [.i, .b, .i, .i, .i, .i, .b, .b, .b, .b, .b, .i, .b, .b, .b, .b, .b, .i, .b, .b, .b, .b, .b, .i, .b, .b, .b, .b, .b, .i, .b, .b, .b, .b, .b, .i, .b, .b, .b, .b, .b, .i, .b, .b, .b, .b, .b, .i, .b, .b, .b, .b, .b, .i, .b, .b, .b, .b, .b, .i, .i] (some ([.i 1, .b z, .i 0, .i a, .i b] ++ stf P U W V A B t0 t1)) = .b true :: .i 1 :: .b z :: .i 0 :: .i a :: .i b :: stf P U W V A B t0 t1 := by kernel_rfl
theorem pre_0 (on bar : Int) : pre4 on bar 0 = stf (fun _ => 0) none' none' none' (Af on) none' (low3 (iland .u64 bar 7)) 0 := by kernel_rfl
theorem pbar_0 (on bar : Int) : (dget (g7 (segD (g7 (segD (g6 []) 0 56 ++ [.i (IntKind.wrap .u64 (8192 + IntKind.wrap .u64 (128 * 0))), .i 4, .i on])) 2 56 ++ [.i (IntKind.wrap .u64 (2097152 + IntKind.wrap .u64 (4096 * 0))), .i 4, .i (iland .u64 bar 7)])) 0).toB = true := by kernel_rfl
theorem cl4_0 (z : Bool) (a b : Int) (P : Nat → Int) (U W V A B : Nat → Bool) (t0 t1 : Int) : cl4 0 (.b true :: .i 1 :: .b z :: .i 0 :: .i a :: .i b :: stf P U W V A B t0 t1) = g8 (stf P U W V A B t0 t1 ++ [.i 2097156, .i 4]) := by kernel_rfl
theorem penR_0 (P : Nat → Int) (U W V A B : Nat → Bool) (t0 t1 : Int) : penR (g8 (stf P U W V A B t0 t1 ++ [.i 2097156, .i 4])) = (fun m : Int => r9_0 (P 0) (P 1) (bif decide (m > 0) then (bif m == (1 : Int) then false else W 1) else W 1) (A 1) (B 1) (P 2) (bif decide (m > 0) then (bif m == (2 : Int) then false else W 2) else W 2) (A 2) (B 2) (P 3) (bif decide (m > 0) then (bif m == (3 : Int) then false else W 3) else W 3) (A 3) (B 3) (P 4) (bif decide (m > 0) then (bif m == (4 : Int) then false else W 4) else W 4) (A 4) (B 4) (P 5) (bif decide (m > 0) then (bif m == (5 : Int) then false else W 5) else W 5) (A 5) (B 5) (P 6) (bif decide (m > 0) then (bif m == (6 : Int) then false else W 6) else W 6) (A 6) (B 6) (P 7) (bif decide (m > 0) then (bif m == (7 : Int) then false else W 7) else W 7) (A 7) (B 7) (P 8) (bif decide (m > 0) then (bif m == (8 : Int) then false else W 8) else W 8) (A 8) (B 8) t0 t1) (r14_0 (P 0) (P 1) (W 1) (A 1) (B 1) (P 2) (W 2) (A 2) (B 2) (P 3) (W 3) (A 3) (B 3) (P 4) (W 4) (A 4) (B 4) (P 5) (W 5) (A 5) (B 5) (P 6) (W 6) (A 6) (B 6) (P 7) (W 7) (A 7) (B 7) (P 8) (W 8) (A 8) (B 8) 0) := by kernel_rfl
theorem penP_0 (P : Nat → Int) (U W V A B : Nat → Bool) (t0 t1 : Int) : penP (g8 (stf P U W V A B t0 t1 ++ [.i 2097156, .i 4])) = (fun m : Int => p9 (P 0) (P 1) (bif decide (m > 0) then (bif m == (1 : Int) then false else W 1) else W 1) (A 1) (B 1) (P 2) (bif decide (m > 0) then (bif m == (2 : Int) then false else W 2) else W 2) (A 2) (B 2) (P 3) (bif decide (m > 0) then (bif m == (3 : Int) then false else W 3) else W 3) (A 3) (B 3) (P 4) (bif decide (m > 0) then (bif m == (4 : Int) then false else W 4) else W 4) (A 4) (B 4) (P 5) (bif decide (m > 0) then (bif m == (5 : Int) then false else W 5) else W 5) (A 5) (B 5) (P 6) (bif decide (m > 0) then (bif m == (6 : Int) then false else W 6) else W 6) (A 6) (B 6) (P 7) (bif decide (m > 0) then (bif m == (7 : Int) then false else W 7) else W 7) (A 7) (B 7) (P 8) (bif decide (m > 0) then (bif m == (8 : Int) then false else W 8) else W 8) (A 8) (B 8)) (r14_0 (P 0) (P 1) (W 1) (A 1) (B 1) (P 2) (W 2) (A 2) (B 2) (P 3) (W 3) (A 3) (B 3) (P 4) (W 4) (A 4) (B 4) (P 5) (W 5) (A 5) (B 5) (P 6) (W 6) (A 6) (B 6) (P 7) (W 7) (A 7) (B 7) (P 8) (W 8) (A 8) (B 8) 0) := by kernel_rfl
theorem pre_1 (on bar : Int) : pre4 on bar 1 = stf (fun _ => 0) none' none' none' none' (Af on) 0 (low3 (iland .u64 bar 7)) := by kernel_rfl
theorem pbar_1 (on bar : Int) : (dget (g7 (segD (g7 (segD (g6 []) 0 56 ++ [.i (IntKind.wrap .u64 (8192 + IntKind.wrap .u64 (128 * 1))), .i 4, .i on])) 2 56 ++ [.i (IntKind.wrap .u64 (2097152 + IntKind.wrap .u64 (4096 * 1))), .i 4, .i (iland .u64 bar 7)])) 0).toB = true := by kernel_rfl
theorem cl4_1 (z : Bool) (a b : Int) (P : Nat → Int) (U W V A B : Nat → Bool) (t0 t1 : Int) : cl4 1 (.b true :: .i 1 :: .b z :: .i 0 :: .i a :: .i b :: stf P U W V A B t0 t1) = g8 (stf P U W V A B t0 t1 ++ [.i 2101252, .i 4]) := by kernel_rfl
theorem penR_1 (P : Nat → Int) (U W V A B : Nat → Bool) (t0 t1 : Int) : penR (g8 (stf P U W V A B t0 t1 ++ [.i 2101252, .i 4])) = (fun m : Int => r9_0 (P 0) (P 1) (bif decide (m > 0) then (bif m == (1 : Int) then false else W 1) else W 1) (A 1) (B 1) (P 2) (bif decide (m > 0) then (bif m == (2 : Int) then false else W 2) else W 2) (A 2) (B 2) (P 3) (bif decide (m > 0) then (bif m == (3 : Int) then false else W 3) else W 3) (A 3) (B 3) (P 4) (bif decide (m > 0) then (bif m == (4 : Int) then false else W 4) else W 4) (A 4) (B 4) (P 5) (bif decide (m > 0) then (bif m == (5 : Int) then false else W 5) else W 5) (A 5) (B 5) (P 6) (bif decide (m > 0) then (bif m == (6 : Int) then false else W 6) else W 6) (A 6) (B 6) (P 7) (bif decide (m > 0) then (bif m == (7 : Int) then false else W 7) else W 7) (A 7) (B 7) (P 8) (bif decide (m > 0) then (bif m == (8 : Int) then false else W 8) else W 8) (A 8) (B 8) t0 t1) (r14_0 (P 0) (P 1) (W 1) (A 1) (B 1) (P 2) (W 2) (A 2) (B 2) (P 3) (W 3) (A 3) (B 3) (P 4) (W 4) (A 4) (B 4) (P 5) (W 5) (A 5) (B 5) (P 6) (W 6) (A 6) (B 6) (P 7) (W 7) (A 7) (B 7) (P 8) (W 8) (A 8) (B 8) 1) := by kernel_rfl
theorem penP_1 (P : Nat → Int) (U W V A B : Nat → Bool) (t0 t1 : Int) : penP (g8 (stf P U W V A B t0 t1 ++ [.i 2101252, .i 4])) = (fun m : Int => p9 (P 0) (P 1) (bif decide (m > 0) then (bif m == (1 : Int) then false else W 1) else W 1) (A 1) (B 1) (P 2) (bif decide (m > 0) then (bif m == (2 : Int) then false else W 2) else W 2) (A 2) (B 2) (P 3) (bif decide (m > 0) then (bif m == (3 : Int) then false else W 3) else W 3) (A 3) (B 3) (P 4) (bif decide (m > 0) then (bif m == (4 : Int) then false else W 4) else W 4) (A 4) (B 4) (P 5) (bif decide (m > 0) then (bif m == (5 : Int) then false else W 5) else W 5) (A 5) (B 5) (P 6) (bif decide (m > 0) then (bif m == (6 : Int) then false else W 6) else W 6) (A 6) (B 6) (P 7) (bif decide (m > 0) then (bif m == (7 : Int) then false else W 7) else W 7) (A 7) (B 7) (P 8) (bif decide (m > 0) then (bif m == (8 : Int) then false else W 8) else W 8) (A 8) (B 8)) (r14_0 (P 0) (P 1) (W 1) (A 1) (B 1) (P 2) (W 2) (A 2) (B 2) (P 3) (W 3) (A 3) (B 3) (P 4) (W 4) (A 4) (B 4) (P 5) (W 5) (A 5) (B 5) (P 6) (W 6) (A 6) (B 6) (P 7) (W 7) (A 7) (B 7) (P 8) (W 8) (A 8) (B 8) 1) := by kernel_rfl
theorem fixed_ok : p5 = true ∧ r5_0 = true := ⟨by kernel_rfl, by kernel_rfl⟩
end Go.Proofs.Ythlbgkhbebffaaa

namespace Go.Proofs.Ythlbgkhbebffaaa
open Go Go.Sx
set_option maxRecDepth 100000
set_option maxHeartbeats 1000000

theorem stf_congr {P P' : Nat → Int} {U W W' V A B : Nat → Bool} {t0 t1 : Int} (h : ∀ n, n ≤ 8 → P n = P' n) (hw : ∀ n, n ≤ 8 → W n = W' n) : stf P U W V A B t0 t1 = stf P' U W' V A B t0 t1 := by
  unfold stf
  rw [h 0 (by decide), hw 0 (by decide), h 1 (by decide), hw 1 (by decide), h 2 (by decide), hw 2 (by decide), h 3 (by decide), hw 3 (by decide), h 4 (by decide), hw 4 (by decide), h 5 (by decide), hw 5 (by decide), h 6 (by decide), hw 6 (by decide), h 7 (by decide), hw 7 (by decide), h 8 (by decide), hw 8 (by decide)]
theorem low3_id (y : Int) : low3 (iland .u64 y 7) = iland .u64 y 7 := by
  obtain ⟨h0, h1⟩ := and7 y
  generalize iland .u64 y 7 = x at *
  obtain rfl | rfl | rfl | rfl | rfl | rfl | rfl | rfl : x = 0 ∨ x = 1 ∨ x = 2 ∨ x = 3 ∨ x = 4 ∨ x = 5 ∨ x = 6 ∨ x = 7 := by omega
  all_goals decide +kernel
section
variable (ranks lines on : Int)
theorem lft_g {n l : Nat} (hl : l ≤ 100) : lftS (n : Int) ((3 * n : Nat) : Int) ranks lines on (l : Int) = ((l + (el ranks lines on n).toNat : Nat) : Int) := by
  unfold lftS el lb rk
  have e : IntKind.wrap .i64 ((l : Int) + 1) = ((l + 1 : Nat) : Int) := by rw [wrap_i64_of (by omega) (by omega)]; rfl
  rw [e]
  cases (iland .u64 (ishr .u64 lines (n : Int)) 1 == 1) <;> cases (iland .u64 (ishr .u64 on (n : Int)) 1 == 1) <;> cases decide (0 < iland .u64 (ishr .u64 ranks ((3 * n : Nat) : Int)) 7) <;> rfl
theorem lfts_ok : lfts ranks lines on = ((cnt (el ranks lines on) : Nat) : Int) ∧ cnt (el ranks lines on) ≤ 8 := by
  have hb : ∀ b : Bool, b.toNat ≤ 1 := fun b => by cases b <;> decide
  have h1 := hb (el ranks lines on 1)
  have h2 := hb (el ranks lines on 2)
  have h3 := hb (el ranks lines on 3)
  have h4 := hb (el ranks lines on 4)
  have h5 := hb (el ranks lines on 5)
  have h6 := hb (el ranks lines on 6)
  have h7 := hb (el ranks lines on 7)
  have h8 := hb (el ranks lines on 8)
  have e1 : lftS 1 3 ranks lines on ((0 : Nat) : Int) = (((0 + (el ranks lines on 1).toNat) : Nat) : Int) := lft_g ranks lines on (n := 1) (by omega)
  have e2 : lftS 2 6 ranks lines on (((0 + (el ranks lines on 1).toNat) : Nat) : Int) = ((((0 + (el ranks lines on 1).toNat) + (el ranks lines on 2).toNat) : Nat) : Int) := lft_g ranks lines on (n := 2) (by omega)
  have e3 : lftS 3 9 ranks lines on ((((0 + (el ranks lines on 1).toNat) + (el ranks lines on 2).toNat) : Nat) : Int) = (((((0 + (el ranks lines on 1).toNat) + (el ranks lines on 2).toNat) + (el ranks lines on 3).toNat) : Nat) : Int) := lft_g ranks lines on (n := 3) (by omega)
  have e4 : lftS 4 12 ranks lines on (((((0 + (el ranks lines on 1).toNat) + (el ranks lines on 2).toNat) + (el ranks lines on 3).toNat) : Nat) : Int) = ((((((0 + (el ranks lines on 1).toNat) + (el ranks lines on 2).toNat) + (el ranks lines on 3).toNat) + (el ranks lines on 4).toNat) : Nat) : Int) := lft_g ranks lines on (n := 4) (by omega)
  have e5 : lftS 5 15 ranks lines on ((((((0 + (el ranks lines on 1).toNat) + (el ranks lines on 2).toNat) + (el ranks lines on 3).toNat) + (el ranks lines on 4).toNat) : Nat) : Int) = (((((((0 + (el ranks lines on 1).toNat) + (el ranks lines on 2).toNat) + (el ranks lines on 3).toNat) + (el ranks lines on 4).toNat) + (el ranks lines on 5).toNat) : Nat) : Int) := lft_g ranks lines on (n := 5) (by omega)
  have e6 : lftS 6 18 ranks lines on (((((((0 + (el ranks lines on 1).toNat) + (el ranks lines on 2).toNat) + (el ranks lines on 3).toNat) + (el ranks lines on 4).toNat) + (el ranks lines on 5).toNat) : Nat) : Int) = ((((((((0 + (el ranks lines on 1).toNat) + (el ranks lines on 2).toNat) + (el ranks lines on 3).toNat) + (el ranks lines on 4).toNat) + (el ranks lines on 5).toNat) + (el ranks lines on 6).toNat) : Nat) : Int) := lft_g ranks lines on (n := 6) (by omega)
  have e7 : lftS 7 21 ranks lines on ((((((((0 + (el ranks lines on 1).toNat) + (el ranks lines on 2).toNat) + (el ranks lines on 3).toNat) + (el ranks lines on 4).toNat) + (el ranks lines on 5).toNat) + (el ranks lines on 6).toNat) : Nat) : Int) = (((((((((0 + (el ranks lines on 1).toNat) + (el ranks lines on 2).toNat) + (el ranks lines on 3).toNat) + (el ranks lines on 4).toNat) + (el ranks lines on 5).toNat) + (el ranks lines on 6).toNat) + (el ranks lines on 7).toNat) : Nat) : Int) := lft_g ranks lines on (n := 7) (by omega)
  have e8 : lftS 8 24 ranks lines on (((((((((0 + (el ranks lines on 1).toNat) + (el ranks lines on 2).toNat) + (el ranks lines on 3).toNat) + (el ranks lines on 4).toNat) + (el ranks lines on 5).toNat) + (el ranks lines on 6).toNat) + (el ranks lines on 7).toNat) : Nat) : Int) = ((((((((((0 + (el ranks lines on 1).toNat) + (el ranks lines on 2).toNat) + (el ranks lines on 3).toNat) + (el ranks lines on 4).toNat) + (el ranks lines on 5).toNat) + (el ranks lines on 6).toNat) + (el ranks lines on 7).toNat) + (el ranks lines on 8).toNat) : Nat) : Int) := lft_g ranks lines on (n := 8) (by omega)
  have e0 : (0 : Int) = ((0 : Nat) : Int) := rfl
  constructor
  · unfold lfts
    rw [e0, e1, e2, e3, e4, e5, e6, e7, e8]
    unfold cnt
    rw [Nat.zero_add]
  · unfold cnt; omega
theorem srcs_ok (A B : Nat → Bool) (t0 t1 : Int) : ∃ U : Nat → Bool, srcs ranks lines (stf (fun _ => 0) none' none' none' A B t0 t1) = stf (Pf ranks) U (Wf lines none') none' A B t0 t1 ∧
    ∀ k, 1 ≤ k → k ≤ 8 → ∃ (P : Nat → Int) (U W : Nat → Bool), srcn ranks lines (stf (fun _ => 0) none' none' none' A B t0 t1) k = stf P U W none' A B t0 t1 := by
  refine ⟨?U, ?h, ?g⟩
  case g =>
    intro k k1 k2
    obtain rfl | rfl | rfl | rfl | rfl | rfl | rfl | rfl : k = 1 ∨ k = 2 ∨ k = 3 ∨ k = 4 ∨ k = 5 ∨ k = 6 ∨ k = 7 ∨ k = 8 := by omega
    · simp only [srcn]; exact ⟨_, _, _, rfl⟩
    · simp only [srcn]; rw [src_1]; exact ⟨_, _, _, rfl⟩
    · simp only [srcn]; rw [src_1, src_2]; exact ⟨_, _, _, rfl⟩
    · simp only [srcn]; rw [src_1, src_2, src_3]; exact ⟨_, _, _, rfl⟩
    · simp only [srcn]; rw [src_1, src_2, src_3, src_4]; exact ⟨_, _, _, rfl⟩
    · simp only [srcn]; rw [src_1, src_2, src_3, src_4, src_5]; exact ⟨_, _, _, rfl⟩
    · simp only [srcn]; rw [src_1, src_2, src_3, src_4, src_5, src_6]; exact ⟨_, _, _, rfl⟩
    · simp only [srcn]; rw [src_1, src_2, src_3, src_4, src_5, src_6, src_7]; exact ⟨_, _, _, rfl⟩
  case h =>
    unfold srcs
    rw [src_1, src_2, src_3, src_4, src_5, src_6, src_7, src_8]
    refine stf_congr ?_ ?_
    · intro n hn
      obtain rfl | rfl | rfl | rfl | rfl | rfl | rfl | rfl | rfl : n = 0 ∨ n = 1 ∨ n = 2 ∨ n = 3 ∨ n = 4 ∨ n = 5 ∨ n = 6 ∨ n = 7 ∨ n = 8 := by omega
      · rfl
      · show low3 (iland .u64 (ishr .u64 ranks 3) 7) = iland .u64 (ishr .u64 ranks 3) 7; exact low3_id _
      · show low3 (iland .u64 (ishr .u64 ranks 6) 7) = iland .u64 (ishr .u64 ranks 6) 7; exact low3_id _
      · show low3 (iland .u64 (ishr .u64 ranks 9) 7) = iland .u64 (ishr .u64 ranks 9) 7; exact low3_id _
      · show low3 (iland .u64 (ishr .u64 ranks 12) 7) = iland .u64 (ishr .u64 ranks 12) 7; exact low3_id _
      · show low3 (iland .u64 (ishr .u64 ranks 15) 7) = iland .u64 (ishr .u64 ranks 15) 7; exact low3_id _
      · show low3 (iland .u64 (ishr .u64 ranks 18) 7) = iland .u64 (ishr .u64 ranks 18) 7; exact low3_id _
      · show low3 (iland .u64 (ishr .u64 ranks 21) 7) = iland .u64 (ishr .u64 ranks 21) 7; exact low3_id _
      · show low3 (iland .u64 (ishr .u64 ranks 24) 7) = iland .u64 (ishr .u64 ranks 24) 7; exact low3_id _
    · intro n hn
      obtain rfl | rfl | rfl | rfl | rfl | rfl | rfl | rfl | rfl : n = 0 ∨ n = 1 ∨ n = 2 ∨ n = 3 ∨ n = 4 ∨ n = 5 ∨ n = 6 ∨ n = 7 ∨ n = 8 := by omega
      · rfl
      · show (bif iland .u64 (ishr .u64 lines 1) 1 == 1 then (false || true) else false) = (true && (iland .u64 (ishr .u64 lines 1) 1 == 1) && !false); cases (iland .u64 (ishr .u64 lines 1) 1 == 1) <;> rfl
      · show (bif iland .u64 (ishr .u64 lines 2) 1 == 1 then (false || true) else false) = (true && (iland .u64 (ishr .u64 lines 2) 1 == 1) && !false); cases (iland .u64 (ishr .u64 lines 2) 1 == 1) <;> rfl
      · show (bif iland .u64 (ishr .u64 lines 3) 1 == 1 then (false || true) else false) = (true && (iland .u64 (ishr .u64 lines 3) 1 == 1) && !false); cases (iland .u64 (ishr .u64 lines 3) 1 == 1) <;> rfl
      · show (bif iland .u64 (ishr .u64 lines 4) 1 == 1 then (false || true) else false) = (true && (iland .u64 (ishr .u64 lines 4) 1 == 1) && !false); cases (iland .u64 (ishr .u64 lines 4) 1 == 1) <;> rfl
      · show (bif iland .u64 (ishr .u64 lines 5) 1 == 1 then (false || true) else false) = (true && (iland .u64 (ishr .u64 lines 5) 1 == 1) && !false); cases (iland .u64 (ishr .u64 lines 5) 1 == 1) <;> rfl
      · show (bif iland .u64 (ishr .u64 lines 6) 1 == 1 then (false || true) else false) = (true && (iland .u64 (ishr .u64 lines 6) 1 == 1) && !false); cases (iland .u64 (ishr .u64 lines 6) 1 == 1) <;> rfl
      · show (bif iland .u64 (ishr .u64 lines 7) 1 == 1 then (false || true) else false) = (true && (iland .u64 (ishr .u64 lines 7) 1 == 1) && !false); cases (iland .u64 (ishr .u64 lines 7) 1 == 1) <;> rfl
      · show (bif iland .u64 (ishr .u64 lines 8) 1 == 1 then (false || true) else false) = (true && (iland .u64 (ishr .u64 lines 8) 1 == 1) && !false); cases (iland .u64 (ishr .u64 lines 8) 1 == 1) <;> rfl
end
theorem best_done {ranks lines on : Int} {D : Nat → Bool} (hc : cnt (fun k => el ranks lines on k && !D k) = 0) : best (Pf ranks) (fun k => Wf lines D k && Af on k) = 0 := by
  obtain ⟨i1, i2, i3, i4⟩ := best_inv (Pf ranks) (fun k => Wf lines D k && Af on k)
  refine Classical.byContradiction fun h => ?_
  obtain ⟨c1, c2⟩ := i3 h
  generalize best (Pf ranks) (fun k => Wf lines D k && Af on k) = m at *
  have c1 : (Wf lines D m && Af on m) = true := c1
  have p0 : Pf ranks 0 = 0 := rfl
  have pm : Pf ranks m = rk ranks m := by unfold Pf; rw [if_neg h]
  rw [p0, pm] at c2
  have := cnt_zero hc (k := m) (by omega) i1
  unfold Wf Af at c1
  simp only [Bool.and_eq_true, Bool.not_eq_true'] at c1
  have this : (el ranks lines on m && !D m) = false := this
  unfold el at this
  rw [c1.1.1.2, c1.2.2, decide_eq_true c2, c1.1.2] at this
  cases this
theorem law_at_0 (ranks lines on bar : Int) : owe4 ranks lines on bar 0 (srcn ranks lines (pre4 on bar 0)) (lp4 ranks lines on (iland .u64 bar 7) 0 (lfts ranks lines on) (srcs ranks lines (pre4 on bar 0))) = true ∧
    (!(!r5_0) && fin4 0 (lp4 ranks lines on (iland .u64 bar 7) 0 (lfts ranks lines on) (srcs ranks lines (pre4 on bar 0)))) = true := by
  obtain ⟨x1, x2⟩ := fixed_ok
  have hpre := pre_0 on bar
  rw [low3_id] at hpre
  obtain ⟨U, s1, s2⟩ := srcs_ok ranks lines (Af on) none' (iland .u64 bar 7) 0
  obtain ⟨f1, f2⟩ := lfts_ok ranks lines on
  obtain ⟨b0, b7⟩ := and7 bar
  obtain ⟨D, la, be, g1, g2⟩ := loop_0 (ranks := ranks) (lines := lines) (on := on) (bar := iland .u64 bar 7) (U := U) (z := false) (cnt (el ranks lines on)) none' 8 0
    (by congr 1; funext k; show (el ranks lines on k && !false) = _; rw [Bool.not_false, Bool.and_true]) f2 (fun k k1 k2 ke _ => .inl (by have := (and7 (ishr .u64 ranks ((3 * k : Nat) : Int))).2; unfold rk; omega))
  have hl : lp4 ranks lines on (iland .u64 bar 7) 0 (lfts ranks lines on) (srcs ranks lines (pre4 on bar 0)) = .b true :: .i 1 :: .b false :: .i 0 :: .i la :: .i be :: stf (Pf ranks) U (Wf lines D) D (Af on) none' (iland .u64 bar 7) 0 := by
    rw [hpre, s1, f1, lp4_eq, g1, wrap_eq]
  rw [hl]
  obtain ⟨q1, q2⟩ := r14_0ok (Pf ranks) (Wf lines D) (Af on) none'
  obtain ⟨q3, q4⟩ := r9_ok (Pf ranks) (Wf lines D) (Af on) none' (iland .u64 bar 7) 0
  have hb : best (Pf ranks) (fun k => Wf lines D k && Af on k) = 0 := best_done g2
  rw [hb] at q1
  have q1 : r14_0 (Pf ranks 0) (Pf ranks 1) (Wf lines D 1) ((Af on) 1) (none' 1) (Pf ranks 2) (Wf lines D 2) ((Af on) 2) (none' 2) (Pf ranks 3) (Wf lines D 3) ((Af on) 3) (none' 3) (Pf ranks 4) (Wf lines D 4) ((Af on) 4) (none' 4) (Pf ranks 5) (Wf lines D 5) ((Af on) 5) (none' 5) (Pf ranks 6) (Wf lines D 6) ((Af on) 6) (none' 6) (Pf ranks 7) (Wf lines D 7) ((Af on) 7) (none' 7) (Pf ranks 8) (Wf lines D 8) ((Af on) 8) (none' 8) 0 = 0 := q1
  rw [pend_0 (bar := iland .u64 bar 7), hb] at q3
  have p0 : decide (Pf ranks 0 > iland .u64 bar 7) = false := decide_eq_false (by have : Pf ranks 0 = 0 := rfl; omega)
  rw [p0] at q3
  have w0 : IntKind.wrap .u64 0 = 0 := by decide
  have hc := cl4_0 false la be (Pf ranks) U (Wf lines D) D (Af on) none' (iland .u64 bar 7) 0
  have hn := clm_0 (Pf ranks) U (Wf lines D) D (Af on) none' (iland .u64 bar 7) 0
  rw [q1, w0] at hn
  have hr := penR_0 (Pf ranks) U (Wf lines D) D (Af on) none' (iland .u64 bar 7) 0
  have hp := penP_0 (Pf ranks) U (Wf lines D) D (Af on) none' (iland .u64 bar 7) 0
  rw [q1] at hr hp
  have hr : penR (g8 (stf (Pf ranks) U (Wf lines D) D (Af on) none' (iland .u64 bar 7) 0 ++ [.i 2097156, .i 4])) = 0 := hr.trans q3
  have hp : penP (g8 (stf (Pf ranks) U (Wf lines D) D (Af on) none' (iland .u64 bar 7) 0 ++ [.i 2097156, .i 4])) = true := hp.trans q4
  have ho : (dget (g8 (stf (Pf ranks) U (Wf lines D) D (Af on) none' (iland .u64 bar 7) 0 ++ [.i 2097156, .i 4])) 0).toB = true := by
    have h := claimp_0 (Pf ranks) U (Wf lines D) D (Af on) none' (iland .u64 bar 7) 0
    dsimp only at h
    rw [q1, q2] at h
    exact h.trans rfl
  constructor
  · have hwr : ∀ k, 1 ≤ k → k ≤ 8 → ∃ (P : Nat → Int) (U W : Nat → Bool), srcn ranks lines (pre4 on bar 0) k = stf P U W none' (Af on) none' (iland .u64 bar 7) 0 := fun k k1 k2 => by rw [hpre]; exact s2 k k1 k2
    have w1 : (dget (wrS 4 3 ranks (srcn ranks lines (pre4 on bar 0) 1)) 0).toB = true ∧ (dget (lnS 1 (wrS 4 3 ranks (srcn ranks lines (pre4 on bar 0) 1))) 0).toB = true := by
      obtain ⟨P, U, W, h⟩ := hwr 1 (by decide) (by decide)
      rw [h]; unfold wrS; rw [wr_1, ln_1]; exact ⟨rfl, rfl⟩
    have w2 : (dget (wrS 8 6 ranks (srcn ranks lines (pre4 on bar 0) 2)) 0).toB = true ∧ (dget (lnS 2 (wrS 8 6 ranks (srcn ranks lines (pre4 on bar 0) 2))) 0).toB = true := by
      obtain ⟨P, U, W, h⟩ := hwr 2 (by decide) (by decide)
      rw [h]; unfold wrS; rw [wr_2, ln_2]; exact ⟨rfl, rfl⟩
    have w3 : (dget (wrS 12 9 ranks (srcn ranks lines (pre4 on bar 0) 3)) 0).toB = true ∧ (dget (lnS 3 (wrS 12 9 ranks (srcn ranks lines (pre4 on bar 0) 3))) 0).toB = true := by
      obtain ⟨P, U, W, h⟩ := hwr 3 (by decide) (by decide)
      rw [h]; unfold wrS; rw [wr_3, ln_3]; exact ⟨rfl, rfl⟩
    have w4 : (dget (wrS 16 12 ranks (srcn ranks lines (pre4 on bar 0) 4)) 0).toB = true ∧ (dget (lnS 4 (wrS 16 12 ranks (srcn ranks lines (pre4 on bar 0) 4))) 0).toB = true := by
      obtain ⟨P, U, W, h⟩ := hwr 4 (by decide) (by decide)
      rw [h]; unfold wrS; rw [wr_4, ln_4]; exact ⟨rfl, rfl⟩
    have w5 : (dget (wrS 20 15 ranks (srcn ranks lines (pre4 on bar 0) 5)) 0).toB = true ∧ (dget (lnS 5 (wrS 20 15 ranks (srcn ranks lines (pre4 on bar 0) 5))) 0).toB = true := by
      obtain ⟨P, U, W, h⟩ := hwr 5 (by decide) (by decide)
      rw [h]; unfold wrS; rw [wr_5, ln_5]; exact ⟨rfl, rfl⟩
    have w6 : (dget (wrS 24 18 ranks (srcn ranks lines (pre4 on bar 0) 6)) 0).toB = true ∧ (dget (lnS 6 (wrS 24 18 ranks (srcn ranks lines (pre4 on bar 0) 6))) 0).toB = true := by
      obtain ⟨P, U, W, h⟩ := hwr 6 (by decide) (by decide)
      rw [h]; unfold wrS; rw [wr_6, ln_6]; exact ⟨rfl, rfl⟩
    have w7 : (dget (wrS 28 21 ranks (srcn ranks lines (pre4 on bar 0) 7)) 0).toB = true ∧ (dget (lnS 7 (wrS 28 21 ranks (srcn ranks lines (pre4 on bar 0) 7))) 0).toB = true := by
      obtain ⟨P, U, W, h⟩ := hwr 7 (by decide) (by decide)
      rw [h]; unfold wrS; rw [wr_7, ln_7]; exact ⟨rfl, rfl⟩
    have w8 : (dget (wrS 32 24 ranks (srcn ranks lines (pre4 on bar 0) 8)) 0).toB = true ∧ (dget (lnS 8 (wrS 32 24 ranks (srcn ranks lines (pre4 on bar 0) 8))) 0).toB = true := by
      obtain ⟨P, U, W, h⟩ := hwr 8 (by decide) (by decide)
      rw [h]; unfold wrS; rw [wr_8, ln_8]; exact ⟨rfl, rfl⟩
    have d0 : (dget (.b true :: .i 1 :: .b false :: .i 0 :: .i la :: .i be :: stf (Pf ranks) U (Wf lines D) D (Af on) none' (iland .u64 bar 7) 0) 0).toB = true := rfl
    simp only [owe4, x1, pbar_0, w1.1, w1.2, w2.1, w2.2, w3.1, w3.2, w4.1, w4.2, w5.1, w5.2, w6.1, w6.2, w7.1, w7.2, w8.1, w8.2, d0, hc, ho, hp, ow_t]
    rfl
  · unfold fin4
    rw [hc, hn, hr, x2]
    rfl
theorem law_at_1 (ranks lines on bar : Int) : owe4 ranks lines on bar 1 (srcn ranks lines (pre4 on bar 1)) (lp4 ranks lines on (iland .u64 bar 7) 1 (lfts ranks lines on) (srcs ranks lines (pre4 on bar 1))) = true ∧
    (!(!r5_0) && fin4 1 (lp4 ranks lines on (iland .u64 bar 7) 1 (lfts ranks lines on) (srcs ranks lines (pre4 on bar 1)))) = true := by
  obtain ⟨x1, x2⟩ := fixed_ok
  have hpre := pre_1 on bar
  rw [low3_id] at hpre
  obtain ⟨U, s1, s2⟩ := srcs_ok ranks lines none' (Af on) 0 (iland .u64 bar 7)
  obtain ⟨f1, f2⟩ := lfts_ok ranks lines on
  obtain ⟨b0, b7⟩ := and7 bar
  obtain ⟨D, la, be, g1, g2⟩ := loop_1 (ranks := ranks) (lines := lines) (on := on) (bar := iland .u64 bar 7) (U := U) (z := false) (cnt (el ranks lines on)) none' 8 0
    (by congr 1; funext k; show (el ranks lines on k && !false) = _; rw [Bool.not_false, Bool.and_true]) f2 (fun k k1 k2 ke _ => .inl (by have := (and7 (ishr .u64 ranks ((3 * k : Nat) : Int))).2; unfold rk; omega))
  have hl : lp4 ranks lines on (iland .u64 bar 7) 1 (lfts ranks lines on) (srcs ranks lines (pre4 on bar 1)) = .b true :: .i 1 :: .b false :: .i 0 :: .i la :: .i be :: stf (Pf ranks) U (Wf lines D) D none' (Af on) 0 (iland .u64 bar 7) := by
    rw [hpre, s1, f1, lp4_eq, g1, wrap_eq]
  rw [hl]
  obtain ⟨q1, q2⟩ := r14_1ok (Pf ranks) (Wf lines D) none' (Af on)
  obtain ⟨q3, q4⟩ := r9_ok (Pf ranks) (Wf lines D) none' (Af on) 0 (iland .u64 bar 7)
  have hb : best (Pf ranks) (fun k => Wf lines D k && Af on k) = 0 := best_done g2
  rw [hb] at q1
  have q1 : r14_0 (Pf ranks 0) (Pf ranks 1) (Wf lines D 1) (none' 1) ((Af on) 1) (Pf ranks 2) (Wf lines D 2) (none' 2) ((Af on) 2) (Pf ranks 3) (Wf lines D 3) (none' 3) ((Af on) 3) (Pf ranks 4) (Wf lines D 4) (none' 4) ((Af on) 4) (Pf ranks 5) (Wf lines D 5) (none' 5) ((Af on) 5) (Pf ranks 6) (Wf lines D 6) (none' 6) ((Af on) 6) (Pf ranks 7) (Wf lines D 7) (none' 7) ((Af on) 7) (Pf ranks 8) (Wf lines D 8) (none' 8) ((Af on) 8) 1 = 0 := q1
  rw [pend_1 (bar := iland .u64 bar 7), hb] at q3
  have p0 : decide (Pf ranks 0 > iland .u64 bar 7) = false := decide_eq_false (by have : Pf ranks 0 = 0 := rfl; omega)
  rw [p0] at q3
  have w0 : IntKind.wrap .u64 0 = 0 := by decide
  have hc := cl4_1 false la be (Pf ranks) U (Wf lines D) D none' (Af on) 0 (iland .u64 bar 7)
  have hn := clm_1 (Pf ranks) U (Wf lines D) D none' (Af on) 0 (iland .u64 bar 7)
  rw [q1, w0] at hn
  have hr := penR_1 (Pf ranks) U (Wf lines D) D none' (Af on) 0 (iland .u64 bar 7)
  have hp := penP_1 (Pf ranks) U (Wf lines D) D none' (Af on) 0 (iland .u64 bar 7)
  rw [q1] at hr hp
  have hr : penR (g8 (stf (Pf ranks) U (Wf lines D) D none' (Af on) 0 (iland .u64 bar 7) ++ [.i 2101252, .i 4])) = 0 := hr.trans q3
  have hp : penP (g8 (stf (Pf ranks) U (Wf lines D) D none' (Af on) 0 (iland .u64 bar 7) ++ [.i 2101252, .i 4])) = true := hp.trans q4
  have ho : (dget (g8 (stf (Pf ranks) U (Wf lines D) D none' (Af on) 0 (iland .u64 bar 7) ++ [.i 2101252, .i 4])) 0).toB = true := by
    have h := claimp_1 (Pf ranks) U (Wf lines D) D none' (Af on) 0 (iland .u64 bar 7)
    dsimp only at h
    rw [q1, q2] at h
    exact h.trans rfl
  constructor
  · have hwr : ∀ k, 1 ≤ k → k ≤ 8 → ∃ (P : Nat → Int) (U W : Nat → Bool), srcn ranks lines (pre4 on bar 1) k = stf P U W none' none' (Af on) 0 (iland .u64 bar 7) := fun k k1 k2 => by rw [hpre]; exact s2 k k1 k2
    have w1 : (dget (wrS 4 3 ranks (srcn ranks lines (pre4 on bar 1) 1)) 0).toB = true ∧ (dget (lnS 1 (wrS 4 3 ranks (srcn ranks lines (pre4 on bar 1) 1))) 0).toB = true := by
      obtain ⟨P, U, W, h⟩ := hwr 1 (by decide) (by decide)
      rw [h]; unfold wrS; rw [wr_1, ln_1]; exact ⟨rfl, rfl⟩
    have w2 : (dget (wrS 8 6 ranks (srcn ranks lines (pre4 on bar 1) 2)) 0).toB = true ∧ (dget (lnS 2 (wrS 8 6 ranks (srcn ranks lines (pre4 on bar 1) 2))) 0).toB = true := by
      obtain ⟨P, U, W, h⟩ := hwr 2 (by decide) (by decide)
      rw [h]; unfold wrS; rw [wr_2, ln_2]; exact ⟨rfl, rfl⟩
    have w3 : (dget (wrS 12 9 ranks (srcn ranks lines (pre4 on bar 1) 3)) 0).toB = true ∧ (dget (lnS 3 (wrS 12 9 ranks (srcn ranks lines (pre4 on bar 1) 3))) 0).toB = true := by
      obtain ⟨P, U, W, h⟩ := hwr 3 (by decide) (by decide)
      rw [h]; unfold wrS; rw [wr_3, ln_3]; exact ⟨rfl, rfl⟩
    have w4 : (dget (wrS 16 12 ranks (srcn ranks lines (pre4 on bar 1) 4)) 0).toB = true ∧ (dget (lnS 4 (wrS 16 12 ranks (srcn ranks lines (pre4 on bar 1) 4))) 0).toB = true := by
      obtain ⟨P, U, W, h⟩ := hwr 4 (by decide) (by decide)
      rw [h]; unfold wrS; rw [wr_4, ln_4]; exact ⟨rfl, rfl⟩
    have w5 : (dget (wrS 20 15 ranks (srcn ranks lines (pre4 on bar 1) 5)) 0).toB = true ∧ (dget (lnS 5 (wrS 20 15 ranks (srcn ranks lines (pre4 on bar 1) 5))) 0).toB = true := by
      obtain ⟨P, U, W, h⟩ := hwr 5 (by decide) (by decide)
      rw [h]; unfold wrS; rw [wr_5, ln_5]; exact ⟨rfl, rfl⟩
    have w6 : (dget (wrS 24 18 ranks (srcn ranks lines (pre4 on bar 1) 6)) 0).toB = true ∧ (dget (lnS 6 (wrS 24 18 ranks (srcn ranks lines (pre4 on bar 1) 6))) 0).toB = true := by
      obtain ⟨P, U, W, h⟩ := hwr 6 (by decide) (by decide)
      rw [h]; unfold wrS; rw [wr_6, ln_6]; exact ⟨rfl, rfl⟩
    have w7 : (dget (wrS 28 21 ranks (srcn ranks lines (pre4 on bar 1) 7)) 0).toB = true ∧ (dget (lnS 7 (wrS 28 21 ranks (srcn ranks lines (pre4 on bar 1) 7))) 0).toB = true := by
      obtain ⟨P, U, W, h⟩ := hwr 7 (by decide) (by decide)
      rw [h]; unfold wrS; rw [wr_7, ln_7]; exact ⟨rfl, rfl⟩
    have w8 : (dget (wrS 32 24 ranks (srcn ranks lines (pre4 on bar 1) 8)) 0).toB = true ∧ (dget (lnS 8 (wrS 32 24 ranks (srcn ranks lines (pre4 on bar 1) 8))) 0).toB = true := by
      obtain ⟨P, U, W, h⟩ := hwr 8 (by decide) (by decide)
      rw [h]; unfold wrS; rw [wr_8, ln_8]; exact ⟨rfl, rfl⟩
    have d0 : (dget (.b true :: .i 1 :: .b false :: .i 0 :: .i la :: .i be :: stf (Pf ranks) U (Wf lines D) D none' (Af on) 0 (iland .u64 bar 7)) 0).toB = true := rfl
    simp only [owe4, x1, pbar_1, w1.1, w1.2, w2.1, w2.2, w3.1, w3.2, w4.1, w4.2, w5.1, w5.2, w6.1, w6.2, w7.1, w7.2, w8.1, w8.2, d0, hc, ho, hp, ow_t]
    rfl
  · unfold fin4
    rw [hc, hn, hr, x2]
    rfl
theorem uOf {a : Int} (h : (Lit.int .u64 a).wf = true) : 0 ≤ a := by
  simp [Lit.wf, IntKind.min, IntKind.max, IntKind.signed, IntKind.bits] at h
  omega
theorem law_ranks {ranks lines on bar c : Int} (h : 0 ≤ c) : p4 ranks lines on bar c = true ∧ r4_0 ranks lines on bar c = true := by
  have hm : Int.tmod c 2 = 0 ∨ Int.tmod c 2 = 1 := by rw [Int.tmod_eq_emod_of_nonneg h]; omega
  rw [p4_eq, r4_eq]
  rcases hm with hm | hm
  · rw [hm]; exact law_at_0 ranks lines on bar
  · rw [hm]; exact law_at_1 ranks lines on bar
end Go.Proofs.Ythlbgkhbebffaaa

namespace Go.Proofs.Ythlbgkhbebffaaa
open Go Go.Sx
set_option maxRecDepth 100000
set_option maxHeartbeats 4000000
theorem ev4 : evFn Try.prog S4 2000 Try.f4 s4 = some o4 := by kernel_rfl
theorem ev7 : evFn Try.prog S7 2000 Try.f7 s7 = some o7 := by kernel_rfl
theorem ev5 : evFn Try.prog S5 2000 Try.f5 s5 = some o5 := by kernel_rfl
theorem ev8 : evFn Try.prog S8 2000 Try.f8 s8 = some o8 := by kernel_rfl
theorem ev10 : evFn Try.prog S10 2000 Try.f10 s10 = some o10 := by kernel_rfl
theorem ev14 : evFn Try.prog S14 2000 Try.f14 s14 = some o14 := by kernel_rfl
theorem ev13 : evFn Try.prog S13 2000 Try.f13 s13 = some o13 := by kernel_rfl
theorem ev9 : evFn Try.prog S9 2000 Try.f9 s9 = some o9 := by kernel_rfl
theorem ev11 : evFn Try.prog S11 2000 Try.f11 s11 = some o11 := by kernel_rfl
theorem ev12 : evFn Try.prog S12 2000 Try.f12 s12 = some o12 := by kernel_rfl
theorem ev6 : evFn Try.prog S6 2000 Try.f6 s6 = some o6 := by kernel_rfl
end Go.Proofs.Ythlbgkhbebffaaa

namespace Go.Proofs.Ythlbgkhbebffaaa
open Go Go.Sx
set_option maxRecDepth 100000
set_option maxHeartbeats 4000000
def WI (_ : World) : Prop := True
def gK : Nat := 0
theorem wiStable : Stable WI gK := fun _ _ _ _ h => h


noncomputable def FE : FEnv := fun f => match f with
  | 12 => g12
  | 13 => g13
  | 14 => g14
  | 10 => g10
  | 9 => g9
  | 8 => g8
  | 7 => g7
  | 6 => g6
  | 11 => g11
  | 5 => g5
  | 100402 => g100402
  | 4 => g4
  | _ => fun _ => []



theorem k12 : FnOK Try.prog WI gK 12 s12 g12 :=
  fn_ok (F := FE) wiStable (⟨fun _ _ h => (by cases h), (fun _ _ h => (by cases h))⟩) Try.func12 ev12 (by kernel_rfl) (fun _ h => (by cases h)) fun ds h hp => match ds, h, hp with
    | [d0, d1], _, _ => ⟨by kernel_rfl, nrms_teq (by kernel_rfl) (by kernel_rfl) (by kernel_rfl)⟩
theorem k13 : FnOK Try.prog WI gK 13 s13 g13 :=
  fn_ok (F := FE) wiStable (⟨fun _ _ h => (by cases h), (fun _ _ h => (by cases h))⟩) Try.func13 ev13 (by kernel_rfl) (fun _ h => (by cases h)) fun ds h hp => match ds, h, hp with
    | d0 :: d1 :: d2 :: d3 :: d4 :: d5 :: d6 :: d7 :: d8 :: d9 :: d10 :: d11 :: d12 :: d13 :: d14 :: d15 :: d16 :: d17 :: d18 :: d19 :: d20 :: d21 :: d22 :: d23 :: d24 :: d25 :: d26 :: d27 :: d28 :: d29 :: d30 :: d31 :: d32 :: d33 :: d34 :: d35 :: d36 :: d37 :: d38 :: d39 :: d40 :: d41 :: d42 :: d43 :: d44 :: d45 :: d46 :: d47 :: d48 :: d49 :: d50 :: d51 :: d52 :: d53 :: d54 :: d55 :: d56 :: [], _, hp => ⟨(by kernel_rfl : owesB (outEnv FE s13 o13 (d0 :: d1 :: d2 :: d3 :: d4 :: d5 :: d6 :: d7 :: d8 :: d9 :: d10 :: d11 :: d12 :: d13 :: d14 :: d15 :: d16 :: d17 :: d18 :: d19 :: d20 :: d21 :: d22 :: d23 :: d24 :: d25 :: d26 :: d27 :: d28 :: d29 :: d30 :: d31 :: d32 :: d33 :: d34 :: d35 :: d36 :: d37 :: d38 :: d39 :: d40 :: d41 :: d42 :: d43 :: d44 :: d45 :: d46 :: d47 :: d48 :: d49 :: d50 :: d51 :: d52 :: d53 :: d54 :: d55 :: d56 :: [])) o13.owes = (dget (g13 (d0 :: d1 :: d2 :: d3 :: d4 :: d5 :: d6 :: d7 :: d8 :: d9 :: d10 :: d11 :: d12 :: d13 :: d14 :: d15 :: d16 :: d17 :: d18 :: d19 :: d20 :: d21 :: d22 :: d23 :: d24 :: d25 :: d26 :: d27 :: d28 :: d29 :: d30 :: d31 :: d32 :: d33 :: d34 :: d35 :: d36 :: d37 :: d38 :: d39 :: d40 :: d41 :: d42 :: d43 :: d44 :: d45 :: d46 :: d47 :: d48 :: d49 :: d50 :: d51 :: d52 :: d53 :: d54 :: d55 :: d56 :: [])) 0).toB).trans (hp rfl), nrms_teq (by kernel_rfl) (by kernel_rfl) (by kernel_rfl)⟩
theorem k14 : FnOK Try.prog WI gK 14 s14 g14 :=
  fn_ok (F := FE) wiStable (⟨fun _ _ h => (by cases h), (fun _ _ h => (by cases h))⟩) Try.func14 ev14 (by kernel_rfl) (fun _ h => (by cases h)) fun ds h hp => match ds, h, hp with
    | d0 :: d1 :: d2 :: d3 :: d4 :: d5 :: d6 :: d7 :: d8 :: d9 :: d10 :: d11 :: d12 :: d13 :: d14 :: d15 :: d16 :: d17 :: d18 :: d19 :: d20 :: d21 :: d22 :: d23 :: d24 :: d25 :: d26 :: d27 :: d28 :: d29 :: d30 :: d31 :: d32 :: d33 :: d34 :: d35 :: d36 :: d37 :: d38 :: d39 :: d40 :: d41 :: d42 :: d43 :: d44 :: d45 :: d46 :: d47 :: d48 :: d49 :: d50 :: d51 :: d52 :: d53 :: d54 :: d55 :: d56 :: [], _, hp => ⟨(by kernel_rfl : owesB (outEnv FE s14 o14 (d0 :: d1 :: d2 :: d3 :: d4 :: d5 :: d6 :: d7 :: d8 :: d9 :: d10 :: d11 :: d12 :: d13 :: d14 :: d15 :: d16 :: d17 :: d18 :: d19 :: d20 :: d21 :: d22 :: d23 :: d24 :: d25 :: d26 :: d27 :: d28 :: d29 :: d30 :: d31 :: d32 :: d33 :: d34 :: d35 :: d36 :: d37 :: d38 :: d39 :: d40 :: d41 :: d42 :: d43 :: d44 :: d45 :: d46 :: d47 :: d48 :: d49 :: d50 :: d51 :: d52 :: d53 :: d54 :: d55 :: d56 :: [])) o14.owes = (dget (g14 (d0 :: d1 :: d2 :: d3 :: d4 :: d5 :: d6 :: d7 :: d8 :: d9 :: d10 :: d11 :: d12 :: d13 :: d14 :: d15 :: d16 :: d17 :: d18 :: d19 :: d20 :: d21 :: d22 :: d23 :: d24 :: d25 :: d26 :: d27 :: d28 :: d29 :: d30 :: d31 :: d32 :: d33 :: d34 :: d35 :: d36 :: d37 :: d38 :: d39 :: d40 :: d41 :: d42 :: d43 :: d44 :: d45 :: d46 :: d47 :: d48 :: d49 :: d50 :: d51 :: d52 :: d53 :: d54 :: d55 :: d56 :: [])) 0).toB).trans (hp rfl), nrms_teq (by kernel_rfl) (by kernel_rfl) (by kernel_rfl)⟩
theorem k10 : FnOK Try.prog WI gK 10 s10 g10 :=
  fn_ok (F := FE) wiStable (⟨(fun f s h => by
    simp only [Sigs.get, S10, assoc] at h
    split at h
    · rename_i hg; obtain rfl := Nat.eq_of_beq_eq_true hg; cases h; exact k13
    cases h), (fun _ _ h => (by cases h))⟩) Try.func10 ev10 (by kernel_rfl) (fun _ h => (by cases h)) fun ds h hp => match ds, h, hp with
    | d0 :: d1 :: d2 :: d3 :: d4 :: d5 :: d6 :: d7 :: d8 :: d9 :: d10 :: d11 :: d12 :: d13 :: d14 :: d15 :: d16 :: d17 :: d18 :: d19 :: d20 :: d21 :: d22 :: d23 :: d24 :: d25 :: d26 :: d27 :: d28 :: d29 :: d30 :: d31 :: d32 :: d33 :: d34 :: d35 :: d36 :: d37 :: d38 :: d39 :: d40 :: d41 :: d42 :: d43 :: d44 :: d45 :: d46 :: d47 :: d48 :: d49 :: d50 :: d51 :: d52 :: d53 :: d54 :: d55 :: d56 :: d57 :: [], _, hp => ⟨(by kernel_rfl : owesB (outEnv FE s10 o10 (d0 :: d1 :: d2 :: d3 :: d4 :: d5 :: d6 :: d7 :: d8 :: d9 :: d10 :: d11 :: d12 :: d13 :: d14 :: d15 :: d16 :: d17 :: d18 :: d19 :: d20 :: d21 :: d22 :: d23 :: d24 :: d25 :: d26 :: d27 :: d28 :: d29 :: d30 :: d31 :: d32 :: d33 :: d34 :: d35 :: d36 :: d37 :: d38 :: d39 :: d40 :: d41 :: d42 :: d43 :: d44 :: d45 :: d46 :: d47 :: d48 :: d49 :: d50 :: d51 :: d52 :: d53 :: d54 :: d55 :: d56 :: d57 :: [])) o10.owes = (dget (g10 (d0 :: d1 :: d2 :: d3 :: d4 :: d5 :: d6 :: d7 :: d8 :: d9 :: d10 :: d11 :: d12 :: d13 :: d14 :: d15 :: d16 :: d17 :: d18 :: d19 :: d20 :: d21 :: d22 :: d23 :: d24 :: d25 :: d26 :: d27 :: d28 :: d29 :: d30 :: d31 :: d32 :: d33 :: d34 :: d35 :: d36 :: d37 :: d38 :: d39 :: d40 :: d41 :: d42 :: d43 :: d44 :: d45 :: d46 :: d47 :: d48 :: d49 :: d50 :: d51 :: d52 :: d53 :: d54 :: d55 :: d56 :: d57 :: [])) 0).toB).trans (hp rfl), nrms_teq (by kernel_rfl) (by kernel_rfl) (by kernel_rfl)⟩
theorem k9 : FnOK Try.prog WI gK 9 s9 g9 :=
  fn_ok (F := FE) wiStable (⟨(fun f s h => by
    simp only [Sigs.get, S9, assoc] at h
    split at h
    · rename_i hg; obtain rfl := Nat.eq_of_beq_eq_true hg; cases h; exact k14
    cases h), (fun _ _ h => (by cases h))⟩) Try.func9 ev9 (by kernel_rfl) (fun _ h => (by cases h)) fun ds h hp => match ds, h, hp with
    | d0 :: d1 :: d2 :: d3 :: d4 :: d5 :: d6 :: d7 :: d8 :: d9 :: d10 :: d11 :: d12 :: d13 :: d14 :: d15 :: d16 :: d17 :: d18 :: d19 :: d20 :: d21 :: d22 :: d23 :: d24 :: d25 :: d26 :: d27 :: d28 :: d29 :: d30 :: d31 :: d32 :: d33 :: d34 :: d35 :: d36 :: d37 :: d38 :: d39 :: d40 :: d41 :: d42 :: d43 :: d44 :: d45 :: d46 :: d47 :: d48 :: d49 :: d50 :: d51 :: d52 :: d53 :: d54 :: d55 :: [], _, hp => ⟨(by kernel_rfl : owesB (outEnv FE s9 o9 (d0 :: d1 :: d2 :: d3 :: d4 :: d5 :: d6 :: d7 :: d8 :: d9 :: d10 :: d11 :: d12 :: d13 :: d14 :: d15 :: d16 :: d17 :: d18 :: d19 :: d20 :: d21 :: d22 :: d23 :: d24 :: d25 :: d26 :: d27 :: d28 :: d29 :: d30 :: d31 :: d32 :: d33 :: d34 :: d35 :: d36 :: d37 :: d38 :: d39 :: d40 :: d41 :: d42 :: d43 :: d44 :: d45 :: d46 :: d47 :: d48 :: d49 :: d50 :: d51 :: d52 :: d53 :: d54 :: d55 :: [])) o9.owes = (dget (g9 (d0 :: d1 :: d2 :: d3 :: d4 :: d5 :: d6 :: d7 :: d8 :: d9 :: d10 :: d11 :: d12 :: d13 :: d14 :: d15 :: d16 :: d17 :: d18 :: d19 :: d20 :: d21 :: d22 :: d23 :: d24 :: d25 :: d26 :: d27 :: d28 :: d29 :: d30 :: d31 :: d32 :: d33 :: d34 :: d35 :: d36 :: d37 :: d38 :: d39 :: d40 :: d41 :: d42 :: d43 :: d44 :: d45 :: d46 :: d47 :: d48 :: d49 :: d50 :: d51 :: d52 :: d53 :: d54 :: d55 :: [])) 0).toB).trans (hp rfl), nrms_teq (by kernel_rfl) (by kernel_rfl) (by kernel_rfl)⟩
theorem k8 : FnOK Try.prog WI gK 8 s8 g8 :=
  fn_ok (F := FE) wiStable (⟨(fun f s h => by
    simp only [Sigs.get, S8, assoc] at h
    split at h
    · rename_i hg; obtain rfl := Nat.eq_of_beq_eq_true hg; cases h; exact k12
    split at h
    · rename_i hg; obtain rfl := Nat.eq_of_beq_eq_true hg; cases h; exact k14
    cases h), (fun _ _ h => (by cases h))⟩) Try.func8 ev8 (by kernel_rfl) (fun _ h => (by cases h)) fun ds h hp => match ds, h, hp with
    | d0 :: d1 :: d2 :: d3 :: d4 :: d5 :: d6 :: d7 :: d8 :: d9 :: d10 :: d11 :: d12 :: d13 :: d14 :: d15 :: d16 :: d17 :: d18 :: d19 :: d20 :: d21 :: d22 :: d23 :: d24 :: d25 :: d26 :: d27 :: d28 :: d29 :: d30 :: d31 :: d32 :: d33 :: d34 :: d35 :: d36 :: d37 :: d38 :: d39 :: d40 :: d41 :: d42 :: d43 :: d44 :: d45 :: d46 :: d47 :: d48 :: d49 :: d50 :: d51 :: d52 :: d53 :: d54 :: d55 :: d56 :: d57 :: [], _, hp => ⟨(by kernel_rfl : owesB (outEnv FE s8 o8 (d0 :: d1 :: d2 :: d3 :: d4 :: d5 :: d6 :: d7 :: d8 :: d9 :: d10 :: d11 :: d12 :: d13 :: d14 :: d15 :: d16 :: d17 :: d18 :: d19 :: d20 :: d21 :: d22 :: d23 :: d24 :: d25 :: d26 :: d27 :: d28 :: d29 :: d30 :: d31 :: d32 :: d33 :: d34 :: d35 :: d36 :: d37 :: d38 :: d39 :: d40 :: d41 :: d42 :: d43 :: d44 :: d45 :: d46 :: d47 :: d48 :: d49 :: d50 :: d51 :: d52 :: d53 :: d54 :: d55 :: d56 :: d57 :: [])) o8.owes = (dget (g8 (d0 :: d1 :: d2 :: d3 :: d4 :: d5 :: d6 :: d7 :: d8 :: d9 :: d10 :: d11 :: d12 :: d13 :: d14 :: d15 :: d16 :: d17 :: d18 :: d19 :: d20 :: d21 :: d22 :: d23 :: d24 :: d25 :: d26 :: d27 :: d28 :: d29 :: d30 :: d31 :: d32 :: d33 :: d34 :: d35 :: d36 :: d37 :: d38 :: d39 :: d40 :: d41 :: d42 :: d43 :: d44 :: d45 :: d46 :: d47 :: d48 :: d49 :: d50 :: d51 :: d52 :: d53 :: d54 :: d55 :: d56 :: d57 :: [])) 0).toB).trans (hp rfl), nrms_teq (by kernel_rfl) (by kernel_rfl) (by kernel_rfl)⟩
theorem k7 : FnOK Try.prog WI gK 7 s7 g7 :=
  fn_ok (F := FE) wiStable (⟨(fun f s h => by
    simp only [Sigs.get, S7, assoc] at h
    split at h
    · rename_i hg; obtain rfl := Nat.eq_of_beq_eq_true hg; cases h; exact k12
    split at h
    · rename_i hg; obtain rfl := Nat.eq_of_beq_eq_true hg; cases h; exact k13
    cases h), (fun _ _ h => (by cases h))⟩) Try.func7 ev7 (by kernel_rfl) (fun _ h => (by cases h)) fun ds h hp => match ds, h, hp with
    | d0 :: d1 :: d2 :: d3 :: d4 :: d5 :: d6 :: d7 :: d8 :: d9 :: d10 :: d11 :: d12 :: d13 :: d14 :: d15 :: d16 :: d17 :: d18 :: d19 :: d20 :: d21 :: d22 :: d23 :: d24 :: d25 :: d26 :: d27 :: d28 :: d29 :: d30 :: d31 :: d32 :: d33 :: d34 :: d35 :: d36 :: d37 :: d38 :: d39 :: d40 :: d41 :: d42 :: d43 :: d44 :: d45 :: d46 :: d47 :: d48 :: d49 :: d50 :: d51 :: d52 :: d53 :: d54 :: d55 :: d56 :: d57 :: d58 :: [], _, hp => ⟨(by kernel_rfl : owesB (outEnv FE s7 o7 (d0 :: d1 :: d2 :: d3 :: d4 :: d5 :: d6 :: d7 :: d8 :: d9 :: d10 :: d11 :: d12 :: d13 :: d14 :: d15 :: d16 :: d17 :: d18 :: d19 :: d20 :: d21 :: d22 :: d23 :: d24 :: d25 :: d26 :: d27 :: d28 :: d29 :: d30 :: d31 :: d32 :: d33 :: d34 :: d35 :: d36 :: d37 :: d38 :: d39 :: d40 :: d41 :: d42 :: d43 :: d44 :: d45 :: d46 :: d47 :: d48 :: d49 :: d50 :: d51 :: d52 :: d53 :: d54 :: d55 :: d56 :: d57 :: d58 :: [])) o7.owes = (dget (g7 (d0 :: d1 :: d2 :: d3 :: d4 :: d5 :: d6 :: d7 :: d8 :: d9 :: d10 :: d11 :: d12 :: d13 :: d14 :: d15 :: d16 :: d17 :: d18 :: d19 :: d20 :: d21 :: d22 :: d23 :: d24 :: d25 :: d26 :: d27 :: d28 :: d29 :: d30 :: d31 :: d32 :: d33 :: d34 :: d35 :: d36 :: d37 :: d38 :: d39 :: d40 :: d41 :: d42 :: d43 :: d44 :: d45 :: d46 :: d47 :: d48 :: d49 :: d50 :: d51 :: d52 :: d53 :: d54 :: d55 :: d56 :: d57 :: d58 :: [])) 0).toB).trans (hp rfl), nrms_teq (by kernel_rfl) (by kernel_rfl) (by kernel_rfl)⟩
theorem k6 : FnOK Try.prog WI gK 6 s6 g6 :=
  fn_ok (F := FE) wiStable (⟨fun _ _ h => (by cases h), (fun _ _ h => (by cases h))⟩) Try.func6 ev6 (by kernel_rfl) (fun _ h => (by cases h)) fun ds h hp => match ds, h, hp with
    | [], _, _ => ⟨by kernel_rfl, nrms_teq (by kernel_rfl) (by kernel_rfl) (by kernel_rfl)⟩
theorem k11 : FnOK Try.prog WI gK 11 s11 g11 :=
  fn_ok (F := FE) wiStable (⟨fun _ _ h => (by cases h), (fun _ _ h => (by cases h))⟩) Try.func11 ev11 (by kernel_rfl) (fun _ h => (by cases h)) fun ds h hp => match ds, h, hp with
    | d0 :: d1 :: d2 :: d3 :: d4 :: d5 :: d6 :: d7 :: d8 :: d9 :: d10 :: d11 :: d12 :: d13 :: d14 :: d15 :: d16 :: d17 :: d18 :: d19 :: d20 :: d21 :: d22 :: d23 :: d24 :: d25 :: d26 :: d27 :: d28 :: d29 :: d30 :: d31 :: d32 :: d33 :: d34 :: d35 :: d36 :: d37 :: d38 :: d39 :: d40 :: d41 :: d42 :: d43 :: d44 :: d45 :: d46 :: d47 :: d48 :: d49 :: d50 :: d51 :: d52 :: d53 :: d54 :: d55 :: [], _, _ => ⟨by kernel_rfl, nrms_teq (by kernel_rfl) (by kernel_rfl) (by kernel_rfl)⟩
theorem k5 : FnOK Try.prog WI gK 5 s5 g5 :=
  fn_ok (F := FE) wiStable (⟨(fun f s h => by
    simp only [Sigs.get, S5, assoc] at h
    split at h
    · rename_i hg; obtain rfl := Nat.eq_of_beq_eq_true hg; cases h; exact k6
    split at h
    · rename_i hg; obtain rfl := Nat.eq_of_beq_eq_true hg; cases h; exact k7
    split at h
    · rename_i hg; obtain rfl := Nat.eq_of_beq_eq_true hg; cases h; exact k10
    split at h
    · rename_i hg; obtain rfl := Nat.eq_of_beq_eq_true hg; cases h; exact k8
    split at h
    · rename_i hg; obtain rfl := Nat.eq_of_beq_eq_true hg; cases h; exact k9
    split at h
    · rename_i hg; obtain rfl := Nat.eq_of_beq_eq_true hg; cases h; exact k11
    cases h), (fun _ _ h => (by cases h))⟩) Try.func5 ev5 (by kernel_rfl) (fun _ h => (by cases h)) fun ds h hp => match ds, h, hp with
    | [], _, hp => ⟨(by kernel_rfl : owesB (outEnv FE s5 o5 []) o5.owes = (dget (g5 []) 0).toB).trans (hp rfl), nrms_teq (by kernel_rfl) (by kernel_rfl) (by kernel_rfl)⟩
end Go.Proofs.Ythlbgkhbebffaaa

namespace Go.Proofs.Ythlbgkhbebffaaa
open Go Go.Sx
set_option maxRecDepth 100000
set_option maxHeartbeats 4000000
theorem hl4_0 : LoopSound FE l4_0 := loop_ok (w := W100402) (c := C100402) (nx := N100402) (out := T100402) [.i, .i, .i, .i, .i, .b, .i, .i, .i, .i, .b, .b, .b, .b, .b, .i, .b, .b, .b, .b, .b, .i, .b, .b, .b, .b, .b, .i, .b, .b, .b, .b, .b, .i, .b, .b, .b, .b, .b, .i, .b, .b, .b, .b, .b, .i, .b, .b, .b, .b, .b, .i, .b, .b, .b, .b, .b, .i, .b, .b, .b, .b, .b, .i, .i] (fun ds => by kernel_rfl) rfl (fun ν xs h => match xs, h with | x0 :: x1 :: x2 :: x3 :: x4 :: x5 :: x6 :: x7 :: x8 :: x9 :: x10 :: x11 :: x12 :: x13 :: x14 :: x15 :: x16 :: x17 :: x18 :: x19 :: x20 :: x21 :: x22 :: x23 :: x24 :: x25 :: x26 :: x27 :: x28 :: x29 :: x30 :: x31 :: x32 :: x33 :: x34 :: x35 :: x36 :: x37 :: x38 :: x39 :: x40 :: x41 :: x42 :: x43 :: x44 :: x45 :: x46 :: x47 :: x48 :: x49 :: x50 :: x51 :: x52 :: x53 :: x54 :: x55 :: x56 :: x57 :: x58 :: x59 :: [], _ => by kernel_rfl)
  (fun ν xs h => match xs, h with | x0 :: x1 :: x2 :: x3 :: x4 :: x5 :: x6 :: x7 :: x8 :: x9 :: x10 :: x11 :: x12 :: x13 :: x14 :: x15 :: x16 :: x17 :: x18 :: x19 :: x20 :: x21 :: x22 :: x23 :: x24 :: x25 :: x26 :: x27 :: x28 :: x29 :: x30 :: x31 :: x32 :: x33 :: x34 :: x35 :: x36 :: x37 :: x38 :: x39 :: x40 :: x41 :: x42 :: x43 :: x44 :: x45 :: x46 :: x47 :: x48 :: x49 :: x50 :: x51 :: x52 :: x53 :: x54 :: x55 :: x56 :: x57 :: x58 :: x59 :: [], _ => by kernel_rfl)
  (fun ν xs h => match xs, h with | x0 :: x1 :: x2 :: x3 :: x4 :: x5 :: x6 :: x7 :: x8 :: x9 :: x10 :: x11 :: x12 :: x13 :: x14 :: x15 :: x16 :: x17 :: x18 :: x19 :: x20 :: x21 :: x22 :: x23 :: x24 :: x25 :: x26 :: x27 :: x28 :: x29 :: x30 :: x31 :: x32 :: x33 :: x34 :: x35 :: x36 :: x37 :: x38 :: x39 :: x40 :: x41 :: x42 :: x43 :: x44 :: x45 :: x46 :: x47 :: x48 :: x49 :: x50 :: x51 :: x52 :: x53 :: x54 :: x55 :: x56 :: x57 :: x58 :: x59 :: [], _ => by kernel_rfl)
  (fun ν xs h => match xs, h with | x0 :: x1 :: x2 :: x3 :: x4 :: x5 :: x6 :: x7 :: x8 :: x9 :: x10 :: x11 :: x12 :: x13 :: x14 :: x15 :: x16 :: x17 :: x18 :: x19 :: x20 :: x21 :: x22 :: x23 :: x24 :: x25 :: x26 :: x27 :: x28 :: x29 :: x30 :: x31 :: x32 :: x33 :: x34 :: x35 :: x36 :: x37 :: x38 :: x39 :: x40 :: x41 :: x42 :: x43 :: x44 :: x45 :: x46 :: x47 :: x48 :: x49 :: x50 :: x51 :: x52 :: x53 :: x54 :: x55 :: x56 :: x57 :: x58 :: x59 :: [], _ => by kernel_rfl)
theorem hl4 : ∀ l ∈ o4.loops, LoopSound FE l := show ∀ l ∈ [l4_0], LoopSound FE l from
  List.forall_mem_cons.2 ⟨hl4_0, fun _ h => (by cases h)⟩
end Go.Proofs.Ythlbgkhbebffaaa

namespace Go.Sx
set_option maxRecDepth 100000

inductive Run where
  | one (x : Node)
  | run (f : Nat) (ar : List A) (j k : Nat)
def flatR (n : Nat) : List Run → Em
  | [] => []
  | .one x :: r => (n, x) :: flatR (n + 1) r
  | .run f ar j k :: r => List.append (callsAt n f ar j k) (flatR (n + k) r)
def lookC : List (Nat × List DV) → Nat → DV
  | [], _ => default
  | (st, vs) :: r, i => bif Nat.ble st i then vs.getD (i - st) default else lookC r i
def callVals (l : List DV) (j : Nat) : Nat → List DV
  | 0 => []
  | k + 1 => l.getD j default :: callVals l (j + 1) k
def evalR (F : FEnv) : List Run → List (Nat × List DV) → Nat → List (Nat × List DV)
  | [], cs, _ => cs
  | .one x :: r, cs, n => evalR F r ((n, [denNode F (lookC cs) x]) :: cs) (n + 1)
  | .run f ar j k :: r, cs, n => evalR F r ((n, callVals (F f (ar.map (A.den (lookC cs)))) j k) :: cs) (n + k)

theorem lookC_old {st : Nat} {vs : List DV} {cs : List (Nat × List DV)} {i : Nat} (h : i < st) : lookC ((st, vs) :: cs) i = lookC cs i := by
  simp only [lookC]
  have : Nat.ble st i = false := by
    cases hb : Nat.ble st i
    · rfl
    · have := Nat.le_of_ble_eq_true hb; omega
  rw [this, cond_false]
theorem lookC_new {st : Nat} {vs : List DV} {cs : List (Nat × List DV)} {i : Nat} (h : st ≤ i) : lookC ((st, vs) :: cs) i = vs.getD (i - st) default := by
  simp only [lookC]
  have : Nat.ble st i = true := Nat.ble_eq_true_of_le h
  rw [this, cond_true]
theorem callVals_get {l : List DV} : ∀ {j k i : Nat}, i < k → (callVals l j k).getD i default = l.getD (j + i) default
  | _, 0, _, h => by omega
  | j, k + 1, 0, _ => rfl
  | j, k + 1, i + 1, h => by
    have := callVals_get (l := l) (j := j + 1) (k := k) (i := i) (by omega)
    have e : j + (i + 1) = j + 1 + i := by omega
    rw [e]; exact this
theorem wf_calls {f : Nat} {ar : List A} {r : Em} : ∀ {n j k : Nat}, wfNodes n (List.append (callsAt n f ar j k) r) = true → wfNodes (n + k) r = true ∧ (0 < k → ar.all (A.below n) = true)
  | n, j, 0, h => ⟨h, fun hk => by omega⟩
  | n, j, k + 1, h => by
    have h : (Nat.beq n n && (Node.call f ar j).refs n && wfNodes (n + 1) (List.append (callsAt (n + 1) f ar (j + 1) k) r)) = true := h
    simp only [Bool.and_eq_true] at h
    have h2 := (wf_calls h.2).1
    have e : n + 1 + k = n + (k + 1) := by omega
    rw [e] at h2
    exact ⟨h2, fun _ => h.1.2⟩
theorem mem_calls {f : Nat} {ar : List A} {p : Nat × Node} : ∀ {n j k : Nat}, p ∈ callsAt n f ar j k → ∃ i, i < k ∧ p = (n + i, .call f ar (j + i))
  | _, _, 0, h => by cases h
  | n, j, k + 1, h => by
    rcases List.mem_cons.1 h with rfl | h
    · exact ⟨0, by omega, rfl⟩
    · obtain ⟨i, h1, h2⟩ := mem_calls h
      exact ⟨i + 1, by omega, by rw [h2]; congr 1; omega; congr 1; omega⟩
theorem evalR_spec {F : FEnv} : ∀ {rs : List Run} {cs : List (Nat × List DV)} {n : Nat}, wfNodes n (flatR n rs) = true →
    (∀ i, i < n → lookC (evalR F rs cs n) i = lookC cs i) ∧ Sat F (lookC (evalR F rs cs n)) (flatR n rs)
  | [], cs, n, _ => ⟨fun _ _ => rfl, fun p hp => by cases hp⟩
  | .one x :: r, cs, n, h => by
    have h : (Nat.beq n n && x.refs n && wfNodes (n + 1) (flatR (n + 1) r)) = true := h
    simp only [Bool.and_eq_true] at h
    obtain ⟨e2, e3⟩ := evalR_spec (F := F) (rs := r) (cs := (n, [denNode F (lookC cs) x]) :: cs) (n := n + 1) h.2
    have old : ∀ i, i < n → lookC (evalR F (.one x :: r) cs n) i = lookC cs i := fun i hi => by
      rw [← lookC_old (st := n) (vs := [denNode F (lookC cs) x]) (cs := cs) hi, ← e2 i (by omega)]; rfl
    refine ⟨old, fun p hp => ?_⟩
    rcases List.mem_cons.1 hp with rfl | hp
    · have e4 : lookC (evalR F (.one x :: r) cs n) n = denNode F (lookC cs) x := by
        have := e2 n (by omega)
        rw [lookC_new (Nat.le_refl n), Nat.sub_self] at this
        exact this
      exact e4.trans (denNode_congr (fun i hi => old i hi) h.1.2).symm
    · exact e3 p hp
  | .run f ar j k :: r, cs, n, h => by
    obtain ⟨h1, h2⟩ := wf_calls (r := flatR (n + k) r) h
    obtain ⟨e2, e3⟩ := evalR_spec (F := F) (rs := r) (cs := (n, callVals (F f (ar.map (A.den (lookC cs)))) j k) :: cs) (n := n + k) h1
    have old : ∀ i, i < n → lookC (evalR F (.run f ar j k :: r) cs n) i = lookC cs i := fun i hi => by
      rw [← lookC_old (st := n) (vs := callVals (F f (ar.map (A.den (lookC cs)))) j k) (cs := cs) hi, ← e2 i (by omega)]; rfl
    refine ⟨old, fun p hp => ?_⟩
    rcases List.mem_append.1 hp with hp | hp
    · obtain ⟨i, hi, rfl⟩ := mem_calls hp
      have hb := h2 (by omega)
      have e4 : lookC (evalR F (.run f ar j k :: r) cs n) (n + i) = (F f (ar.map (A.den (lookC cs)))).getD (j + i) default := by
        have := e2 (n + i) (by omega)
        rw [lookC_new (by omega), Nat.add_sub_cancel_left, callVals_get hi] at this
        exact this
      have e5 : denNode F (lookC (evalR F (.run f ar j k :: r) cs n)) (.call f ar (j + i)) = denNode F (lookC cs) (.call f ar (j + i)) :=
        denNode_congr (n := n) (fun i hi => old i hi) hb
      exact e4.trans e5.symm
    · exact e3 p hp

def outR (F : FEnv) (sg : Sig) (rs : List Run) (ds : List DV) : Nat → DV := lookC (evalR F rs [(0, ds)] sg.nin)
section
variable {P : Program} {I : World → Prop} {S : Sigs} {F : FEnv} {gK : Nat}
theorem fn_okR {fuel : Nat} {f : FuncId} {fn : Func} {sg : Sig} {out : Out} {G : List DV → List DV} {rs : List Run} (hst : Stable I gK) (hS : SigsOK P I gK S F) (hf : P.funcs[f]? = some fn)
    (hev : evFn P S fuel fn sg = some out) (hwf : wfNodes sg.nin out.nodes = true) (hrs : flatR sg.nin rs = out.nodes) (hlp : ∀ l ∈ out.loops, LoopSound F l)
    (hG : ∀ ds : List DV, ds.length = sg.nin → (sg.need = true → (dget (G ds) 0).toB = true) →
      owesB (outR F sg rs ds) out.owes = true ∧
      TEq sg.ots ((G ds).drop (if sg.need then 1 else 0)) (out.outs.map (A.den (outR F sg rs ds)))) :
    FnOK P I gK f sg G :=
  fn_okE hst hS hf hev hlp fun ds hlen hneed => by
    obtain ⟨howes, houts⟩ := hG ds hlen hneed
    rw [← hrs] at hwf
    obtain ⟨hl2, hsat⟩ := evalR_spec (F := F) (cs := [(0, ds)]) hwf
    rw [hrs] at hsat
    refine ⟨outR F sg rs ds, hsat, fun i hi => ?_, howes, houts⟩
    show lookC (evalR F rs [(0, ds)] sg.nin) i = _
    rw [hl2 i hi, lookC_new (Nat.zero_le i)]
    rfl
end
end Go.Sx

namespace Go.Proofs.Ythlbgkhbebffaaa
open Go Go.Sx
set_option maxRecDepth 100000
set_option maxHeartbeats 4000000
def rs4 : List Run := [.one (.call 5 [] 0),
  .one (.call 5 [] 1),
  .one (.not (.r 6)),
  .one (.not (.r 7)),
  .run 6 [] 0 56,
  .one (.rem .u64 (.r 4) (.z 2)),
  .one (.land .u64 (.r 3) (.z 7)),
  .one (.mul .u64 (.z 128) (.r 65)),
  .one (.add .u64 (.z 8192) (.r 67)),
  .run 7 (idsFrom 9 56 ++ [.r 68, .z 4, .r 2]) 0 58,
  .one (.mul .u64 (.z 4096) (.r 65)),
  .one (.add .u64 (.z 2097152) (.r 127)),
  .run 7 (idsFrom 71 56 ++ [.r 128, .z 4, .r 66]) 0 58,
  .one (.shr .u64 (.r 0) (.z 3)),
  .one (.land .u64 (.r 187) (.z 7)),
  .run 7 (idsFrom 131 56 ++ [.z 4, .z 4, .r 188]) 0 58,
  .one (.shr .u64 (.r 1) (.z 1)),
  .one (.land .u64 (.r 247) (.z 1)),
  .one (.eql (.r 248) (.z 1)),
  .run 10 (idsFrom 191 56 ++ [.z 1, .t true]) 0 58,
  .one (.shr .u64 (.r 2) (.z 1)),
  .one (.land .u64 (.r 308) (.z 1)),
  .one (.eql (.r 309) (.z 1)),
  .one (.shr .u64 (.r 0) (.z 3)),
  .one (.land .u64 (.r 311) (.z 7)),
  .one (.gtr (.r 312) (.z 0)),
  .one (.and (.r 310) (.r 313)),
  .one (.itei (.r 314) (.z 1) (.z 0)),
  .one (.itei (.r 249) (.r 315) (.z 0)),
  .one (.itei (.r 249) (.r 252) (.r 191)),
  .one (.iteb (.r 249) (.r 253) (.r 192)),
  .one (.iteb (.r 249) (.r 254) (.r 193)),
  .one (.iteb (.r 249) (.r 255) (.r 194)),
  .one (.iteb (.r 249) (.r 256) (.r 195)),
  .one (.iteb (.r 249) (.r 257) (.r 196)),
  .one (.itei (.r 249) (.r 258) (.r 197)),
  .one (.iteb (.r 249) (.r 259) (.r 198)),
  .one (.iteb (.r 249) (.r 260) (.r 199)),
  .one (.iteb (.r 249) (.r 261) (.r 200)),
  .one (.iteb (.r 249) (.r 262) (.r 201)),
  .one (.iteb (.r 249) (.r 263) (.r 202)),
  .one (.itei (.r 249) (.r 264) (.r 203)),
  .one (.iteb (.r 249) (.r 265) (.r 204)),
  .one (.iteb (.r 249) (.r 266) (.r 205)),
  .one (.iteb (.r 249) (.r 267) (.r 206)),
  .one (.iteb (.r 249) (.r 268) (.r 207)),
  .one (.iteb (.r 249) (.r 269) (.r 208)),
  .one (.itei (.r 249) (.r 270) (.r 209)),
  .one (.iteb (.r 249) (.r 271) (.r 210)),
  .one (.iteb (.r 249) (.r 272) (.r 211)),
  .one (.iteb (.r 249) (.r 273) (.r 212)),
  .one (.iteb (.r 249) (.r 274) (.r 213)),
  .one (.iteb (.r 249) (.r 275) (.r 214)),
  .one (.itei (.r 249) (.r 276) (.r 215)),
  .one (.iteb (.r 249) (.r 277) (.r 216)),
  .one (.iteb (.r 249) (.r 278) (.r 217)),
  .one (.iteb (.r 249) (.r 279) (.r 218)),
  .one (.iteb (.r 249) (.r 280) (.r 219)),
  .one (.iteb (.r 249) (.r 281) (.r 220)),
  .one (.itei (.r 249) (.r 282) (.r 221)),
  .one (.iteb (.r 249) (.r 283) (.r 222)),
  .one (.iteb (.r 249) (.r 284) (.r 223)),
  .one (.iteb (.r 249) (.r 285) (.r 224)),
  .one (.iteb (.r 249) (.r 286) (.r 225)),
  .one (.iteb (.r 249) (.r 287) (.r 226)),
  .one (.itei (.r 249) (.r 288) (.r 227)),
  .one (.iteb (.r 249) (.r 289) (.r 228)),
  .one (.iteb (.r 249) (.r 290) (.r 229)),
  .one (.iteb (.r 249) (.r 291) (.r 230)),
  .one (.iteb (.r 249) (.r 292) (.r 231)),
  .one (.iteb (.r 249) (.r 293) (.r 232)),
  .one (.itei (.r 249) (.r 294) (.r 233)),
  .one (.iteb (.r 249) (.r 295) (.r 234)),
  .one (.iteb (.r 249) (.r 296) (.r 235)),
  .one (.iteb (.r 249) (.r 297) (.r 236)),
  .one (.iteb (.r 249) (.r 298) (.r 237)),
  .one (.iteb (.r 249) (.r 299) (.r 238)),
  .one (.itei (.r 249) (.r 300) (.r 239)),
  .one (.iteb (.r 249) (.r 301) (.r 240)),
  .one (.iteb (.r 249) (.r 302) (.r 241)),
  .one (.iteb (.r 249) (.r 303) (.r 242)),
  .one (.iteb (.r 249) (.r 304) (.r 243)),
  .one (.iteb (.r 249) (.r 305) (.r 244)),
  .one (.itei (.r 249) (.r 306) (.r 245)),
  .one (.itei (.r 249) (.r 307) (.r 246)),
  .one (.shr .u64 (.r 0) (.z 6)),
  .one (.land .u64 (.r 373) (.z 7)),
  .run 7 (idsFrom 317 56 ++ [.z 8, .z 4, .r 374]) 0 58,
  .one (.shr .u64 (.r 1) (.z 2)),
  .one (.land .u64 (.r 433) (.z 1)),
  .one (.eql (.r 434) (.z 1)),
  .run 10 (idsFrom 377 56 ++ [.z 2, .t true]) 0 58,
  .one (.shr .u64 (.r 2) (.z 2)),
  .one (.land .u64 (.r 494) (.z 1)),
  .one (.eql (.r 495) (.z 1)),
  .one (.shr .u64 (.r 0) (.z 6)),
  .one (.land .u64 (.r 497) (.z 7)),
  .one (.gtr (.r 498) (.z 0)),
  .one (.and (.r 496) (.r 499)),
  .one (.add .i64 (.r 316) (.z 1)),
  .one (.itei (.r 500) (.r 501) (.r 316)),
  .one (.itei (.r 435) (.r 502) (.r 316)),
  .one (.itei (.r 435) (.r 438) (.r 377)),
  .one (.iteb (.r 435) (.r 439) (.r 378)),
  .one (.iteb (.r 435) (.r 440) (.r 379)),
  .one (.iteb (.r 435) (.r 441) (.r 380)),
  .one (.iteb (.r 435) (.r 442) (.r 381)),
  .one (.iteb (.r 435) (.r 443) (.r 382)),
  .one (.itei (.r 435) (.r 444) (.r 383)),
  .one (.iteb (.r 435) (.r 445) (.r 384)),
  .one (.iteb (.r 435) (.r 446) (.r 385)),
  .one (.iteb (.r 435) (.r 447) (.r 386)),
  .one (.iteb (.r 435) (.r 448) (.r 387)),
  .one (.iteb (.r 435) (.r 449) (.r 388)),
  .one (.itei (.r 435) (.r 450) (.r 389)),
  .one (.iteb (.r 435) (.r 451) (.r 390)),
  .one (.iteb (.r 435) (.r 452) (.r 391)),
  .one (.iteb (.r 435) (.r 453) (.r 392)),
  .one (.iteb (.r 435) (.r 454) (.r 393)),
  .one (.iteb (.r 435) (.r 455) (.r 394)),
  .one (.itei (.r 435) (.r 456) (.r 395)),
  .one (.iteb (.r 435) (.r 457) (.r 396)),
  .one (.iteb (.r 435) (.r 458) (.r 397)),
  .one (.iteb (.r 435) (.r 459) (.r 398)),
  .one (.iteb (.r 435) (.r 460) (.r 399)),
  .one (.iteb (.r 435) (.r 461) (.r 400)),
  .one (.itei (.r 435) (.r 462) (.r 401)),
  .one (.iteb (.r 435) (.r 463) (.r 402)),
  .one (.iteb (.r 435) (.r 464) (.r 403)),
  .one (.iteb (.r 435) (.r 465) (.r 404)),
  .one (.iteb (.r 435) (.r 466) (.r 405)),
  .one (.iteb (.r 435) (.r 467) (.r 406)),
  .one (.itei (.r 435) (.r 468) (.r 407)),
  .one (.iteb (.r 435) (.r 469) (.r 408)),
  .one (.iteb (.r 435) (.r 470) (.r 409)),
  .one (.iteb (.r 435) (.r 471) (.r 410)),
  .one (.iteb (.r 435) (.r 472) (.r 411)),
  .one (.iteb (.r 435) (.r 473) (.r 412)),
  .one (.itei (.r 435) (.r 474) (.r 413)),
  .one (.iteb (.r 435) (.r 475) (.r 414)),
  .one (.iteb (.r 435) (.r 476) (.r 415)),
  .one (.iteb (.r 435) (.r 477) (.r 416)),
  .one (.iteb (.r 435) (.r 478) (.r 417)),
  .one (.iteb (.r 435) (.r 479) (.r 418)),
  .one (.itei (.r 435) (.r 480) (.r 419)),
  .one (.iteb (.r 435) (.r 481) (.r 420)),
  .one (.iteb (.r 435) (.r 482) (.r 421)),
  .one (.iteb (.r 435) (.r 483) (.r 422)),
  .one (.iteb (.r 435) (.r 484) (.r 423)),
  .one (.iteb (.r 435) (.r 485) (.r 424)),
  .one (.itei (.r 435) (.r 486) (.r 425)),
  .one (.iteb (.r 435) (.r 487) (.r 426)),
  .one (.iteb (.r 435) (.r 488) (.r 427)),
  .one (.iteb (.r 435) (.r 489) (.r 428)),
  .one (.iteb (.r 435) (.r 490) (.r 429)),
  .one (.iteb (.r 435) (.r 491) (.r 430)),
  .one (.itei (.r 435) (.r 492) (.r 431)),
  .one (.itei (.r 435) (.r 493) (.r 432)),
  .one (.shr .u64 (.r 0) (.z 9)),
  .one (.land .u64 (.r 560) (.z 7)),
  .run 7 (idsFrom 504 56 ++ [.z 12, .z 4, .r 561]) 0 58,
  .one (.shr .u64 (.r 1) (.z 3)),
  .one (.land .u64 (.r 620) (.z 1)),
  .one (.eql (.r 621) (.z 1)),
  .run 10 (idsFrom 564 56 ++ [.z 3, .t true]) 0 58,
  .one (.shr .u64 (.r 2) (.z 3)),
  .one (.land .u64 (.r 681) (.z 1)),
  .one (.eql (.r 682) (.z 1)),
  .one (.shr .u64 (.r 0) (.z 9)),
  .one (.land .u64 (.r 684) (.z 7)),
  .one (.gtr (.r 685) (.z 0)),
  .one (.and (.r 683) (.r 686)),
  .one (.add .i64 (.r 503) (.z 1)),
  .one (.itei (.r 687) (.r 688) (.r 503)),
  .one (.itei (.r 622) (.r 689) (.r 503)),
  .one (.itei (.r 622) (.r 625) (.r 564)),
  .one (.iteb (.r 622) (.r 626) (.r 565)),
  .one (.iteb (.r 622) (.r 627) (.r 566)),
  .one (.iteb (.r 622) (.r 628) (.r 567)),
  .one (.iteb (.r 622) (.r 629) (.r 568)),
  .one (.iteb (.r 622) (.r 630) (.r 569)),
  .one (.itei (.r 622) (.r 631) (.r 570)),
  .one (.iteb (.r 622) (.r 632) (.r 571)),
  .one (.iteb (.r 622) (.r 633) (.r 572)),
  .one (.iteb (.r 622) (.r 634) (.r 573)),
  .one (.iteb (.r 622) (.r 635) (.r 574)),
  .one (.iteb (.r 622) (.r 636) (.r 575)),
  .one (.itei (.r 622) (.r 637) (.r 576)),
  .one (.iteb (.r 622) (.r 638) (.r 577)),
  .one (.iteb (.r 622) (.r 639) (.r 578)),
  .one (.iteb (.r 622) (.r 640) (.r 579)),
  .one (.iteb (.r 622) (.r 641) (.r 580)),
  .one (.iteb (.r 622) (.r 642) (.r 581)),
  .one (.itei (.r 622) (.r 643) (.r 582)),
  .one (.iteb (.r 622) (.r 644) (.r 583)),
  .one (.iteb (.r 622) (.r 645) (.r 584)),
  .one (.iteb (.r 622) (.r 646) (.r 585)),
  .one (.iteb (.r 622) (.r 647) (.r 586)),
  .one (.iteb (.r 622) (.r 648) (.r 587)),
  .one (.itei (.r 622) (.r 649) (.r 588)),
  .one (.iteb (.r 622) (.r 650) (.r 589)),
  .one (.iteb (.r 622) (.r 651) (.r 590)),
  .one (.iteb (.r 622) (.r 652) (.r 591)),
  .one (.iteb (.r 622) (.r 653) (.r 592)),
  .one (.iteb (.r 622) (.r 654) (.r 593)),
  .one (.itei (.r 622) (.r 655) (.r 594)),
  .one (.iteb (.r 622) (.r 656) (.r 595)),
  .one (.iteb (.r 622) (.r 657) (.r 596)),
  .one (.iteb (.r 622) (.r 658) (.r 597)),
  .one (.iteb (.r 622) (.r 659) (.r 598)),
  .one (.iteb (.r 622) (.r 660) (.r 599)),
  .one (.itei (.r 622) (.r 661) (.r 600)),
  .one (.iteb (.r 622) (.r 662) (.r 601)),
  .one (.iteb (.r 622) (.r 663) (.r 602)),
  .one (.iteb (.r 622) (.r 664) (.r 603)),
  .one (.iteb (.r 622) (.r 665) (.r 604)),
  .one (.iteb (.r 622) (.r 666) (.r 605)),
  .one (.itei (.r 622) (.r 667) (.r 606)),
  .one (.iteb (.r 622) (.r 668) (.r 607)),
  .one (.iteb (.r 622) (.r 669) (.r 608)),
  .one (.iteb (.r 622) (.r 670) (.r 609)),
  .one (.iteb (.r 622) (.r 671) (.r 610)),
  .one (.iteb (.r 622) (.r 672) (.r 611)),
  .one (.itei (.r 622) (.r 673) (.r 612)),
  .one (.iteb (.r 622) (.r 674) (.r 613)),
  .one (.iteb (.r 622) (.r 675) (.r 614)),
  .one (.iteb (.r 622) (.r 676) (.r 615)),
  .one (.iteb (.r 622) (.r 677) (.r 616)),
  .one (.iteb (.r 622) (.r 678) (.r 617)),
  .one (.itei (.r 622) (.r 679) (.r 618)),
  .one (.itei (.r 622) (.r 680) (.r 619)),
  .one (.shr .u64 (.r 0) (.z 12)),
  .one (.land .u64 (.r 747) (.z 7)),
  .run 7 (idsFrom 691 56 ++ [.z 16, .z 4, .r 748]) 0 58,
  .one (.shr .u64 (.r 1) (.z 4)),
  .one (.land .u64 (.r 807) (.z 1)),
  .one (.eql (.r 808) (.z 1)),
  .run 10 (idsFrom 751 56 ++ [.z 4, .t true]) 0 58,
  .one (.shr .u64 (.r 2) (.z 4)),
  .one (.land .u64 (.r 868) (.z 1)),
  .one (.eql (.r 869) (.z 1)),
  .one (.shr .u64 (.r 0) (.z 12)),
  .one (.land .u64 (.r 871) (.z 7)),
  .one (.gtr (.r 872) (.z 0)),
  .one (.and (.r 870) (.r 873)),
  .one (.add .i64 (.r 690) (.z 1)),
  .one (.itei (.r 874) (.r 875) (.r 690)),
  .one (.itei (.r 809) (.r 876) (.r 690)),
  .one (.itei (.r 809) (.r 812) (.r 751)),
  .one (.iteb (.r 809) (.r 813) (.r 752)),
  .one (.iteb (.r 809) (.r 814) (.r 753)),
  .one (.iteb (.r 809) (.r 815) (.r 754)),
  .one (.iteb (.r 809) (.r 816) (.r 755)),
  .one (.iteb (.r 809) (.r 817) (.r 756)),
  .one (.itei (.r 809) (.r 818) (.r 757)),
  .one (.iteb (.r 809) (.r 819) (.r 758)),
  .one (.iteb (.r 809) (.r 820) (.r 759)),
  .one (.iteb (.r 809) (.r 821) (.r 760)),
  .one (.iteb (.r 809) (.r 822) (.r 761)),
  .one (.iteb (.r 809) (.r 823) (.r 762)),
  .one (.itei (.r 809) (.r 824) (.r 763)),
  .one (.iteb (.r 809) (.r 825) (.r 764)),
  .one (.iteb (.r 809) (.r 826) (.r 765)),
  .one (.iteb (.r 809) (.r 827) (.r 766)),
  .one (.iteb (.r 809) (.r 828) (.r 767)),
  .one (.iteb (.r 809) (.r 829) (.r 768)),
  .one (.itei (.r 809) (.r 830) (.r 769)),
  .one (.iteb (.r 809) (.r 831) (.r 770)),
  .one (.iteb (.r 809) (.r 832) (.r 771)),
  .one (.iteb (.r 809) (.r 833) (.r 772)),
  .one (.iteb (.r 809) (.r 834) (.r 773)),
  .one (.iteb (.r 809) (.r 835) (.r 774)),
  .one (.itei (.r 809) (.r 836) (.r 775)),
  .one (.iteb (.r 809) (.r 837) (.r 776)),
  .one (.iteb (.r 809) (.r 838) (.r 777)),
  .one (.iteb (.r 809) (.r 839) (.r 778)),
  .one (.iteb (.r 809) (.r 840) (.r 779)),
  .one (.iteb (.r 809) (.r 841) (.r 780)),
  .one (.itei (.r 809) (.r 842) (.r 781)),
  .one (.iteb (.r 809) (.r 843) (.r 782)),
  .one (.iteb (.r 809) (.r 844) (.r 783)),
  .one (.iteb (.r 809) (.r 845) (.r 784)),
  .one (.iteb (.r 809) (.r 846) (.r 785)),
  .one (.iteb (.r 809) (.r 847) (.r 786)),
  .one (.itei (.r 809) (.r 848) (.r 787)),
  .one (.iteb (.r 809) (.r 849) (.r 788)),
  .one (.iteb (.r 809) (.r 850) (.r 789)),
  .one (.iteb (.r 809) (.r 851) (.r 790)),
  .one (.iteb (.r 809) (.r 852) (.r 791)),
  .one (.iteb (.r 809) (.r 853) (.r 792)),
  .one (.itei (.r 809) (.r 854) (.r 793)),
  .one (.iteb (.r 809) (.r 855) (.r 794)),
  .one (.iteb (.r 809) (.r 856) (.r 795)),
  .one (.iteb (.r 809) (.r 857) (.r 796)),
  .one (.iteb (.r 809) (.r 858) (.r 797)),
  .one (.iteb (.r 809) (.r 859) (.r 798)),
  .one (.itei (.r 809) (.r 860) (.r 799)),
  .one (.iteb (.r 809) (.r 861) (.r 800)),
  .one (.iteb (.r 809) (.r 862) (.r 801)),
  .one (.iteb (.r 809) (.r 863) (.r 802)),
  .one (.iteb (.r 809) (.r 864) (.r 803)),
  .one (.iteb (.r 809) (.r 865) (.r 804)),
  .one (.itei (.r 809) (.r 866) (.r 805)),
  .one (.itei (.r 809) (.r 867) (.r 806)),
  .one (.shr .u64 (.r 0) (.z 15)),
  .one (.land .u64 (.r 934) (.z 7)),
  .run 7 (idsFrom 878 56 ++ [.z 20, .z 4, .r 935]) 0 58,
  .one (.shr .u64 (.r 1) (.z 5)),
  .one (.land .u64 (.r 994) (.z 1)),
  .one (.eql (.r 995) (.z 1)),
  .run 10 (idsFrom 938 56 ++ [.z 5, .t true]) 0 58,
  .one (.shr .u64 (.r 2) (.z 5)),
  .one (.land .u64 (.r 1055) (.z 1)),
  .one (.eql (.r 1056) (.z 1)),
  .one (.shr .u64 (.r 0) (.z 15)),
  .one (.land .u64 (.r 1058) (.z 7)),
  .one (.gtr (.r 1059) (.z 0)),
  .one (.and (.r 1057) (.r 1060)),
  .one (.add .i64 (.r 877) (.z 1)),
  .one (.itei (.r 1061) (.r 1062) (.r 877)),
  .one (.itei (.r 996) (.r 1063) (.r 877)),
  .one (.itei (.r 996) (.r 999) (.r 938)),
  .one (.iteb (.r 996) (.r 1000) (.r 939)),
  .one (.iteb (.r 996) (.r 1001) (.r 940)),
  .one (.iteb (.r 996) (.r 1002) (.r 941)),
  .one (.iteb (.r 996) (.r 1003) (.r 942)),
  .one (.iteb (.r 996) (.r 1004) (.r 943)),
  .one (.itei (.r 996) (.r 1005) (.r 944)),
  .one (.iteb (.r 996) (.r 1006) (.r 945)),
  .one (.iteb (.r 996) (.r 1007) (.r 946)),
  .one (.iteb (.r 996) (.r 1008) (.r 947)),
  .one (.iteb (.r 996) (.r 1009) (.r 948)),
  .one (.iteb (.r 996) (.r 1010) (.r 949)),
  .one (.itei (.r 996) (.r 1011) (.r 950)),
  .one (.iteb (.r 996) (.r 1012) (.r 951)),
  .one (.iteb (.r 996) (.r 1013) (.r 952)),
  .one (.iteb (.r 996) (.r 1014) (.r 953)),
  .one (.iteb (.r 996) (.r 1015) (.r 954)),
  .one (.iteb (.r 996) (.r 1016) (.r 955)),
  .one (.itei (.r 996) (.r 1017) (.r 956)),
  .one (.iteb (.r 996) (.r 1018) (.r 957)),
  .one (.iteb (.r 996) (.r 1019) (.r 958)),
  .one (.iteb (.r 996) (.r 1020) (.r 959)),
  .one (.iteb (.r 996) (.r 1021) (.r 960)),
  .one (.iteb (.r 996) (.r 1022) (.r 961)),
  .one (.itei (.r 996) (.r 1023) (.r 962)),
  .one (.iteb (.r 996) (.r 1024) (.r 963)),
  .one (.iteb (.r 996) (.r 1025) (.r 964)),
  .one (.iteb (.r 996) (.r 1026) (.r 965)),
  .one (.iteb (.r 996) (.r 1027) (.r 966)),
  .one (.iteb (.r 996) (.r 1028) (.r 967)),
  .one (.itei (.r 996) (.r 1029) (.r 968)),
  .one (.iteb (.r 996) (.r 1030) (.r 969)),
  .one (.iteb (.r 996) (.r 1031) (.r 970)),
  .one (.iteb (.r 996) (.r 1032) (.r 971)),
  .one (.iteb (.r 996) (.r 1033) (.r 972)),
  .one (.iteb (.r 996) (.r 1034) (.r 973)),
  .one (.itei (.r 996) (.r 1035) (.r 974)),
  .one (.iteb (.r 996) (.r 1036) (.r 975)),
  .one (.iteb (.r 996) (.r 1037) (.r 976)),
  .one (.iteb (.r 996) (.r 1038) (.r 977)),
  .one (.iteb (.r 996) (.r 1039) (.r 978)),
  .one (.iteb (.r 996) (.r 1040) (.r 979)),
  .one (.itei (.r 996) (.r 1041) (.r 980)),
  .one (.iteb (.r 996) (.r 1042) (.r 981)),
  .one (.iteb (.r 996) (.r 1043) (.r 982)),
  .one (.iteb (.r 996) (.r 1044) (.r 983)),
  .one (.iteb (.r 996) (.r 1045) (.r 984)),
  .one (.iteb (.r 996) (.r 1046) (.r 985)),
  .one (.itei (.r 996) (.r 1047) (.r 986)),
  .one (.iteb (.r 996) (.r 1048) (.r 987)),
  .one (.iteb (.r 996) (.r 1049) (.r 988)),
  .one (.iteb (.r 996) (.r 1050) (.r 989)),
  .one (.iteb (.r 996) (.r 1051) (.r 990)),
  .one (.iteb (.r 996) (.r 1052) (.r 991)),
  .one (.itei (.r 996) (.r 1053) (.r 992)),
  .one (.itei (.r 996) (.r 1054) (.r 993)),
  .one (.shr .u64 (.r 0) (.z 18)),
  .one (.land .u64 (.r 1121) (.z 7)),
  .run 7 (idsFrom 1065 56 ++ [.z 24, .z 4, .r 1122]) 0 58,
  .one (.shr .u64 (.r 1) (.z 6)),
  .one (.land .u64 (.r 1181) (.z 1)),
  .one (.eql (.r 1182) (.z 1)),
  .run 10 (idsFrom 1125 56 ++ [.z 6, .t true]) 0 58,
  .one (.shr .u64 (.r 2) (.z 6)),
  .one (.land .u64 (.r 1242) (.z 1)),
  .one (.eql (.r 1243) (.z 1)),
  .one (.shr .u64 (.r 0) (.z 18)),
  .one (.land .u64 (.r 1245) (.z 7)),
  .one (.gtr (.r 1246) (.z 0)),
  .one (.and (.r 1244) (.r 1247)),
  .one (.add .i64 (.r 1064) (.z 1)),
  .one (.itei (.r 1248) (.r 1249) (.r 1064)),
  .one (.itei (.r 1183) (.r 1250) (.r 1064)),
  .one (.itei (.r 1183) (.r 1186) (.r 1125)),
  .one (.iteb (.r 1183) (.r 1187) (.r 1126)),
  .one (.iteb (.r 1183) (.r 1188) (.r 1127)),
  .one (.iteb (.r 1183) (.r 1189) (.r 1128)),
  .one (.iteb (.r 1183) (.r 1190) (.r 1129)),
  .one (.iteb (.r 1183) (.r 1191) (.r 1130)),
  .one (.itei (.r 1183) (.r 1192) (.r 1131)),
  .one (.iteb (.r 1183) (.r 1193) (.r 1132)),
  .one (.iteb (.r 1183) (.r 1194) (.r 1133)),
  .one (.iteb (.r 1183) (.r 1195) (.r 1134)),
  .one (.iteb (.r 1183) (.r 1196) (.r 1135)),
  .one (.iteb (.r 1183) (.r 1197) (.r 1136)),
  .one (.itei (.r 1183) (.r 1198) (.r 1137)),
  .one (.iteb (.r 1183) (.r 1199) (.r 1138)),
  .one (.iteb (.r 1183) (.r 1200) (.r 1139)),
  .one (.iteb (.r 1183) (.r 1201) (.r 1140)),
  .one (.iteb (.r 1183) (.r 1202) (.r 1141)),
  .one (.iteb (.r 1183) (.r 1203) (.r 1142)),
  .one (.itei (.r 1183) (.r 1204) (.r 1143)),
  .one (.iteb (.r 1183) (.r 1205) (.r 1144)),
  .one (.iteb (.r 1183) (.r 1206) (.r 1145)),
  .one (.iteb (.r 1183) (.r 1207) (.r 1146)),
  .one (.iteb (.r 1183) (.r 1208) (.r 1147)),
  .one (.iteb (.r 1183) (.r 1209) (.r 1148)),
  .one (.itei (.r 1183) (.r 1210) (.r 1149)),
  .one (.iteb (.r 1183) (.r 1211) (.r 1150)),
  .one (.iteb (.r 1183) (.r 1212) (.r 1151)),
  .one (.iteb (.r 1183) (.r 1213) (.r 1152)),
  .one (.iteb (.r 1183) (.r 1214) (.r 1153)),
  .one (.iteb (.r 1183) (.r 1215) (.r 1154)),
  .one (.itei (.r 1183) (.r 1216) (.r 1155)),
  .one (.iteb (.r 1183) (.r 1217) (.r 1156)),
  .one (.iteb (.r 1183) (.r 1218) (.r 1157)),
  .one (.iteb (.r 1183) (.r 1219) (.r 1158)),
  .one (.iteb (.r 1183) (.r 1220) (.r 1159)),
  .one (.iteb (.r 1183) (.r 1221) (.r 1160)),
  .one (.itei (.r 1183) (.r 1222) (.r 1161)),
  .one (.iteb (.r 1183) (.r 1223) (.r 1162)),
  .one (.iteb (.r 1183) (.r 1224) (.r 1163)),
  .one (.iteb (.r 1183) (.r 1225) (.r 1164)),
  .one (.iteb (.r 1183) (.r 1226) (.r 1165)),
  .one (.iteb (.r 1183) (.r 1227) (.r 1166)),
  .one (.itei (.r 1183) (.r 1228) (.r 1167)),
  .one (.iteb (.r 1183) (.r 1229) (.r 1168)),
  .one (.iteb (.r 1183) (.r 1230) (.r 1169)),
  .one (.iteb (.r 1183) (.r 1231) (.r 1170)),
  .one (.iteb (.r 1183) (.r 1232) (.r 1171)),
  .one (.iteb (.r 1183) (.r 1233) (.r 1172)),
  .one (.itei (.r 1183) (.r 1234) (.r 1173)),
  .one (.iteb (.r 1183) (.r 1235) (.r 1174)),
  .one (.iteb (.r 1183) (.r 1236) (.r 1175)),
  .one (.iteb (.r 1183) (.r 1237) (.r 1176)),
  .one (.iteb (.r 1183) (.r 1238) (.r 1177)),
  .one (.iteb (.r 1183) (.r 1239) (.r 1178)),
  .one (.itei (.r 1183) (.r 1240) (.r 1179)),
  .one (.itei (.r 1183) (.r 1241) (.r 1180)),
  .one (.shr .u64 (.r 0) (.z 21)),
  .one (.land .u64 (.r 1308) (.z 7)),
  .run 7 (idsFrom 1252 56 ++ [.z 28, .z 4, .r 1309]) 0 58,
  .one (.shr .u64 (.r 1) (.z 7)),
  .one (.land .u64 (.r 1368) (.z 1)),
  .one (.eql (.r 1369) (.z 1)),
  .run 10 (idsFrom 1312 56 ++ [.z 7, .t true]) 0 58,
  .one (.shr .u64 (.r 2) (.z 7)),
  .one (.land .u64 (.r 1429) (.z 1)),
  .one (.eql (.r 1430) (.z 1)),
  .one (.shr .u64 (.r 0) (.z 21)),
  .one (.land .u64 (.r 1432) (.z 7)),
  .one (.gtr (.r 1433) (.z 0)),
  .one (.and (.r 1431) (.r 1434)),
  .one (.add .i64 (.r 1251) (.z 1)),
  .one (.itei (.r 1435) (.r 1436) (.r 1251)),
  .one (.itei (.r 1370) (.r 1437) (.r 1251)),
  .one (.itei (.r 1370) (.r 1373) (.r 1312)),
  .one (.iteb (.r 1370) (.r 1374) (.r 1313)),
  .one (.iteb (.r 1370) (.r 1375) (.r 1314)),
  .one (.iteb (.r 1370) (.r 1376) (.r 1315)),
  .one (.iteb (.r 1370) (.r 1377) (.r 1316)),
  .one (.iteb (.r 1370) (.r 1378) (.r 1317)),
  .one (.itei (.r 1370) (.r 1379) (.r 1318)),
  .one (.iteb (.r 1370) (.r 1380) (.r 1319)),
  .one (.iteb (.r 1370) (.r 1381) (.r 1320)),
  .one (.iteb (.r 1370) (.r 1382) (.r 1321)),
  .one (.iteb (.r 1370) (.r 1383) (.r 1322)),
  .one (.iteb (.r 1370) (.r 1384) (.r 1323)),
  .one (.itei (.r 1370) (.r 1385) (.r 1324)),
  .one (.iteb (.r 1370) (.r 1386) (.r 1325)),
  .one (.iteb (.r 1370) (.r 1387) (.r 1326)),
  .one (.iteb (.r 1370) (.r 1388) (.r 1327)),
  .one (.iteb (.r 1370) (.r 1389) (.r 1328)),
  .one (.iteb (.r 1370) (.r 1390) (.r 1329)),
  .one (.itei (.r 1370) (.r 1391) (.r 1330)),
  .one (.iteb (.r 1370) (.r 1392) (.r 1331)),
  .one (.iteb (.r 1370) (.r 1393) (.r 1332)),
  .one (.iteb (.r 1370) (.r 1394) (.r 1333)),
  .one (.iteb (.r 1370) (.r 1395) (.r 1334)),
  .one (.iteb (.r 1370) (.r 1396) (.r 1335)),
  .one (.itei (.r 1370) (.r 1397) (.r 1336)),
  .one (.iteb (.r 1370) (.r 1398) (.r 1337)),
  .one (.iteb (.r 1370) (.r 1399) (.r 1338)),
  .one (.iteb (.r 1370) (.r 1400) (.r 1339)),
  .one (.iteb (.r 1370) (.r 1401) (.r 1340)),
  .one (.iteb (.r 1370) (.r 1402) (.r 1341)),
  .one (.itei (.r 1370) (.r 1403) (.r 1342)),
  .one (.iteb (.r 1370) (.r 1404) (.r 1343)),
  .one (.iteb (.r 1370) (.r 1405) (.r 1344)),
  .one (.iteb (.r 1370) (.r 1406) (.r 1345)),
  .one (.iteb (.r 1370) (.r 1407) (.r 1346)),
  .one (.iteb (.r 1370) (.r 1408) (.r 1347)),
  .one (.itei (.r 1370) (.r 1409) (.r 1348)),
  .one (.iteb (.r 1370) (.r 1410) (.r 1349)),
  .one (.iteb (.r 1370) (.r 1411) (.r 1350)),
  .one (.iteb (.r 1370) (.r 1412) (.r 1351)),
  .one (.iteb (.r 1370) (.r 1413) (.r 1352)),
  .one (.iteb (.r 1370) (.r 1414) (.r 1353)),
  .one (.itei (.r 1370) (.r 1415) (.r 1354)),
  .one (.iteb (.r 1370) (.r 1416) (.r 1355)),
  .one (.iteb (.r 1370) (.r 1417) (.r 1356)),
  .one (.iteb (.r 1370) (.r 1418) (.r 1357)),
  .one (.iteb (.r 1370) (.r 1419) (.r 1358)),
  .one (.iteb (.r 1370) (.r 1420) (.r 1359)),
  .one (.itei (.r 1370) (.r 1421) (.r 1360)),
  .one (.iteb (.r 1370) (.r 1422) (.r 1361)),
  .one (.iteb (.r 1370) (.r 1423) (.r 1362)),
  .one (.iteb (.r 1370) (.r 1424) (.r 1363)),
  .one (.iteb (.r 1370) (.r 1425) (.r 1364)),
  .one (.iteb (.r 1370) (.r 1426) (.r 1365)),
  .one (.itei (.r 1370) (.r 1427) (.r 1366)),
  .one (.itei (.r 1370) (.r 1428) (.r 1367)),
  .one (.shr .u64 (.r 0) (.z 24)),
  .one (.land .u64 (.r 1495) (.z 7)),
  .run 7 (idsFrom 1439 56 ++ [.z 32, .z 4, .r 1496]) 0 58,
  .one (.shr .u64 (.r 1) (.z 8)),
  .one (.land .u64 (.r 1555) (.z 1)),
  .one (.eql (.r 1556) (.z 1)),
  .run 10 (idsFrom 1499 56 ++ [.z 8, .t true]) 0 58,
  .one (.shr .u64 (.r 2) (.z 8)),
  .one (.land .u64 (.r 1616) (.z 1)),
  .one (.eql (.r 1617) (.z 1)),
  .one (.shr .u64 (.r 0) (.z 24)),
  .one (.land .u64 (.r 1619) (.z 7)),
  .one (.gtr (.r 1620) (.z 0)),
  .one (.and (.r 1618) (.r 1621)),
  .one (.add .i64 (.r 1438) (.z 1)),
  .one (.itei (.r 1622) (.r 1623) (.r 1438)),
  .one (.itei (.r 1557) (.r 1624) (.r 1438)),
  .one (.itei (.r 1557) (.r 1560) (.r 1499)),
  .one (.iteb (.r 1557) (.r 1561) (.r 1500)),
  .one (.iteb (.r 1557) (.r 1562) (.r 1501)),
  .one (.iteb (.r 1557) (.r 1563) (.r 1502)),
  .one (.iteb (.r 1557) (.r 1564) (.r 1503)),
  .one (.iteb (.r 1557) (.r 1565) (.r 1504)),
  .one (.itei (.r 1557) (.r 1566) (.r 1505)),
  .one (.iteb (.r 1557) (.r 1567) (.r 1506)),
  .one (.iteb (.r 1557) (.r 1568) (.r 1507)),
  .one (.iteb (.r 1557) (.r 1569) (.r 1508)),
  .one (.iteb (.r 1557) (.r 1570) (.r 1509)),
  .one (.iteb (.r 1557) (.r 1571) (.r 1510)),
  .one (.itei (.r 1557) (.r 1572) (.r 1511)),
  .one (.iteb (.r 1557) (.r 1573) (.r 1512)),
  .one (.iteb (.r 1557) (.r 1574) (.r 1513)),
  .one (.iteb (.r 1557) (.r 1575) (.r 1514)),
  .one (.iteb (.r 1557) (.r 1576) (.r 1515)),
  .one (.iteb (.r 1557) (.r 1577) (.r 1516)),
  .one (.itei (.r 1557) (.r 1578) (.r 1517)),
  .one (.iteb (.r 1557) (.r 1579) (.r 1518)),
  .one (.iteb (.r 1557) (.r 1580) (.r 1519)),
  .one (.iteb (.r 1557) (.r 1581) (.r 1520)),
  .one (.iteb (.r 1557) (.r 1582) (.r 1521)),
  .one (.iteb (.r 1557) (.r 1583) (.r 1522)),
  .one (.itei (.r 1557) (.r 1584) (.r 1523)),
  .one (.iteb (.r 1557) (.r 1585) (.r 1524)),
  .one (.iteb (.r 1557) (.r 1586) (.r 1525)),
  .one (.iteb (.r 1557) (.r 1587) (.r 1526)),
  .one (.iteb (.r 1557) (.r 1588) (.r 1527)),
  .one (.iteb (.r 1557) (.r 1589) (.r 1528)),
  .one (.itei (.r 1557) (.r 1590) (.r 1529)),
  .one (.iteb (.r 1557) (.r 1591) (.r 1530)),
  .one (.iteb (.r 1557) (.r 1592) (.r 1531)),
  .one (.iteb (.r 1557) (.r 1593) (.r 1532)),
  .one (.iteb (.r 1557) (.r 1594) (.r 1533)),
  .one (.iteb (.r 1557) (.r 1595) (.r 1534)),
  .one (.itei (.r 1557) (.r 1596) (.r 1535)),
  .one (.iteb (.r 1557) (.r 1597) (.r 1536)),
  .one (.iteb (.r 1557) (.r 1598) (.r 1537)),
  .one (.iteb (.r 1557) (.r 1599) (.r 1538)),
  .one (.iteb (.r 1557) (.r 1600) (.r 1539)),
  .one (.iteb (.r 1557) (.r 1601) (.r 1540)),
  .one (.itei (.r 1557) (.r 1602) (.r 1541)),
  .one (.iteb (.r 1557) (.r 1603) (.r 1542)),
  .one (.iteb (.r 1557) (.r 1604) (.r 1543)),
  .one (.iteb (.r 1557) (.r 1605) (.r 1544)),
  .one (.iteb (.r 1557) (.r 1606) (.r 1545)),
  .one (.iteb (.r 1557) (.r 1607) (.r 1546)),
  .one (.itei (.r 1557) (.r 1608) (.r 1547)),
  .one (.iteb (.r 1557) (.r 1609) (.r 1548)),
  .one (.iteb (.r 1557) (.r 1610) (.r 1549)),
  .one (.iteb (.r 1557) (.r 1611) (.r 1550)),
  .one (.iteb (.r 1557) (.r 1612) (.r 1551)),
  .one (.iteb (.r 1557) (.r 1613) (.r 1552)),
  .one (.itei (.r 1557) (.r 1614) (.r 1553)),
  .one (.itei (.r 1557) (.r 1615) (.r 1554)),
  .run 100402 ([.r 1, .r 2, .r 0, .r 66, .r 65, .t false, .r 1625, .z 8, .z 0] ++ idsFrom 1626 56) 0 62,
  .one (.eql (.r 1683) (.z 0)),
  .one (.not (.r 1744)),
  .one (.mul .u64 (.z 4096) (.r 65)),
  .one (.add .u64 (.z 2097156) (.r 1746)),
  .run 8 (idsFrom 1688 56 ++ [.r 1747, .z 4]) 0 59,
  .one (.eql (.r 1749) (.z 0)),
  .one (.call 9 (idsFrom 1751 56) 0),
  .one (.call 9 (idsFrom 1751 56) 1),
  .one (.eql (.r 1809) (.z 0)),
  .one (.and (.r 1807) (.r 1810)),
  .one (.iteb (.r 1745) (.r 1811) (.r 1684)),
  .one (.and (.r 8) (.r 1812))]

theorem k4 : FnOK Try.prog WI gK 4 s4 g4 :=
  fn_okR (F := FE) (rs := rs4) wiStable (⟨(fun f s h => by
    simp only [Sigs.get, S4, assoc] at h
    split at h
    · rename_i hg; obtain rfl := Nat.eq_of_beq_eq_true hg; cases h; exact k5
    split at h
    · rename_i hg; obtain rfl := Nat.eq_of_beq_eq_true hg; cases h; exact k6
    split at h
    · rename_i hg; obtain rfl := Nat.eq_of_beq_eq_true hg; cases h; exact k7
    split at h
    · rename_i hg; obtain rfl := Nat.eq_of_beq_eq_true hg; cases h; exact k10
    split at h
    · rename_i hg; obtain rfl := Nat.eq_of_beq_eq_true hg; cases h; exact k8
    split at h
    · rename_i hg; obtain rfl := Nat.eq_of_beq_eq_true hg; cases h; exact k9
    cases h), (fun _ _ h => (by cases h))⟩) Try.func4 ev4 (by kernel_rfl) (by kernel_rfl) hl4 fun ds h hp => match ds, h, hp with
    | [d0, d1, d2, d3, d4], _, hp => ⟨(by kernel_rfl : owesB (outR FE s4 rs4 [d0, d1, d2, d3, d4]) o4.owes = (dget (g4 [d0, d1, d2, d3, d4]) 0).toB).trans (hp rfl), nrms_teq (by kernel_rfl) (by kernel_rfl) (by kernel_rfl)⟩


end Go.Proofs.Ythlbgkhbebffaaa

