/- Lists of nodes told by one number, in steps of four bits. -/
import Derived.Test.YtiabiimoalkmjaaC3
namespace Go.Sx
def rdN : Nat → Nat → Nat × Nat
 | 0, n => (0, n)
 | k + 1, n => bif Nat.ble 8 (n % 16) then (n % 16 - 8 + 8 * (rdN k (n / 16)).1, (rdN k (n / 16)).2) else (n % 16, n / 16)
def num (n : Nat) : Nat × Nat := rdN 64 n
def rdS {α : Type} (f : Nat → α × Nat) : Nat → Nat → List α × Nat
 | 0, n => ([], n)
 | k + 1, n => ((f n).1 :: (rdS f k (f n).2).1, (rdS f k (f n).2).2)
def rdL {α : Type} (f : Nat → α × Nat) (n : Nat) : List α × Nat := rdS f (num n).1 (num n).2
def mkA (c v : Nat) : A :=
 match v % 4 with
 | 0 => .r (c - v / 4)
 | 1 => .z (Int.ofNat (v / 4))
 | 2 => .z (-Int.ofNat (v / 4))
 | _ => .t (Nat.beq (v / 4) 1)
def rdA (c n : Nat) : A × Nat := (mkA c (num n).1, (num n).2)
def mkK : Nat → IntKind
 | 0 => .i8
 | 1 => .i16
 | 2 => .i32
 | 3 => .i64
 | 4 => .u8
 | 5 => .u16
 | 6 => .u32
 | _ => .u64
def rdK (n : Nat) : IntKind × Nat := (mkK (n % 16), n / 16)
def mkT : Nat → Ty
 | 0 => .i
 | 1 => .b
 | _ => .l
def rdT (n : Nat) : Ty × Nat := (mkT (n % 16), n / 16)
def rd1 (c : Nat) (f : A → Node) (n : Nat) : Node × Nat := (f (rdA c n).1, (rdA c n).2)
def rd2 (c : Nat) (f : A → A → Node) (n : Nat) : Node × Nat := rd1 c (f (rdA c n).1) (rdA c n).2
def rd3 (c : Nat) (f : A → A → A → Node) (n : Nat) : Node × Nat := rd2 c (f (rdA c n).1) (rdA c n).2
def rdK1 (c : Nat) (f : IntKind → A → Node) (n : Nat) : Node × Nat := rd1 c (f (rdK n).1) (rdK n).2
def rdK2 (c : Nat) (f : IntKind → A → A → Node) (n : Nat) : Node × Nat := rd2 c (f (rdK n).1) (rdK n).2
def zuf (c n : Nat) : Node × Nat :=
 match (num n).1, (num n).2 with
 | 0, n => rd2 c .eql n
 | 1, n => rd2 c .and n
 | 2, n => rd3 c .itei n
 | 3, n => (.lgeti (num n).1 (num (num n).2).1 (rdA c (num (num n).2).2).1 (rdA c (rdA c (num (num n).2).2).2).1, (rdA c (rdA c (num (num n).2).2).2).2)
 | 4, n => rd2 c .lss n
 | 5, n => (.lgetl (num n).1 (num (num n).2).1 (rdA c (num (num n).2).2).1 (rdA c (rdA c (num (num n).2).2).2).1, (rdA c (rdA c (num (num n).2).2).2).2)
 | 6, n => rd1 c .not n
 | 7, n => (.call (num n).1 (rdL (rdA c) (num n).2).1 (num (rdL (rdA c) (num n).2).2).1, (num (rdL (rdA c) (num n).2).2).2)
 | 8, n => rdK2 c .add n
 | 9, n => rdK2 c .sub n
 | 10, n => rdK2 c .mul n
 | 11, n => rdK2 c .land n
 | 12, n => rdK2 c .lor n
 | 13, n => rdK2 c .lxor n
 | 14, n => rdK2 c .landNot n
 | 15, n => rdK2 c .quo n
 | 16, n => rdK2 c .rem n
 | 17, n => rdK2 c .shl n
 | 18, n => rdK2 c .shr n
 | 19, n => rd2 c .neq n
 | 20, n => rd2 c .leq n
 | 21, n => rd2 c .gtr n
 | 22, n => rd2 c .geq n
 | 23, n => rd2 c .beq n
 | 24, n => rd2 c .bne n
 | 25, n => rd2 c .or n
 | 26, n => rd3 c .iteb n
 | 27, n => rdK1 c .conv n
 | 28, n => rd1 c (.seli (rdL (rdA c) n).1) (rdL (rdA c) n).2
 | 29, n => rd1 c (.selb (rdL (rdA c) n).1) (rdL (rdA c) n).2
 | 30, n => (.lmk (rdL rdT n).1 (rdL (rdA c) (rdL rdT n).2).1, (rdL (rdA c) (rdL rdT n).2).2)
 | 31, n => rd1 c (.llen (num n).1) (num n).2
 | 32, n => (.lgetb (num n).1 (num (num n).2).1 (rdA c (num (num n).2).2).1 (rdA c (rdA c (num (num n).2).2).2).1, (rdA c (rdA c (num (num n).2).2).2).2)
 | 33, n => rd3 c (.lset (num n).1 (num (num n).2).1 (rdT (num (num n).2).2).1) (rdT (num (num n).2).2).2
 | 34, n => rd2 c .lcat n
 | 35, n => rd2 c (.ltake (num n).1) (num n).2
 | 36, n => rd2 c (.ldrop (num n).1) (num n).2
 | 37, n => (.lrep (rdA c n).1 (rdL rdT (rdA c n).2).1 (rdL (rdA c) (rdL rdT (rdA c n).2).2).1, (rdL (rdA c) (rdL rdT (rdA c n).2).2).2)
 | 38, n => rd3 c .itel n
 | 39, n => rd3 c (.aset (num n).1 (num (num n).2).1 (num (num (num n).2).2).1 (rdT (num (num (num n).2).2).2).1) (rdT (num (num (num n).2).2).2).2
 | 40, n => rd2 c (.lsub (num n).1 (num (num n).2).1 (num (num (num n).2).2).1) (num (num (num n).2).2).2
 | _, n => rd2 c .sbeq n
def rdNs : Nat → Nat → Nat → Em
 | 0, _, _ => []
 | k + 1, c, n => (c, (zuf c n).1) :: rdNs k (c + 1) (zuf c n).2
def rdPB (c n : Nat) : (A × Bool) × Nat := (((rdA c n).1, Nat.beq ((rdA c n).2 % 16) 1), (rdA c n).2 / 16)
def rdNd (c n : Nat) : Nd × Nat := (⟨(rdL (rdPB c) n).1, (rdA c (rdL (rdPB c) n).2).1⟩, (rdA c (rdL (rdPB c) n).2).2)
def dec (nin : Nat) (ls : List LR) (n : Nat) : Out :=
 let k := (num n).1
 let a := rdL (rdA (nin + k)) (num n).2
 let o := rdL (rdNd (nin + k)) a.2
 ⟨rdNs k nin o.2, o.1, ls, a.1⟩
end Go.Sx
