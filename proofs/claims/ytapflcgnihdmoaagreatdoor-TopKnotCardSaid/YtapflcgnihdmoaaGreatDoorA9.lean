/- The layers of told functions; the states that the laws come through. -/
import Derived.Test.YtapflcgnihdmoaaGreatDoorA6
import Derived.Test.YtapflcgnihdmoaaGreatDoorA8
/- The tables in the memory; what stands for functions without a body. -/
namespace X
open Go
set_option linter.unusedVariables false
noncomputable def cmsX (x y : AV) (k : AV → Bool) : Bool := wS x fun a => wS y fun b => k (.int .i64 (Bool.rec (Bool.rec (.ofNat 1) (.negSucc 0) (lless a b)) (.ofNat 0) (lbeq a b)))
noncomputable def cmsF : Fn := fun as s k => ar1 as fun x as => ar1 as fun y as => ar0 as (cmsX x y fun v => k v s)
def tabB : List Bool := [true, true, true, true, false, true, true, false, false, false, true, false, true, false, false, true, false, false, false, false, false, false, false, false, false]
def tabN : List Nat := [0, 1, 56, 2, 57, 49, 28, 3, 61, 58, 42, 50, 38, 29, 17, 4, 62, 47, 59, 36, 45, 43, 51, 22, 53, 39, 33, 30, 24, 18, 12, 5, 63, 55, 48, 27, 60, 41, 37, 16, 46, 35, 44, 21, 52, 32, 23, 11, 54, 26, 40, 15, 34, 20, 31, 10, 25, 14, 19, 9, 13, 8, 7, 6]
def S0 : St := .mk (.nd (.nd (.nd (.nd (.nd (.nd (.ob (.glob 64 [tabN.map fun n => .int .u8 (.ofNat n)])) .e (.ob (.glob 25 [tabB.map .bool])) .e .e .e .e .e) .e .e .e .e .e .e .e) .e .e .e .e .e .e .e) .e .e .e .e .e .e .e) .e .e .e .e .e .e .e) .e .e .e .e .e .e .e) (.mk .d0 .d0 .d0 .d0 .d0 .d3)
noncomputable def m0 : Clo := fun f => Bool.rec nof cmsF (Nat.beq f 189)
noncomputable def insB (b : Id) (l q : Nat) (x v : AV) (s : St) (k : K) : Bool := rowsOf 16 x s fun _ rs => wSl v false fun b' _ l' _ _ _ => Bool.rec false (wCe (putO b .e s) b' fun _ _ => rowsOf 16 v s fun _ vs => apN b 16 l 1 (app (tk q rs) (app vs (drp rs q))) s k) (Nat.beq l' 1)
noncomputable def insF (h : Fn) : Fn := fun vs s k => ar1 vs fun x t1 => ar1 t1 fun y t2 => ar1 t2 fun v t3 => ar0 t3 (wSl x (h vs s k) fun b i l r z ex => Bool.rec (wI y fun t q => Bool.rec false (Int.rec (fun q => Bool.rec (h vs s k) (Bool.rec false (Bool.rec false (insB b l q x v s k) (Nat.beq z 16)) (h (.sl b i l l z true :: t1) s k)) (Nat.ble (Nat.succ q) l)) (fun _ => false) q) (kq t .i64)) (h vs s k) ex)
/-- one more function -/
noncomputable def pm (m : Clo) (g : Nat) (F : Fn) : Clo := fun f => Bool.rec (m f) F (Nat.beq f g)
/-- one more function of the program's, over the layers so far -/
noncomputable def up1 (m : Clo) (g : Nat) (h : Clo → Clo → Fn) : Clo := pm m g (h (clo m) m)
/-- one more, told by a table first -/
noncomputable def upT (m : Clo) (g : Nat) (t : List (List Tr × Tr)) (h : Clo → Clo → Fn) : Clo := pm m g (memoG t (h (clo m) m))
/-- told by a table alone -/
noncomputable def upM (m : Clo) (g : Nat) (t : List (List Tr × Tr)) : Clo := pm m g (memoF t)
/-- the tables -/
structure Tbs where
  t110 : List (List Tr × Tr) := []
  t164 : List (List Tr × Tr) := []
  t66 : List (List Tr × Tr) := []
  t220 : List (List Tr × Tr) := []
  t207 : List (List Tr × Tr) := []
  t108 : List (List Tr × Tr) := []
  t113 : List (List Tr × Tr) := []
  t59 : List (List Tr × Tr) := []
  t94 : List (List Tr × Tr) := []
  t93 : List (List Tr × Tr) := []
  t122 : List (List Tr × Tr) := []
  t140 : List (List Tr × Tr) := []
  t170 : List (List Tr × Tr) := []
  t153 : List (List Tr × Tr) := []
  t95 : List (List Tr × Tr) := []
  t44 : List (List Tr × Tr) := []
/-- two processes, compared: told by their places -/
noncomputable def prN (v : AV) (k : Nat → Bool) (d : Bool) : Bool := mA v (fun l => List.rec d (fun a l _ => mI a (fun _ a => List.rec d (fun _ l _ => List.rec d (fun c _ _ => mI c (fun _ c => k (Nat.add (Int.rec (fun n => n) (fun _ => 0) a) (Nat.mul 4 (Nat.pred (Int.rec (fun n => n) (fun _ => 0) c))))) d) l) l) d) l) d
noncomputable def hn53 (vs : List AV) (k : Nat → Bool) (d : Bool) : Bool := List.rec d (fun x l _ => prN x (fun i => List.rec d (fun y _ _ => prN y (fun j => k (Nat.add (Nat.mul 8 i) j)) d) l) d) vs
def prT (i : Nat) : List Tr := [.i (.ofNat (Nat.mod i 4)), .i 1, .i (.ofNat (Nat.add 1 (Nat.div i 4)))]
def cmpN (i j : Nat) : Int := match Nat.blt i j, Nat.blt j i with
  | true, _ => .negSucc 0
  | false, true => .ofNat 1
  | false, false => .ofNat 0
def keyN (i : Nat) : Nat := Nat.add (Nat.mul 2 (Nat.mod i 4)) (Nat.div i 4)
def e53 (n : Nat) : List Tr × Tr := ([.a (prT (Nat.div n 8)), .a (prT (Nat.mod n 8))], .i (cmpN (keyN (Nat.div n 8)) (keyN (Nat.mod n 8))))
noncomputable def runX (h : Clo → Clo → Fn) (m : Clo) (p : List Tr × Tr) : Bool := runF S0 (h (clo m) m) p
noncomputable def m00 : Clo := pm m0 53 (memoH hn53 e53 64 (h53 (clo m0) m0))
noncomputable def lA : Clo := up1 (up1 (pm m00 134 (insF (h134 (clo m00) m00))) 13 h13) 100 h100
noncomputable def l1 (t : Tbs) : Clo := upT (upT (upT (upT (upT lA 110 t.t110 h110) 164 t.t164 h164) 66 t.t66 h66) 220 t.t220 h220) 207 t.t207 h207
noncomputable def lB (t : Tbs) : Clo := upT (upT (upT (upT (l1 t) 108 t.t108 h108) 113 t.t113 h113) 59 t.t59 h59) 94 t.t94 h94
noncomputable def lC (t : Tbs) : Clo := upT (upT (upT (upT (lB t) 93 t.t93 h93) 122 t.t122 h122) 140 t.t140 h140) 170 t.t170 h170
noncomputable def lD (t : Tbs) : Clo := up1 (up1 (up1 (up1 (up1 (up1 (lC t) 57 h57) 67 h67) 200 h200) 143 h143) 252 h252) 33 h33
noncomputable def lE (t : Tbs) : Clo := up1 (upT (up1 (upT (lD t) 153 t.t153 h153) 49 h49) 95 t.t95 h95) 44 h44
noncomputable def m1 : Clo := lE {}
end X
/- The states of the central manager that the two laws come through, as trees. -/
namespace X
open Go
set_option linter.unusedVariables false
/-- processes in their order -/
def ordP (n : Nat) : List Nat := [0, 4, 1, 5, 2, 6, 3, 7].filter fun i => Nat.blt i n
/-- a slice of these cells; of none: the nil slice, or one that is not nil -/
def slT (z : Nat) (e : Bool) (l : List Tr) : Tr := match l with
  | [] => match e with
    | true => .e z
    | false => .n
  | _ => .r z (l.length / z) l
def noE : List Tr := [.i 0, .s [], .i 0, .i 0, .n]
def noR : List Tr := noE ++ [.i 0, .i 0]
def amT (m u : Nat) : List Tr := [.i (.ofNat m), .i (.ofNat u)]
def atE (nm : List Nat) (m u : Nat) : List Tr := [.i 0, .s nm] ++ amT m u ++ [.n]
def holdT (i m u : Nat) : List Tr := prT i ++ amT m u
def waitT (i m u : Nat) : List Tr := prT i ++ amT m u ++ [.i 0, .i 0]
def queT (nm : List Nat) (kind u : Nat) (hs cs ws : List Tr) (ce we : Bool) (g : Nat) : List Tr := [.s nm, .i (.ofNat kind), .i (.ofNat u), .i 0, slT 5 false hs, slT 7 ce cs, slT 7 we ws, .i (.ofNat g)]
def entT (nm : List Nat) (m u m' u' : Nat) : List Tr := [.s nm] ++ amT m u ++ amT m' u'
def proT (i cost : Nat) (es : List Tr) (wait : Bool) (e : List Tr) (g : Nat) : List Tr := prT i ++ [.i (.ofNat cost), slT 5 false es, .n, .b wait] ++ e ++ [.i 0, .i 0, .i 0, .i (.ofNat g)]
def cenT (qs ps : List Tr) : Tr := .a [.i 0, slT 8 false qs, slT 16 false ps]
def openK (i cost : Nat) : Tr := .a ([.i 1] ++ prT i ++ noR ++ [.s [], .i (.ofNat cost)])
def askK (i : Nat) (e : List Tr) : Tr := .a ([.i 2] ++ prT i ++ e ++ [.i 0, .i 0] ++ [.s [], .i 0])
def grantV (i : Nat) (nm : List Nat) (m u : Nat) : List Tr := [.i 1] ++ prT i ++ [.s nm] ++ amT m u
def settleV (i : Nat) : List Tr := [.i 2] ++ prT i ++ [.s []] ++ amT 0 0
def resT (c : Tr) (ev : List Tr) : Tr := .t [c, slT 7 false ev, .i 0]
abbrev Ety := List Tr × Tr
/-! bankers -/
/-- n processes, of which the first a hold h units, the first g of them t, and those from g to b wait for t; last: what was granted last: nothing, a claim, a conversion -/
def banT (u n a h t g b last : Nat) : Tr :=
  cenT (queT [112] 2 u (((ordP n).filter fun i => Nat.blt i a).flatMap fun i => holdT i 0 (match Nat.blt i g with | true => t | false => h)) (((List.range b).filter fun i => Nat.ble g i).flatMap fun i => waitT i 0 t) [] (Nat.beq last 2) (Nat.beq last 1) (a + b))
    ((ordP n).flatMap fun i => proT i 1 (match Nat.blt i g, Nat.blt i a with
      | true, _ => entT [112] 0 0 0 h ++ entT [112] 0 h 0 t
      | false, true => entT [112] 0 0 0 h
      | false, false => []) (Nat.blt i b && Nat.ble g i) (match Nat.blt i b && Nat.ble g i with | true => atE [112] 0 t | false => noE) (match Nat.blt i g, Nat.blt i b, Nat.blt i a with
      | true, _, _ => 4
      | _, true, _ => 3
      | _, _, true => 2
      | _, _, _ => 0))
def entO (u i : Nat) : Ety := ([banT u i 0 0 0 0 0 0, openK i 1], resT (banT u (i + 1) 0 0 0 0 0 0) [])
def entH (u n h i : Nat) : Ety := ([banT u n i h 0 0 0 (match i with | 0 => 0 | _ => 1), askK i (atE [112] 0 h)], resT (banT u n (i + 1) h 0 0 0 1) (grantV i [112] 0 h ++ settleV i))
/-- how many of the n are granted t -/
def grB (u n h t : Nat) : Nat := Nat.min n ((u - n * h) / (t - h))
def stT (u n h t i : Nat) : Tr := banT u n n h t (Nat.min i (grB u n h t)) i (match i with | 0 => 1 | _ => match Nat.ble i (grB u n h t) with | true => 2 | false => 0)
def entT' (u n h t i : Nat) : Ety := ([stT u n h t i, askK i (atE [112] 0 t)], resT (stT u n h t (i + 1)) (match Nat.blt i (grB u n h t) with | true => grantV i [112] 0 t ++ settleV i | false => []))
/-! knots -/
def nmK (j : Nat) : List Nat := [Nat.add 97 j]
/-- the others' locks, and one more -/
def kidsK (n i : Nat) (more : Bool) : List Nat := ((List.range n).filter fun j => not (Nat.beq j i)) ++ (match more with | true => [n] | false => [])
def exK (n : Nat) (k : Tr) (i : Nat) (more : Bool) : List Tr := [k, .s []] ++ amT 0 0 ++ [.r 5 (kidsK n i more).length ((kidsK n i more).flatMap fun j => atE (nmK j) 5 0)]
def isL (l : Option Nat) (i : Nat) : Bool := match l with
  | some j => Nat.beq i j
  | none => false
/-- has the lucky one been through? -/
def done (l : Option Nat) (b : Nat) : Bool := match l with
  | some j => Nat.blt j b
  | none => false
/-- n processes (n + 1 locks); the first a hold their own lock; the first b have asked for k of the others; the lucky one for one more lock -/
def knoT (n a : Nat) (k : Tr) (b : Nat) (l : Option Nat) (last : Bool) : Tr :=
  cenT ((List.range (n + 1)).flatMap fun j => match Nat.beq j n with
    | true => (match done l b, l with
      | true, some i => queT (nmK j) 1 1 (holdT i 5 0) [] [] false false 1
      | _, _ => queT (nmK j) 1 1 [] [] [] false false 0)
    | false => queT (nmK j) 1 1 (match Nat.blt j a with | true => holdT j 5 0 | false => []) []
      (((List.range b).filter fun i => not (Nat.beq i j) && not (isL l i)).flatMap fun i => waitT i 5 0) false (last && Nat.beq (Nat.succ j) a)
      ((match Nat.blt j a with | true => 1 | false => 0) + ((List.range b).filter fun i => not (Nat.beq i j)).length + (match done l b && not (isL l j) with | true => 1 | false => 0)))
    ((ordP n).flatMap fun i => match isL l i && done l b with
      | true => proT i 1 (entT (nmK i) 0 0 5 0 ++ entT (nmK n) 0 0 5 0) false noE 4
      | false => proT i 1 (match Nat.blt i a with | true => entT (nmK i) 0 0 5 0 | false => []) (Nat.blt i b) (match Nat.blt i b with | true => exK n k i false | false => noE) (match Nat.blt i b, Nat.blt i a with
        | true, _ => 3
        | _, true => 2
        | _, _ => 0))
/-- n + 1 locks, i of the processes opened -/
def knoO (n i : Nat) : Tr := cenT ((List.range (n + 1)).flatMap fun j => queT (nmK j) 1 1 [] [] [] false false 0) ((ordP i).flatMap fun i => proT i 1 [] false noE 0)
def entKO (n i : Nat) : Ety := ([knoO n i, openK i 1], resT (knoO n (i + 1)) [])
def entKA (n i : Nat) : Ety := ([knoT n i .n 0 none (match i with | 0 => false | _ => true), askK i (atE (nmK i) 5 0)], resT (knoT n (i + 1) .n 0 none true) (grantV i (nmK i) 5 0 ++ settleV i))
def stK (n : Nat) (k : Tr) (i : Nat) (l : Option Nat) : Tr := knoT n n k i l (match i with | 0 => true | _ => false)
def entKB (n : Nat) (k : Tr) (i : Nat) (l : Option Nat) : Ety := ([stK n k i l, askK i (exK n k i (isL l i))], resT (stK n k (i + 1) l) (match isL l i with | true => grantV i (nmK n) 5 0 ++ settleV i | false => []))
/-- an entry, run -/
noncomputable def runE (m : Clo) (p : Ety) : Bool := layL p.1 S0 fun vs s => h22 (clo m) m vs s fun v s' => mt true p.2 v s' true false
noncomputable def runs (m : Clo) (l : List Ety) : Bool := List.rec true (fun p _ ih => Bool.rec false ih (runE m p)) l
end X
/- Tables for the functions that the knots call again and again. -/
namespace X
open Go
set_option linter.unusedVariables false
def kI (k : Nat) : Tr := .i (.ofNat k)
/-- a lock that its process holds, or nobody -/
def qE (j : Nat) : List Tr := queT (nmK j) 1 1 [] [] [] false false 0
def qW (j : Nat) (w : List Nat) (e : Bool) (g : Nat) : List Tr := queT (nmK j) 1 1 (holdT j 5 0) [] (w.flatMap fun i => waitT i 5 0) false e g
def qL (n l : Nat) (e : Bool) : List Tr := queT (nmK n) 1 1 (holdT l 5 0) [] [] false e 1
def oth (j b : Nat) : List Nat := (List.range b).filter fun i => not (Nat.beq i j)
def othL (j b l : Nat) : List Nat := (oth j b).filter fun i => not (Nat.beq i l)
def resK (n : Nat) : List Tr := (List.range n).flatMap fun j => [.s (nmK j), .i 1, .i 1, .i 0]
def gW (p : Nat × Nat) : Nat := 1 + (oth p.1 p.2).length
def gD (p : Nat × Nat) : Nat := 2 + (oth p.1 p.2).length
/-! queue.Valid -/
def vE (j : Nat) : Ety := ([.a (qE j)], .b true)
def vW (p : Nat × Nat) : Ety := ([.a (qW p.1 (oth p.1 p.2) false (gW p))], .b true)
def vD (l : Nat) (p : Nat × Nat) : Ety := ([.a (qW p.1 (othL p.1 p.2 l) false (gD p))], .b true)
def vL (l : Nat) (p : Nat × Bool) : Ety := ([.a (qL p.1 l p.2)], .b true)
/-! queue.Procs -/
def prsT (l : List Nat) : Tr := .r 3 l.length (l.flatMap prT)
def qP (j : Nat) (w : List Nat) (g : Nat) : Ety := ([.a (qW j w false g)], prsT ((ordP 8).filter fun i => Nat.beq i j || w.any (Nat.beq i)))
def pE (j : Nat) : Ety := ([.a (qE j)], .n)
def pW (p : Nat × Nat) : Ety := qP p.1 (oth p.1 p.2) (gW p)
def pD (l : Nat) (p : Nat × Nat) : Ety := qP p.1 (othL p.1 p.2 l) (gD p)
def pL (l : Nat) (p : Nat × Bool) : Ety := ([.a (qL p.1 l p.2)], prsT [l])
/-! places: (0, _, j, b): lock j, the first b have asked; (1, l, j, b): and the lucky l has been through; (2, l, j, e): the spare lock j is l's; (3, _, j, _): it is nobody's -/
abbrev Q4 := Nat × Nat × Nat × Nat
def v93 : Q4 → Ety
  | (0, _, j, b) => vW (j, b)
  | (1, l, j, b) => vD l (j, b)
  | (2, l, j, e) => vL l (j, Nat.beq e 1)
  | (_, _, j, _) => vE j
def p113 : Q4 → Ety
  | (0, _, j, b) => pW (j, b)
  | (1, l, j, b) => pD l (j, b)
  | (2, l, j, e) => pL l (j, Nat.beq e 1)
  | (_, _, j, _) => pE j
def allW (j : Nat) : List Q4 := (List.range 8).map fun b => (0, 0, j, b)
def allD (l j : Nat) : List Q4 := match Nat.beq j l with
  | true => []
  | false => ((List.range 8).filter fun b => Nat.blt l b).map fun b => (1, l, j, b)
def allL (l : Nat) : List Q4 := ((List.range 8).filter fun j => Nat.blt l j).flatMap fun j => [(2, l, j, 1), (2, l, j, 0)]
def allE : List Q4 := (List.range 8).map fun j => (3, 0, j, 0)
/-- pieces: (0, j): allW j; (l + 1, j): allD l j; (8, l): allL l; (9, _): allE -/
def pc93 (p : Nat × Nat) : List Q4 := match Nat.beq p.1 0, Nat.beq p.1 8, Nat.beq p.1 9 with
  | true, _, _ => allW p.2
  | _, true, _ => allL p.2
  | _, _, true => allE
  | _, _, _ => allD (p.1 - 1) p.2
noncomputable def run93 (q : Q4) : Bool := runX h93 (lB {}) (v93 q)
noncomputable def run113 (q : Q4) : Bool := runX h113 (l1 {}) (p113 q)
/-! table.Procs -/
def inL (j : Nat) (l : List Nat) : Bool := l.any (Nat.beq j)
/-- the i-th has claimed the first t of the others' locks; the first c of these are given up again; d: the lucky one, if it has been through; lk: has the i-th the spare lock, just now -/
def tabS (n i : Nat) (d : Option Nat) (t c : Nat) (lk : Bool) : Tr := .r 8 (n + 1) ((List.range (n + 1)).flatMap fun j => match Nat.beq j n with
  | true => (match d, lk with
    | some l, _ => qL n l false
    | none, true => qL n i (Nat.beq c 0)
    | none, false => qE n)
  | false => qW j ((match d with | some l => othL j i l | none => oth j i) ++ (match inL j ((oth i n).take t) && not (inL j ((oth i n).take c)) with | true => [i] | false => [])) false
      (1 + (oth j i).length + (match d with | some l => (match Nat.beq j l with | true => 0 | false => 1) | none => 0) + (match inL j ((oth i n).take t) with | true => 1 | false => 0) + (match inL j ((oth i n).take c) with | true => 1 | false => 0)))
def proL (n : Nat) : Tr := .r 3 n ((ordP n).flatMap prT)
def p59 (n i : Nat) (d : Option Nat) (t c : Nat) (lk : Bool) : Ety := ([tabS n i d t c lk], proL n)
/-- (0, n, i, _, t): the i-th has claimed t of the others' locks; (1, n, i, l, t): and the lucky l has been through; (2, n, i, _, c): the lucky one has given c of them up -/
abbrev Q5 := Nat × Nat × Nat × Nat × Nat
def r59 : Q5 → Ety
  | (0, n, i, _, t) => p59 n i none t 0 false
  | (1, n, i, l, t) => p59 n i (some l) t 0 false
  | (_, n, i, _, c) => p59 n i none (n - 1) c true
def two (n i : Nat) : List (Nat × Nat) := (List.range n).flatMap fun j => match Nat.blt i n with
  | true => [(j, i), (j, i + 1)]
  | false => [(j, i)]
/-- the queues that these come through -/
def t113i : Q5 → List Q4
  | (0, n, i, _, _) => (two n i).map (fun p => (0, 0, p)) ++ [(3, 0, n, 0)]
  | (1, n, i, l, _) => ((two n i).map fun p => match Nat.beq p.1 l with
    | true => (0, 0, p)
    | false => (1, l, p)) ++ [(2, l, n, 0)]
  | (_, n, i, _, _) => ((List.range n).flatMap fun j => match Nat.beq j i with
    | true => [(0, 0, j, i)]
    | false => [(0, 0, j, i + 1), (1, i, j, i + 1)]) ++ [(2, i, n, 1), (2, i, n, 0)]
noncomputable def lP (q : Q5) : Clo := upT (l1 {}) 113 ((t113i q).map p113) h113
noncomputable def run59 (q : Q5) : Bool := runX h59 (lP q) (r59 q)
/-- pieces: (0, n, i, _), (1, n, i, l), (2, n, i, _): all t; (3, n, _, _), (4, n, r, _): the last state -/
def pc59 : Q4 → List Q5
  | (0, n, i, _) => (List.range n).map fun t => (0, n, i, 0, t)
  | (1, n, i, l) => (List.range n).map fun t => (1, n, i, l, t)
  | (2, n, i, _) => (List.range n).map fun t => (2, n, i, 0, t)
  | (3, n, _, _) => [(0, n, n, 0, 0)]
  | (_, n, r, _) => [(1, n, n, r, 0)]
/-- the i-th claims the others' locks; the lucky one gives them up -/
def t59p (n i : Nat) (l : Option Nat) : List Q4 := match l with
  | none => [(0, n, i, 0)]
  | some r => match Nat.blt r i with
    | true => [(1, n, i, r)]
    | false => (0, n, i, 0) :: (match Nat.beq i r with
      | true => [(2, n, i, 0)]
      | false => [])
def t59i (n i : Nat) (l : Option Nat) : List Q5 := (t59p n i l).flatMap pc59
/-! request.ValidExpr, formula.Atoms, formula.Resolve, formula.Holds -/
def e94 (n : Nat) (m : Bool) (k : Tr) (i : Nat) : Ety := ([.a (exK n k i m)], .b true)
def atsK (n i : Nat) (m : Bool) : Tr := .r 3 (kidsK n i m).length ((kidsK n i m).flatMap fun j => [.s (nmK j)] ++ amT 5 0)
def e122 (n : Nat) (m : Bool) (k : Tr) (i : Nat) : Ety := ([.a (exK n k i m)], atsK n i m)
def e140 (n : Nat) (m : Bool) (k : Tr) (i : Nat) : Ety := ([.r 4 (n + 1) (resK (n + 1)), .a (exK n k i m)], .i 0)
def noK (n : Nat) : Tr := .r 1 n (List.replicate n (.b false))
def e170 (n : Nat) (m : Bool) (k : Tr) (i : Nat) : Ety := ([.a (exK n k i m), noK (kidsK n i m).length], .b false)
/-- for all k: the i-th's request, and the lucky one's -/
def pc94 (p : Nat × Nat) : List (Bool × Nat) := (true, 1) :: ((List.range p.1).filter fun k => Nat.blt 0 k).map fun k => (false, k)
noncomputable def run94 (p : Nat × Nat) (q : Bool × Nat) : Bool := runX h94 m1 (e94 p.1 q.1 (kI q.2) p.2) && runX h122 m1 (e122 p.1 q.1 (kI q.2) p.2) && runX h140 m1 (e140 p.1 q.1 (kI q.2) p.2) && runX h170 m1 (e170 p.1 q.1 (kI q.2) p.2)
/-! ledger.Holdings -/
def led (es : List Tr) : Tr := .a [slT 5 false es, .n]
def e108 (i : Nat) : Ety := ([led (entT (nmK i) 0 0 5 0)], .r 3 1 ([.s (nmK i)] ++ amT 5 0))
def e108L (p : Nat × Nat) : Ety := ([led (entT (nmK p.2) 0 0 5 0 ++ entT (nmK p.1) 0 0 5 0)], .r 3 2 ([.s (nmK p.2)] ++ amT 5 0 ++ [.s (nmK p.1)] ++ amT 5 0))
/-! the tables for the i-th request of others' locks -/
def dn (l : Option Nat) (i : Nat) : Option Nat := match done l i with
  | true => l
  | false => none
def t93i (n i : Nat) (l : Option Nat) : List Q4 := match dn l i with
  | some l => (2, l, n, 0) :: (two n i).map fun p => match Nat.beq p.1 l with
    | true => (0, 0, p)
    | false => (1, l, p)
  | none => (match isL l i with
    | true => (2, i, n, 1) :: (2, i, n, 0) :: ((oth i n).map fun j => (1, i, j, i + 1))
    | false => []) ++ (3, 0, n, 0) :: (two n i).map fun p => (0, 0, p)
/-- those that wait behind the i-th's request -/
def waK (i : Nat) (l : Option Nat) : List Nat := (List.range i).filter fun j => not (isL l j)
/-- whose requests they are -/
def tEi (i : Nat) (l : Option Nat) : List (Bool × Nat) := (isL l i, i) :: (waK i l).map fun j => (false, j)
def t108i (n : Nat) (l : Option Nat) : List (Nat × Nat) := (match l with | some l => [(n, l)] | none => []) ++ (List.range n).map fun i => (0, i)
def r108 : Nat × Nat → Ety
  | (0, i) => e108 i
  | (n, l) => e108L (n, l)
def tbsK (n : Nat) (k : Tr) (i : Nat) (l : Option Nat) : Tbs := { t108 := (t108i n l).map r108, t59 := (t59i n i l).map r59, t94 := (tEi i l).map (fun p => e94 n p.1 k p.2), t93 := (t93i n i l).map v93, t122 := (tEi i l).map (fun p => e122 n p.1 k p.2), t140 := (tEi i l).map (fun p => e140 n p.1 k p.2), t170 := (tEi i l).map (fun p => e170 n p.1 k p.2) }
noncomputable def doK (n : Nat) (k : Tr) (i : Nat) (l : Option Nat) : Bool := runX h22 (lE (tbsK n k i l)) (entKB n k i l)
end X
