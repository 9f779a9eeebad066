/- Formulas read: signs, and the reading of signs: plain functions on lists of bytes, without a program. -/
import Derived.Test.YtmjpecjciibngaaMem
namespace Go.Proofs.Ytmjpecjciibngaa
open Go.RowKit
set_option linter.unusedVariables false

abbrev Bs := List UInt8
def str (l : Bs) : ByteArray := ⟨l.toArray⟩

def isLet (c : UInt8) : Bool := (decide (97 ≤ c.toNat) && decide (c.toNat ≤ 122)) || (decide (65 ≤ c.toNat) && decide (c.toNat ≤ 90))
def isNum (c : UInt8) : Bool := decide (48 ≤ c.toNat) && decide (c.toNat ≤ 57)
def isBlank (c : UInt8) : Bool := c == 32 || (c == 9 || c == 10)
def isVar : Bs → Bool
  | [a, b] => a == 118 && (decide (48 ≤ b.toNat) && decide (b.toNat ≤ 55))
  | _ => false
def signs : List Bs := [[60, 45, 62], [45, 62], [33], [38], [124], [94], [40], [41], [44]]
def word (l : Bs) : Bs := l.takeWhile fun c => isLet c || isNum c
/-- The sign that a text begins with. -/
def scanL (l : Bs) : Bs :=
  match signs.find? (fun k => k.isPrefixOf l) with
  | some k => k
  | none =>
    match l with
    | [] => []
    | c :: r =>
      if c == 48 || c == 49 then [c]
      else if !isLet c then [63]
      else
        let w := c :: word r
        if w == [97, 108, 108] || (w == [97, 110, 121] || (w == [105, 116, 101] || isVar w)) then w else [63]

abbrev Tok := Bs × Nat
/-- All signs of a text from a place on; behind the last one its end; behind what is no sign nothing. -/
def lexL : Nat → Bs → Nat → List Tok
  | 0, _, at_ => [([], at_)]
  | n + 1, l, at_ =>
    let b := (l.takeWhile isBlank).length
    let l' := l.drop b
    let t := scanL l'
    if t == [] || t == [63] then [(t, at_ + b)] else (t, at_ + b) :: lexL n (l'.drop t.length) (at_ + b + t.length)
def lexFrom (s : Bs) (at_ : Nat) : List Tok := lexL (s.length + 1) (s.drop at_) at_

inductive Tree where
  | node (kind at_ var : Int) (kids : List Tree)
def Tree.zero : Tree := .node 0 0 0 []

/-- The reader: the signs that are left (never none), how deep, the first error and its place. -/
structure PS where
  toks : List Tok
  depth : Nat
  e : Nat
  eat : Nat
def PS.hd (p : PS) : Tok := p.toks.headD ([], 0)
def PS.at_ (p : PS) : Nat := p.hd.2
def PS.goes (p : PS) : PS := { p with toks := p.toks.tail }
def PS.bad (p : PS) (e : Nat) : PS := if p.e = 0 then { p with e := e, eat := p.at_ } else p
def PS.may (p : PS) (t : Bs) : Bool × PS := if p.e = 0 ∧ p.hd.1 = t then (true, p.goes) else (false, p)
def PS.must (p : PS) (t : Bs) : PS := let r := p.may t; if r.1 then r.2 else r.2.bad 230
abbrev Rd := PS → Tree × PS
def within (read : Rd) (p : PS) : Tree × PS :=
  let p1 := { p with depth := p.depth + 1 }
  let p2 := if 30 < p1.depth then p1.bad 231 else p1
  if p2.e ≠ 0 then (.zero, { p2 with depth := p2.depth - 1 })
  else let r := read p2; (r.1, { r.2 with depth := r.2.depth - 1 })
def chainGo (t : Bs) (kind : Int) (read : Rd) : Nat → Tree → PS → Tree × PS
  | 0, e, p => (e, p)
  | n + 1, e, p =>
    let m := p.may t
    if m.1 then let r := read m.2; chainGo t kind read n (.node kind p.at_ 0 [e, r.1]) r.2 else (e, m.2)
def chain (t : Bs) (kind : Int) (read : Rd) (p : PS) : Tree × PS :=
  let r := read p
  chainGo t kind read (r.2.toks.length) r.1 r.2
def digitOf (t : Bs) (i : Nat) : Nat := (t.getD i 0).toNat - 48
def boundP (un : Rd) (kind at_ : Int) (p : PS) : Tree × PS :=
  let v := p.hd.1
  if isVar v then
    let r := within un p.goes
    (.node kind at_ (digitOf v 1) [r.1], r.2)
  else (.zero, p.bad 230)
def iteStep (iff_ : Rd) (t : Bs) (l : List Tree) (p : PS) : List Tree × PS :=
  let r := within iff_ (p.must t)
  (l ++ [r.1], r.2)
def iteP (iff_ : Rd) (at_ : Int) (p : PS) : Tree × PS :=
  let r1 := iteStep iff_ [40] [] p
  let r2 := iteStep iff_ [44] r1.1 r1.2
  let r3 := iteStep iff_ [44] r2.1 r2.2
  (.node 9 at_ 0 r3.1, r3.2.must [41])
def primP (iff_ : Rd) (p : PS) : Tree × PS :=
  let t := p.hd
  if isVar t.1 then (.node 1 t.2 (digitOf t.1 1) [], p.goes)
  else if t.1 = [48] ∨ t.1 = [49] then (.node 2 t.2 (digitOf t.1 0) [], p.goes)
  else
    let m := p.may [40]
    if m.1 then let r := within iff_ m.2; (r.1, r.2.must [41])
    else
      let m2 := m.2.may [105, 116, 101]
      if m2.1 then iteP iff_ t.2 m2.2
      else (.zero, m2.2.bad 230)
def unP (un iff_ : Rd) (p : PS) : Tree × PS :=
  if p.e ≠ 0 then (.zero, p)
  else
    let m := p.may [33]
    if m.1 then let r := within un m.2; (.node 3 p.at_ 0 [r.1], r.2)
    else
      let m2 := m.2.may [97, 108, 108]
      if m2.1 then boundP un 10 p.at_ m2.2
      else
        let m3 := m2.2.may [97, 110, 121]
        if m3.1 then boundP un 11 p.at_ m3.2 else primP iff_ m3.2
def orP (un : Rd) : Rd := chain [124] 5 (chain [94] 6 (chain [38] 4 un))
def impP (un imp : Rd) (p : PS) : Tree × PS :=
  let r := orP un p
  let m := r.2.may [45, 62]
  if m.1 then let r2 := within imp m.2; (.node 7 r.2.at_ 0 [r.1, r2.1], r2.2) else (r.1, m.2)
/-- The three readers that call themselves one deeper; at level 0 nothing is read deeper. -/
structure Lev where
  un : Rd
  imp : Rd
  iff_ : Rd
def Lev.next (L : Lev) : Lev :=
  let un := unP L.un L.iff_
  let imp := impP un L.imp
  { un, imp, iff_ := chain [60, 45, 62] 8 imp }
def Lev.none_ : Lev := ⟨fun p => (.zero, p), fun p => (.zero, p), fun p => (.zero, p)⟩
def lev : Nat → Lev
  | 0 => Lev.none_
  | n + 1 => (lev n).next
/-- A formula, its error's place, its error. -/
def parseL (s : Bs) : Tree × Nat × Nat :=
  if 4000 < s.length then (.zero, 0, 232)
  else
    let r := (lev 31).iff_ { toks := lexFrom s 0, depth := 0, e := 0, eat := 0 }
    let p := if r.2.e = 0 ∧ r.2.hd.1 ≠ [] then r.2.bad 230 else r.2
    if p.e ≠ 0 then (.zero, p.eat, p.e) else (r.1, 0, 0)

end Go.Proofs.Ytmjpecjciibngaa
