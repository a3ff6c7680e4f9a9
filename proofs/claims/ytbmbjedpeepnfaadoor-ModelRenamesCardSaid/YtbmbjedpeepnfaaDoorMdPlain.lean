/-
  Package model, plain: a file system as a row of nodes, and what each op does to it. No program in sight. No condition.
-/
import Derived.Test.YtbmbjedpeepnfaaDoorNmC
namespace Go.Proofs.YtbmbjedpeepnfaaDoor
open Go.RowKit
namespace Md

/-- a node: a directory with entries (each a name and the number of a node), or a file with bytes -/
structure Nd where
  dir : Bool
  ents : List (ByteArray × Nat)
  data : List UInt8
  links : Int

/-- all nodes that ever were; number 0 is the root -/
abbrev St := List Nd

structure Op where
  kind : Int
  path : ByteArray
  to' : ByteArray
  off : Int
  n : Int
  data : ByteArray

structure Rep where
  err : Int
  data : ByteArray
  names : List ByteArray
  dir : Bool
  links : Int
  size : Int

def er (e : Int) : Rep := ⟨e, ⟨#[]⟩, [], false, 0, 0⟩

def look : List (ByteArray × Nat) → ByteArray → Option Nat
  | [], _ => none
  | (x, v) :: l, k => if x = k then some v else look l k

def del (l : List (ByteArray × Nat)) (k : ByteArray) : List (ByteArray × Nat) := l.filter (fun p => decide (p.1 ≠ k))
def put (l : List (ByteArray × Nat)) (k : ByteArray) (v : Nat) : List (ByteArray × Nat) := (k, v) :: del l k

/-- where a path leads: the directory, the name in it, and what is there -/
structure Pl where
  parent : Option Nat
  name : ByteArray
  is' : Option Nat

def Pl.no : Pl := ⟨none, ⟨#[]⟩, none⟩

def isDir (s : St) (i : Nat) : Bool := match s[i]? with | some nd => nd.dir | none => false
def entsOf (s : St) (i : Nat) : List (ByteArray × Nat) := match s[i]? with | some nd => nd.ents | none => []
def dataOf (s : St) (i : Nat) : List UInt8 := match s[i]? with | some nd => nd.data | none => []
def linksOf (s : St) (i : Nat) : Int := match s[i]? with | some nd => nd.links | none => 0

def walkP (s : St) : Pl → List ByteArray → Pl × Int
  | p, [] => (p, 0)
  | p, x :: l => match p.is' with
    | none => (Pl.no, 2)
    | some i => if isDir s i then walkP s ⟨some i, x, look (entsOf s i) x⟩ l else (Pl.no, 4)

def walk (s : St) (path : ByteArray) : Pl × Int := match Nm.split path with
  | none => (Pl.no, 1)
  | some l => walkP s ⟨none, ⟨#[]⟩, some 0⟩ l

def there (s : St) (path : ByteArray) : Pl × Int := let r := walk s path; if r.2 = 0 ∧ r.1.is' = none then (r.1, 2) else r

/-- of a file: its number, or what is wrong -/
def file (s : St) (path : ByteArray) : Option Nat × Int := let r := there s path; match r.1.is' with
  | some i => if r.2 = 0 ∧ isDir s i = true then (some i, 5) else (some i, r.2)
  | none => (none, r.2)

def first (wrong large : Bool) : Int := if wrong then 1 else if large then 8 else 0

def numbers (o : Op) : Int :=
  if o.kind = 3 then first (decide (o.off < 0) || decide (o.n < 0)) (decide (4096 < o.n))
  else if o.kind = 4 then first (decide (o.off < 0)) (decide (4096 < o.data.size) || decide (1048576 < o.off) || decide (1048576 - o.off < (o.data.size : Int)))
  else if o.kind = 11 then first (decide (o.n < 0)) (decide (1048576 < o.n)) else 0

def two (o : Op) : Bool := decide (o.kind = 10) || decide (o.kind = 9)
def slash : ByteArray := ⟨#[47]⟩

def paths (o : Op) : Int :=
  if two o then (if o.path = slash ∨ o.to' = slash then 1 else if (Nm.split o.path).isNone || (Nm.split o.to').isNone then 1 else 0)
  else if (Nm.split o.path).isNone then 1 else 0

def leS (a b : ByteArray) : Bool := !Op.bytesLess b.data.toList a.data.toList
def names (l : List (ByteArray × Nat)) : List ByteArray := (l.map (·.1)).mergeSort leS

def stat (s : St) (o : Op) : Rep := let r := there s o.path; match r.1.is', decide (r.2 = 0) with
  | some i, true => ⟨0, ⟨#[]⟩, [], isDir s i, linksOf s i, (dataOf s i).length⟩
  | _, _ => er r.2

def list (s : St) (o : Op) : Rep := let r := there s o.path; match r.1.is', decide (r.2 = 0) with
  | some i, true => if isDir s i then ⟨0, ⟨#[]⟩, names (entsOf s i), false, 0, 0⟩ else er 4
  | _, _ => er r.2

def read (s : St) (o : Op) : Rep := let r := file s o.path; match r.1, decide (r.2 = 0) with
  | some i, true => ⟨0, ⟨(((dataOf s i).drop o.off.toNat).take o.n.toNat).toArray⟩, [], false, 0, 0⟩
  | _, _ => er r.2

/-- so many bytes at least -/
def grown (d : List UInt8) (n : Nat) : List UInt8 := d ++ List.replicate (n - d.length) 0
/-- written over from a place on -/
def over (d : List UInt8) (off : Nat) (x : List UInt8) : List UInt8 := d.take off ++ x ++ d.drop (off + x.length)

def setNd (s : St) (i : Nat) (f : Nd → Nd) : St := s.modify i f

def write (s : St) (o : Op) : St × Int := let r := file s o.path; match r.1, decide (r.2 = 0) with
  | some i, true => if o.data.size = 0 then (s, 0) else (setNd s i fun nd => { nd with data := over (grown nd.data (o.off.toNat + o.data.size)) o.off.toNat o.data.data.toList }, 0)
  | _, _ => (s, r.2)

def truncate (s : St) (o : Op) : St × Int := let r := file s o.path; match r.1, decide (r.2 = 0) with
  | some i, true => (setNd s i fun nd => { nd with data := (grown nd.data o.n.toNat).take o.n.toNat }, 0)
  | _, _ => (s, r.2)

/-- an entry of a directory -/
def enter (s : St) (i : Nat) (x : ByteArray) (j : Nat) : St := setNd s i fun nd => { nd with ents := put nd.ents x j }
def leave (s : St) (i : Nat) (x : ByteArray) : St := setNd s i fun nd => { nd with ents := del nd.ents x }
def more (s : St) (i : Nat) (d : Int) : St := setNd s i fun nd => { nd with links := nd.links + d }

def create (s : St) (o : Op) : St × Int := let r := walk s o.path
  if r.2 = 0 then match r.1.is', r.1.parent with
    | some _, _ => (s, 3)
    | none, some q => (enter (s ++ [if o.kind = 6 then ⟨true, [], [], 0⟩ else ⟨false, [], [], 1⟩]) q r.1.name s.length, 0)
    | none, none => (s, 3)
  else (s, r.2)

def unlink (s : St) (o : Op) : St × Int := let r := file s o.path; match r.1, (walk s o.path).1.parent, decide (r.2 = 0) with
  | some i, some q, true => (more (leave s q (walk s o.path).1.name) i (-1), 0)
  | _, _, _ => (s, r.2)

def rmdir (s : St) (o : Op) : St × Int := let r := there s o.path
  if r.2 = 0 then match r.1.is', r.1.parent with
    | some i, some q => if isDir s i = false then (s, 4) else if (entsOf s i).length = 0 then (leave s q r.1.name, 0) else (s, 6)
    | _, _ => (s, 1)
  else (s, r.2)

def link (s : St) (o : Op) : St × Int := let r := file s o.path; let t := walk s o.to'
  match r.1, decide (r.2 = 0) with
  | some i, true => if t.2 = 0 then match t.1.is', t.1.parent with
      | some _, _ => (s, 3)
      | none, some q => if linksOf s i = 65535 then (s, 8) else (enter (more s i 1) q t.1.name i, 0)
      | none, none => (s, 3)
    else (s, t.2)
  | _, _ => (s, r.2)

def replaces (s : St) (n old : Nat) : Int :=
  if isDir s n = false ∧ isDir s old = true then 5 else if isDir s n = true ∧ isDir s old = false then 4 else if 0 < (entsOf s old).length then 6 else 0

def rename (s : St) (o : Op) : St × Int := let f := there s o.path; let t := walk s o.to'
  if f.2 ≠ 0 then (s, f.2) else if t.2 ≠ 0 then (s, t.2) else match f.1.is', f.1.parent, t.1.parent with
    | some i, some q, some r =>
      if isDir s i = true ∧ o.to' ≠ o.path ∧ Nm.below o.to' o.path = true then (s, 1)
      else match t.1.is' with
        | some j => if j = i then (s, 0) else if replaces s i j ≠ 0 then (s, replaces s i j) else (enter (leave (more s j (-1)) q f.1.name) r t.1.name i, 0)
        | none => (enter (leave s q f.1.name) r t.1.name i, 0)
    | _, _, _ => (s, 1)

/-- what an op answers, and what it leaves -/
def step (s : St) (o : Op) : St × Rep :=
  if paths o ≠ 0 then (s, er (paths o)) else if numbers o ≠ 0 then (s, er (numbers o))
  else if o.kind = 1 then (s, stat s o) else if o.kind = 2 then (s, list s o) else if o.kind = 3 then (s, read s o)
  else if o.kind = 4 then ((write s o).1, er (write s o).2) else if o.kind = 11 then ((truncate s o).1, er (truncate s o).2)
  else if o.kind = 5 ∨ o.kind = 6 then ((create s o).1, er (create s o).2) else if o.kind = 7 then ((unlink s o).1, er (unlink s o).2)
  else if o.kind = 8 then ((rmdir s o).1, er (rmdir s o).2) else if o.kind = 10 then ((link s o).1, er (link s o).2)
  else if o.kind = 9 then ((rename s o).1, er (rename s o).2) else (s, er 1)

/-- a new one -/
def new : St := [⟨true, [], [], 0⟩]

def steps (s : St) : List Op → St
  | [] => s
  | o :: l => steps (step s o).1 l

end Md
end Go.Proofs.YtbmbjedpeepnfaaDoor
