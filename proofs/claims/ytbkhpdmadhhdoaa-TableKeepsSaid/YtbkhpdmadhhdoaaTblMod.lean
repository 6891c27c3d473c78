/- Plain model of the table: the code's own steps, on lists. -/
set_option linter.unusedVariables false
set_option linter.unusedSimpArgs false
namespace Tbl

structure Pl where
  st : Int
  key : ByteArray
  n : Int

def noPl : Pl := ⟨0, ByteArray.empty, 0⟩
def gravePl : Pl := ⟨2, ByteArray.empty, 0⟩
instance : Inhabited Pl := ⟨noPl⟩

def fnvStep (h : BitVec 64) (c : UInt8) : BitVec 64 := (h ^^^ BitVec.ofNat 64 c.toNat) * 1099511628211#64
def fnvB (l : List UInt8) : BitVec 64 := l.foldl fnvStep 14695981039346656037#64
def fnv (l : List UInt8) : Nat := (fnvB l).toNat

theorem fnvB_snoc (l : List UInt8) (c : UInt8) : fnvB (l ++ [c]) = fnvStep (fnvB l) c := by
  unfold fnvB; simp

def findGo (ps : List Pl) (key : ByteArray) : Nat → Nat → Int → Int × Bool
  | 0, _, free => (free, false)
  | f + 1, a, free =>
    let p := ps.getD a default
    if p.st = 1 ∧ p.key = key then (a, true)
    else
      if p.st = 0 then ((if p.st ≠ 1 ∧ free < 0 then (a : Int) else free), false)
      else findGo ps key f ((a + 1) % ps.length) (if p.st ≠ 1 ∧ free < 0 then (a : Int) else free)

def home (ps : List Pl) (key : ByteArray) : Nat := fnv key.data.toList % ps.length

def find (ps : List Pl) (key : ByteArray) : Int × Bool := findGo ps key ps.length (home ps key) (-1)

/-- A row: its places, how many are full, how many graves. -/
structure Row where
  pl : List Pl
  full : Int
  graves : Int

def made (n : Nat) : Row := ⟨List.replicate n noPl, 0, 0⟩
def none : Row := ⟨[], 0, 0⟩

/-- put, where find's answer is (a, there). -/
def Row.putAt (r : Row) (a : Nat) (there : Bool) (key : ByteArray) (n : Int) : Row :=
  ⟨r.pl.set a ⟨1, key, n⟩, if there then r.full else r.full + 1, if there then r.graves else if (r.pl.getD a default).st = 2 then r.graves - 1 else r.graves⟩
def Row.put (r : Row) (key : ByteArray) (n : Int) : Row := r.putAt (find r.pl key).1.toNat (find r.pl key).2 key n
def Row.bury (r : Row) (a : Nat) : Row := ⟨r.pl.set a gravePl, r.full - 1, r.graves + 1⟩
/-- the number of the place a is n now. -/
def Row.num (r : Row) (a : Nat) (n : Int) : Row := ⟨r.pl.set a ⟨(r.pl.getD a default).st, (r.pl.getD a default).key, n⟩, r.full, r.graves⟩

theorem findGo_range (ps : List Pl) (key : ByteArray) (f a : Nat) (free : Int) (h0 : 0 < ps.length) (ha : a < ps.length) (hf : -1 ≤ free ∧ free < ps.length) :
    -1 ≤ (findGo ps key f a free).1 ∧ (findGo ps key f a free).1 < ps.length := by
  induction f generalizing a free with
  | zero => simpa [findGo] using hf
  | succ f ih =>
    rw [findGo]
    split
    · simp only; omega
    · split
      · simp only; split <;> omega
      · apply ih _ _ (Nat.mod_lt _ h0); split <;> omega
theorem find_range (ps : List Pl) (key : ByteArray) (h0 : 0 < ps.length) : -1 ≤ (find ps key).1 ∧ (find ps key).1 < ps.length :=
  findGo_range _ _ _ _ _ h0 (Nat.mod_lt _ h0) (by omega)
theorem findGo_there (ps : List Pl) (key : ByteArray) (f a : Nat) (free : Int) (h0 : 0 < ps.length) (ha : a < ps.length) (ht : (findGo ps key f a free).2 = true) :
    ∃ i : Nat, i < ps.length ∧ (findGo ps key f a free).1 = i ∧ (ps.getD i default).st = 1 ∧ (ps.getD i default).key = key := by
  induction f generalizing a free with
  | zero => simp [findGo] at ht
  | succ f ih =>
    rw [findGo] at ht ⊢
    split
    · next h => exact ⟨a, ha, rfl, h.1, h.2⟩
    · next h =>
      rw [if_neg h] at ht
      split
      · next h2 => rw [if_pos h2] at ht; simp at ht
      · next h2 => rw [if_neg h2] at ht; exact ih _ _ (Nat.mod_lt _ h0) ht
theorem find_there (ps : List Pl) (key : ByteArray) (h0 : 0 < ps.length) (ht : (find ps key).2 = true) :
    ∃ i : Nat, i < ps.length ∧ (find ps key).1 = i ∧ (ps.getD i default).st = 1 ∧ (ps.getD i default).key = key :=
  findGo_there _ _ _ _ _ h0 (Nat.mod_lt _ h0) ht

/-- The table: two rows, whether it is moved, and how many were. -/
structure Tab where
  old : Row
  fresh : Row
  moving : Bool
  next : Nat

def Tab.new : Tab := ⟨made 8, none, false, 0⟩
def Tab.len (t : Tab) : Int := t.old.full + t.fresh.full

/-- one place is moved. -/
def Tab.moved (t : Tab) : Tab :=
  let p := t.old.pl.getD t.next default
  if p.st = 1 then { t with old := t.old.bury t.next, fresh := t.fresh.put p.key p.n } else t
def Tab.one (t : Tab) : Tab :=
  let u := t.moved
  if t.next + 1 = t.old.pl.length then ⟨u.fresh, none, false, 0⟩ else { u with next := t.next + 1 }
def Tab.steps : Nat → Tab → Tab
  | 0, t => t
  | k + 1, t => if t.moving then Tab.steps k t.one else t
def Tab.step (t : Tab) : Tab := t.steps 4

/-- room: doubled until a quarter of it is more than so many. -/
def roomFor (full : Int) : Nat → Int → Int
  | 0, room => room
  | f + 1, room => if room / 4 ≤ full then roomFor full f (room * 2) else room
def Tab.room (t : Tab) : Int := roomFor t.old.full (4 * t.old.full + 4).toNat (max 8 ((t.old.pl.length : Int) / 2))
def Tab.grow (t : Tab) : Tab :=
  if t.moving = true ∨ 2 * (t.old.full + t.old.graves) < t.old.pl.length then t
  else { t with fresh := made t.room.toNat, moving := true }

/-- where a key stands: in the fresh row (true) or the old one, and at which place. -/
def Tab.at (t : Tab) (key : ByteArray) : Option (Bool × Nat) :=
  if t.fresh.pl.length ≠ 0 ∧ (find t.fresh.pl key).2 = true then some (true, (find t.fresh.pl key).1.toNat)
  else if t.old.pl.length ≠ 0 ∧ (find t.old.pl key).2 = true then some (false, (find t.old.pl key).1.toNat)
  else Option.none

def Tab.put2 (t : Tab) (key : ByteArray) (n : Int) : Tab × Bool :=
  match t.at key with
  | some (true, a) => ({ t with fresh := t.fresh.num a n }, false)
  | some (false, a) => ({ t with old := t.old.num a n }, false)
  | Option.none =>
    let u := t.grow
    if u.moving then ({ u with fresh := u.fresh.put key n }, true) else ({ u with old := u.old.put key n }, true)
def Tab.put (t : Tab) (key : ByteArray) (n : Int) : Tab × Bool := t.step.put2 key n

def Tab.look (t : Tab) (key : ByteArray) : Int × Bool :=
  match t.at key with
  | some (true, a) => ((t.fresh.pl.getD a default).n, true)
  | some (false, a) => ((t.old.pl.getD a default).n, true)
  | Option.none => (0, false)
def Tab.get (t : Tab) (key : ByteArray) : Tab × (Int × Bool) := (t.step, t.step.look key)
def Tab.cut (t : Tab) (key : ByteArray) : Tab :=
  match t.at key with
  | some (true, a) => { t with fresh := t.fresh.bury a }
  | some (false, a) => { t with old := t.old.bury a }
  | Option.none => t
def Tab.drop (t : Tab) (key : ByteArray) : Tab × (Int × Bool) := (t.step.cut key, t.step.look key)

def keysOf (ps : List Pl) : List ByteArray := (ps.filter fun p => p.st = 1).map (·.key)
theorem keysOf_take (ps : List Pl) (k : Nat) (h : k < ps.length) : keysOf (ps.take (k + 1)) = keysOf (ps.take k) ++ (if (ps.getD k default).st = 1 then [(ps.getD k default).key] else []) := by
  have e : ps.getD k default = ps[k] := by rw [List.getD_eq_getElem?_getD, List.getElem?_eq_getElem h]; rfl
  rw [List.take_succ_eq_append_getElem h, e]
  unfold keysOf
  rw [List.filter_append, List.map_append]
  by_cases hs : ps[k].st = 1 <;> simp [List.filter_cons, hs]
theorem keysOf_len (ps : List Pl) : (keysOf ps).length ≤ ps.length := by
  unfold keysOf; rw [List.length_map]; exact List.length_filter_le _ _
def Tab.keysRaw (t : Tab) : List ByteArray := keysOf t.old.pl ++ keysOf t.fresh.pl
end Tbl
