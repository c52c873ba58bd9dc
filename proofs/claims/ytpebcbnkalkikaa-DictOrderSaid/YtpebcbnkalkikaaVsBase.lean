/- Abstract values of the interpreter VS, and what it means that a value of the model is what an abstract value tells. -/
import Derived.Calls
import Derived.Below
import Derived.Laws.Sem
namespace Go.VS

/-- How a slice stands to its array. -/
inductive Own where
  | none                      -- a view of what stays as it is
  | full                      -- such a view, and nothing behind it (or nil)
  | own (m : Bool)            -- its place owns the array; m: nobody else sees it
  | of (i off vo : Nat) (m : Bool)    -- (of temporaries) a view of what variable i owns (off: 0, or its box's cell off - 1), from element vo on
  | ofg (id off vo : Nat) (m : Bool)  -- the same of an object's cell
  deriving DecidableEq, Inhabited

inductive AV where
  | undef
  | bool (b : Bool)
  | int (k : IntKind) (n : Int)
  | flt (k : FloatKind) (b : Nat)
  | cpx (k : FloatKind) (re im : Nat)
  | str (s : List UInt8)
  | nilptr
  | ptr (id off : Nat)
  | lptr (i off : Nat)
  | eptr (o : Own) (s : Nat) (xs : List AV) (i off : Nat)
  | sl (o : Own) (s : Nat) (xs : List AV)
  | lbox (cs : List AV)
  | map (id : Option Nat)
  | func (f : FuncId) (caps : List AV)
  | nilfunc
  | seq (f : FuncId) (s : Nat) (xs : List AV)
  | iface (t : TypeId) (v : AV)
  | nilif
  | agg (cs : List AV)
  | tup (vs : List AV)
  deriving Inhabited

def oneCell : AV → Bool
  | .agg _ => false
  | _ => true

/-- Cells that stay as they are. -/
abbrev Cells := Nat → Nat → Prop
/-- Where the abstract objects lie. -/
abbrev Lay := Nat → Option Nat

def cellAt (w : World) (b j : Nat) : Option Value := w.cell? ⟨b, j, none⟩

/-- The cells vs lie at b, off .. -/
def At (w : World) (b : Nat) : Nat → List Value → Prop
  | _, [] => True
  | off, v :: vs => cellAt w b off = some v ∧ At w b (off + 1) vs

section
variable (S : Cells) (G : Lay) (w : World)
mutual
/-- What an abstract value says of a value's cells. -/
def Rep : AV → List Value → Prop
  | .undef, vs => ∀ c ∈ vs, c.oneCell' = true
  | .bool b, vs => vs = [.bool b]
  | .int k n, vs => vs = [.int k n]
  | .flt k b, vs => vs = [.float k b]
  | .cpx k re im, vs => vs = [.complex k re im]
  | .str s, vs => vs = [.string ⟨s.toArray⟩]
  | .nilptr, vs => vs = [.pointer none]
  | .ptr id off, vs => ∃ b, G id = some b ∧ vs = [.pointer (some ⟨b, off, none⟩)]
  | .lptr _ _, _ => False
  | .eptr .none s xs i off, vs => ∃ b o, vs = [.pointer (some ⟨b, o + i * s + off, none⟩)] ∧ i < xs.length ∧ (∀ j, j < xs.length * s → S b (o + j)) ∧ Els b s o xs
  | .eptr _ _ _ _ _, _ => False
  | .sl .none s xs, vs => (vs = [.slice none 0 0] ∧ xs = []) ∨
      ∃ b o cap, vs = [.slice (some ⟨b, o, none⟩) xs.length cap] ∧ xs.length ≤ cap ∧ (∀ j, j < xs.length * s → S b (o + j)) ∧ Els b s o xs
  | .sl .full s xs, vs => (vs = [.slice none 0 0] ∧ xs = []) ∨
      ∃ b o, vs = [.slice (some ⟨b, o, none⟩) xs.length xs.length] ∧ (∀ j, j < xs.length * s → S b (o + j)) ∧ Els b s o xs
  | .sl _ _ _, _ => False
  | .lbox _, _ => False
  | .map none, vs => vs = [.map none]
  | .map (some id), vs => ∃ b, G id = some b ∧ vs = [.map (some b)]
  | .func f caps, vs => ∃ c : Array Value, vs = [.func (.func f) #[] c] ∧ Reps caps c.toList
  | .nilfunc, vs => vs = [.nilFunc]
  | .seq f s xs, vs => ∃ b sv, vs = [.func (.func f) #[] #[.pointer (some ⟨b, 0, none⟩)]] ∧ S b 0 ∧ cellAt w b 0 = some sv ∧
      ((sv = .slice none 0 0 ∧ xs = []) ∨ ∃ b' o cap, sv = .slice (some ⟨b', o, none⟩) xs.length cap ∧ xs.length ≤ cap ∧ (∀ j, j < xs.length * s → S b' (o + j)) ∧ Els b' s o xs)
  | .iface t x, vs => ∃ v, vs = [.iface t v] ∧ v.cells = #[v] ∧ Rep x [v]
  | .nilif, vs => vs = [.nilIface]
  | .agg cs, vs => Reps cs vs
  | .tup _, _ => False
/-- Cell by cell. -/
def Reps : List AV → List Value → Prop
  | [], vs => vs = []
  | c :: cs, vs => ∃ v r, vs = v :: r ∧ v.cells = #[v] ∧ oneCell c = true ∧ Rep c [v] ∧ Reps cs r
/-- Elements of s cells each, from b, o on. -/
def Els (b s : Nat) : Nat → List AV → Prop
  | _, [] => True
  | o, x :: xs => (∃ vs, vs.length = s ∧ At w b o vs ∧ Rep x vs) ∧ Els b s (o + s) xs
end

/-- What an abstract value says of a value. -/
def RepV : AV → Value → Prop
  | .undef, _ => True
  | .agg cs, v => ∃ vs : Array Value, v = .agg vs ∧ Reps S G w cs vs.toList
  | x, v => Rep S G w x [v]
end

end Go.VS
