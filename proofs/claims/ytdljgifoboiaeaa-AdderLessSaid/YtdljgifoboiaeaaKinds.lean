/- The kinds of data: whole numbers, bools, texts, nodes, ports, slices; the builder in memory. -/
import Derived.Test.YtdljgifoboiaeaaBase
namespace Go.Proofs.Ytdljgifoboiaeaa
open Go.RowKit

def kNum (k : IntKind) : Kd Int where
  size := 1
  K := fun _ _ x cs => cs = [.int k x]
  len := by rintro w S x cs rfl; rfl
  one := by rintro w S x cs rfl u hu; simp at hu; subst hu; rfl
  keep := fun h _ _ => h
abbrev kInt : Kd Int := kNum .i64
def kBool : Kd Bool where
  size := 1
  K := fun _ _ x cs => cs = [.bool x]
  len := by rintro w S x cs rfl; rfl
  one := by rintro w S x cs rfl u hu; simp at hu; subst hu; rfl
  keep := fun h _ _ => h
def kStr : Kd ByteArray where
  size := 1
  K := fun _ _ x cs => cs = [.string x]
  len := by rintro w S x cs rfl; rfl
  one := by rintro w S x cs rfl u hu; simp at hu; subst hu; rfl
  keep := fun h _ _ => h
/-- a slice within a row -/
def kRow {α : Type} (k : Kd α) : Kd (List α) where
  size := 1
  K := fun w S x cs => ∃ v, cs = [v] ∧ Row k w S v x
  len := by rintro w S x cs ⟨v, rfl, _⟩; rfl
  one := by
    rintro w S x cs ⟨v, rfl, h⟩ u hu
    simp at hu; subst hu
    obtain ⟨A, c, rfl, _⟩ := h.shape
    rfl
  keep := fun ⟨v, e, h⟩ hs hS => ⟨v, e, h.keep hs hS⟩

structure Node where
  kind : Int
  a : Int
  b : Int
  c : Int
  deriving DecidableEq, Repr
structure Port where
  name : ByteArray
  bits : List Int
  deriving DecidableEq
def Node.cells (x : Node) : List Value := [.int .i64 x.kind, .int .i64 x.a, .int .i64 x.b, .int .i64 x.c]
def kNode : Kd Node where
  size := 4
  K := fun _ _ x cs => cs = x.cells
  len := by rintro w S x cs rfl; rfl
  one := by rintro w S x cs rfl u hu; simp [Node.cells] at hu; rcases hu with rfl | rfl | rfl | rfl <;> rfl
  keep := fun h _ _ => h
def kPort : Kd Port where
  size := 2
  K := fun w S x cs => ∃ v, cs = [.string x.name, v] ∧ Row kInt w S v x.bits
  len := by rintro w S x cs ⟨v, rfl, _⟩; rfl
  one := by
    rintro w S x cs ⟨v, rfl, h⟩ u hu
    obtain ⟨A, c, rfl, _⟩ := h.shape
    simp at hu; rcases hu with rfl | rfl <;> rfl
  keep := fun ⟨v, e, h⟩ hs hS => ⟨v, e, h.keep hs hS⟩

structure BSt where
  nodes : List Node
  ins : List Port
  outs : List Port
  deriving DecidableEq

/-- the builder at block p -/
def BRep (w : World) (p : Nat) (st : BSt) : Prop :=
  ∃ vn vi vo, w.heap[p]? = some (.cells #[vn, vi, vo] 122 (0, 0)) ∧
    Own kNode 117 w none 0 vn st.nodes ∧
    (∃ css, w.ownsRow 0 119 2 vi st.ins.length css.flatten ∧ Pairs kPort w (fun i => i = p ∨ vn.ownBlock = some i ∨ vi.ownBlock = some i ∨ vo.ownBlock = some i) st.ins css) ∧
    (∃ css, w.ownsRow 0 119 2 vo st.outs.length css.flatten ∧ Pairs kPort w (fun i => i = p ∨ vn.ownBlock = some i ∨ vi.ownBlock = some i ∨ vo.ownBlock = some i) st.outs css) ∧
    (vi.ownBlock = none ∨ vi.ownBlock ≠ vo.ownBlock) ∧ FootIn w (some p)

end Go.Proofs.Ytdljgifoboiaeaa
