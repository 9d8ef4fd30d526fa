/- A string's bytes copied into a block that is known whole, as one step of a region that draws, or in a plain one. -/
import Derived.Test.YtgjmnhbkdccgpaaKit3
import Derived.Lib.LazyBuf
namespace Go.Proofs.Ytgjmnhbkdccgpaa
open Go.RowKit

section
variable {P : Program} {ops : Array Oper} {o : Oper} {a : Act} {w : World} {Q : Exit → Act → World → Prop} {g : Nat} {T : TypeId}
theorem wp_copy_str_blk {K : Act → World → Prop} (d x : Operand) (dT sT : TypeId) (hop : o.op = Op.call { callee := Callee.builtin Builtin.copy, args := #[d, x], argTypes := #[dT, sT] })
    (elem : TypeId) (hu : P.underlying dT = some (.slice elem)) (hz : ∀ w, (Go.sizeOf elem).run P w = .ok 1 w) (off dLen dCap : Nat) (hd : a.eval d = .slice (some ⟨g, off, none⟩) dLen dCap) (t : List UInt8) (hx : a.eval x = .string ⟨t.toArray⟩) (hle : t.length ≤ dLen)
    {C : Array Value} (h : Blk w g C T) (hfit : off + t.length ≤ C.size) (hK : ∀ w', Blk w' g (splice C off (t.map byteV).toArray) T → Only g w w' → K (a.put o.dst (goInt t.length)) w') : Oper.wp P o a w K Q := by
  have hs := str_size t
  have hrun := run_copy_string (P := P) w dT sT o.type elem g off dLen dCap ⟨t.toArray⟩ hu hz (by rw [hs]; exact hle) (fun j hj => by rw [hs] at hj; rw [h.cell, Array.getElem?_eq_getElem (by omega)]; rfl) (fun j _ => h.free _)
  obtain ⟨k1, k2⟩ := setCells_blk (t.map byteV) w off C h (by simpa using hfit)
  have e : List.map (fun x : UInt8 => Value.int .u8 (x.toNat : Int)) (⟨t.toArray⟩ : ByteArray).data.toList = t.map byteV := rfl
  rw [hs, e] at hrun
  unfold Oper.wp
  simp [execOp, hop, resolve, invoke, builtin, hd, hx, hrun, Result.andThen]
  exact hK _ k1 k2
theorem step_copy_str_blk {K : Act → World → Prop} {E : Prop} (hg : o.guard = none) (d x : Operand) (dT sT : TypeId) (hop : o.op = Op.call { callee := Callee.builtin Builtin.copy, args := #[d, x], argTypes := #[dT, sT] })
    (elem : TypeId) (hu : P.underlying dT = some (.slice elem)) (hz : ∀ w, (Go.sizeOf elem).run P w = .ok 1 w) (off dLen dCap : Nat) (hd : a.eval d = .slice (some ⟨g, off, none⟩) dLen dCap) (t : List UInt8) (hx : a.eval x = .string ⟨t.toArray⟩) (hle : t.length ≤ dLen)
    {C : Array Value} (h : Blk w g C T) (hfit : off + t.length ≤ C.size) (hK : ∀ w', Blk w' g (splice C off (t.map byteV).toArray) T → Only g w w' → K (a.put o.dst (goInt t.length)) w') : if Region.wanted o (yielded ops a.tmps) = true then Oper.wp P o a w K Q else E := by
  rw [if_pos (show Region.wanted o (yielded ops a.tmps) = true by simp [Region.wanted, hg])]
  exact wp_copy_str_blk d x dT sT hop elem hu hz off dLen dCap hd t hx hle h hfit hK
theorem wpList_copy_str_blk {rest : List Oper} (hg : o.guard = none) (d x : Operand) (dT sT : TypeId) (hop : o.op = Op.call { callee := Callee.builtin Builtin.copy, args := #[d, x], argTypes := #[dT, sT] })
    (elem : TypeId) (hu : P.underlying dT = some (.slice elem)) (hz : ∀ w, (Go.sizeOf elem).run P w = .ok 1 w) (off dLen dCap : Nat) (hd : a.eval d = .slice (some ⟨g, off, none⟩) dLen dCap) (t : List UInt8) (hx : a.eval x = .string ⟨t.toArray⟩) (hle : t.length ≤ dLen)
    {C : Array Value} (h : Blk w g C T) (hfit : off + t.length ≤ C.size) (hK : ∀ w', Blk w' g (splice C off (t.map byteV).toArray) T → Only g w w' → wpList P ops Q rest (a.put o.dst (goInt t.length)) w') : wpList P ops Q (o :: rest) a w :=
  wpList_plain hg fun _ hK' => wp_copy_str_blk d x dT sT hop elem hu hz off dLen dCap hd t hx hle h hfit fun w' h1 h2 => hK' _ _ (hK w' h1 h2)
end
end Go.Proofs.Ytgjmnhbkdccgpaa
