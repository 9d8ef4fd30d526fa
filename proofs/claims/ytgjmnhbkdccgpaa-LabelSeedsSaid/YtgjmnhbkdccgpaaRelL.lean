/- Labels in regions that draw their order. -/
import Derived.Test.YtgjmnhbkdccgpaaRel
import Derived.Test.YtgjmnhbkdccgpaaWSum
namespace Go.Proofs.Ytgjmnhbkdccgpaa
open Go.RowKit

/-- A label out of its block, as one step. -/
theorem wp_load_lab {o : Oper} {a : Act} {w : World} {Q : Exit → Act → World → Prop} {K : Act → World → Prop} {g : Nat} {l : List UInt8} {t : TypeId} (x : Operand) (ho : o.op = .load 25 x) (hx : a.eval x = .pointer (some ⟨g, 0, none⟩)) (b : Blk w g (labA l) t) (hl : l.length = 32)
    (hk : K (a.put o.dst (.agg (labA l))) w) : o.wp Try.prog a w K Q :=
  wp_load_mid 25 x ho g 0 hx (labA l).toList _ (blk_range b (fun j _ => by rw [Nat.zero_add])) Try.underlying25 (by rfl) (by rw [Array.length_toList]; exact size_lab l hl) (by rw [Array.toArray_toList]; exact hk)
end Go.Proofs.Ytgjmnhbkdccgpaa
