/-
  Tables: what every program must know.
-/
import Derived.Test.YtlbdljebmjajdaaBC
namespace Go.Proofs.Ytlbdljebmjajdaa
open Go VE

theorem awake_val : (ixOf (idH (2 : Int)) (addL (((2 : Int), ((⟨#[98]⟩ : ByteArray), ((0 : Int), ((⟨#[]⟩ : ByteArray), ((1 : Int), ([] : List (El TPair))))))) :: ([] : List (El THost))) ((1 : Int), ((⟨#[97]⟩ : ByteArray), ((0 : Int), ((⟨#[]⟩ : ByteArray), ((1 : Int), ([] : List (El TPair))))))))) = 1 := by
  kernel_rfl

theorem awake_ok : awake.OK := awake.mk (mayT_ok.cons' (find_ok.cons' SpecsOK.nil)) (add_ok.cons' (change_ok.cons' .nil)) fun _ _ => ⟨1, by
  rw [awake.start, awake_val]
  rfl⟩

end Go.Proofs.Ytlbdljebmjajdaa
