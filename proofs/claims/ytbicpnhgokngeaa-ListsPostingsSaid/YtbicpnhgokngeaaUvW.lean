/- The walks of bitio.PutUvarint, bitio.Uvarint, corporaref02.Uvarint, corporaref02.Take, corporalaw02.same. -/
import Derived.Test.YtbicpnhgokngeaaProg
import Derived.Test.YtbicpnhgokngeaaApp
import Derived.Test.YtbicpnhgokngeaaUvM
namespace Go.Proofs.Ytbicpnhgokngeaa
open Go.RowKit
set_option linter.unusedVariables false
set_option linter.unusedSimpArgs false

theorem info_u8 : (Try.prog.info? 5).map (fun i => (i.zero, i.size, i.bytes)) = some (some (.int .u8 0), 1, 1) := by kernel_rfl


/-- What decoding answers. -/
def decV (r : Nat × Nat × Nat) : Value := .tuple #[.int .u64 r.1, .int .i64 r.2.1, .int .i64 r.2.2]
end Go.Proofs.Ytbicpnhgokngeaa
