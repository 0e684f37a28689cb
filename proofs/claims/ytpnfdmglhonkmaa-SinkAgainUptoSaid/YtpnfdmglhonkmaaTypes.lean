/- Rows of the program's table of types. -/
import Derived.Test.YtpnfdmglhonkmaaProg
import Derived.Test.YtpnfdmglhonkmaaBase
set_option maxRecDepth 100000
namespace Go.Proofs.Ytpnfdmglhonkmaa
theorem Try.info5 : (Try.prog.info? 5).map (fun i => (i.zero, i.size, i.bytes)) = some (some (.int .u8 0), 1, 1) := by kernel_rfl
end Go.Proofs.Ytpnfdmglhonkmaa
