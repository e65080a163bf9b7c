/- The chapter's example, by the kernel. No condition. -/
import Derived.Test.YtfkmdajlpnkebaaDoorCd25
import Derived.Test.YtfkmdajlpnkebaaDoorLb25
namespace Go.Proofs.YtfkmdajlpnkebaaDoor
open Go Ai
set_option maxRecDepth 1000000 in
theorem alive_run : (match runA A 300 (.seqc 7 []) [] with | some ⟨.ret, fr, st⟩ => AV.beqs fr.env [.bool true] && st.isEmpty && fr.defs.isEmpty | _ => false) = true := by kernel_rfl
end Go.Proofs.YtfkmdajlpnkebaaDoor
