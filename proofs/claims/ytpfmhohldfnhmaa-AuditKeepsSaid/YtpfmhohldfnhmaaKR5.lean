/- The reference's AES: a block enciphered. -/
import Derived.Test.YtpfmhohldfnhmaaKR2
import Derived.Test.YtpfmhohldfnhmaaKR3
import Derived.Test.YtpfmhohldfnhmaaKR4
set_option linter.unusedVariables false
set_option linter.unusedSimpArgs false
namespace Go.Proofs.Ytpfmhohldfnhmaa
open Go Go.RowKit Lk
end Go.Proofs.Ytpfmhohldfnhmaa
