/- The reference's AES: the words of a key of 24 bytes. -/
import Derived.Test.YtpfmhohldfnhmaaKR1
set_option linter.unusedVariables false
set_option linter.unusedSimpArgs false
namespace Go.Proofs.Ytpfmhohldfnhmaa
open Go Go.RowKit Lk
end Go.Proofs.Ytpfmhohldfnhmaa
