import Derived.Test.YtbdbibmbfmlobaaChAttr2
set_option linter.unusedVariables false
set_option linter.unusedSimpArgs false
set_option maxRecDepth 100000
set_option maxHeartbeats 4000000
open Go Go.Proofs Go.Ab
namespace Go.Ch
def applyL (l c : List Attr) : List Attr := if chkA false l 0 = 0 ∧ chkA true c 0 = 0 then fm rawG l c else []
def applyE (l c : List Attr) : Int := if chkA false l 0 = 0 then chkA true c 0 else chkA false l 0
def undoL (l c : List Attr) : List Attr := if applyE l c = 0 then fm chgG (applyL l c) l else []
def betL (a b : List Attr) : List Attr := if chkA false a 0 = 0 ∧ chkA false b 0 = 0 then fm chgG a b else []
def betE (a b : List Attr) : Int := if chkA false a 0 = 0 then chkA false b 0 else chkA false a 0
def joinL (a b : List Attr) : List Attr := if chkA true a 0 = 0 ∧ chkA true b 0 = 0 then fm botG a b else []
def joinE (a b : List Attr) : Int := if chkA true a 0 = 0 then chkA true b 0 else chkA true a 0
def pairL (a b : List Attr) : List Attr := if chkA true a 0 = 0 ∧ chkA true b 0 = 0 then fm wioG a b else []
def pairR (a b : List Attr) : List Attr := if chkA true a 0 = 0 ∧ chkA true b 0 = 0 then b else []
end Go.Ch
