import Derived.Test.YtgnlibnnpipbhaaM21
namespace Go.Ds
section
variable {L : List Job} {pick : Nat → List Int → Int}
end
def running (L : List Job) (done : List Int) (i : Nat) : Prop := 0 < gI done i ∧ gI done i < (L.getD i default).E
end Go.Ds
