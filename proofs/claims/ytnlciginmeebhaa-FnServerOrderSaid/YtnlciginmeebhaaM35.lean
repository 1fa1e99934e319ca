import Derived.Test.YtnlciginmeebhaaMM
import Derived.Test.YtnlciginmeebhaaM15
namespace Go.Ds
section
variable {S : List Task}
end
end Go.Ds
