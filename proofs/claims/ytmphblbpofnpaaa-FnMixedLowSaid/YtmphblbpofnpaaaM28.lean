import Derived.Test.YtmphblbpofnpaaaMX
namespace Go.Ds
set_option maxRecDepth 20000
end Go.Ds
