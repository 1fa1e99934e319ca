import Derived.Test.YtmphblbpofnpaaaM32
namespace Go.Ds
set_option maxRecDepth 20000
section
variable {S : List MTask} {nu de : Int} {L : List Job}
end
end Go.Ds
