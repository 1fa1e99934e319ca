import Derived.Test.YtnlciginmeebhaaM35
namespace Go.Ds
end Go.Ds
