import Derived.Test.YtcoepmcddmnnhaaAb30
namespace Go.Ab
end Go.Ab
