/- The printed readings, all. -/
import Derived.Test.YtakgoekfnhkgaaaDoorRdA
import Derived.Test.YtakgoekfnhkgaaaDoorRdB
import Derived.Test.YtakgoekfnhkgaaaDoorRdC
