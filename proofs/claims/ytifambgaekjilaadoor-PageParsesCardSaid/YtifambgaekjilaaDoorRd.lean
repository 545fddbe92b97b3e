/- The printed readings, all. -/
import Derived.Test.YtifambgaekjilaaDoorRdA
import Derived.Test.YtifambgaekjilaaDoorRdB
import Derived.Test.YtifambgaekjilaaDoorRdC
