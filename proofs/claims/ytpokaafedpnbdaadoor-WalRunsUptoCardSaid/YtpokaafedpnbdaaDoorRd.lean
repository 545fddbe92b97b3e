/- The printed readings, all. -/
import Derived.Test.YtpokaafedpnbdaaDoorRdA
import Derived.Test.YtpokaafedpnbdaaDoorRdB
import Derived.Test.YtpokaafedpnbdaaDoorRdC
import Derived.Test.YtpokaafedpnbdaaDoorRdD
