/- The laws RunSeen, RunSends and RunSecret: each returns true, whatever it is given, where what it reads is small; the listed variables as the program lays them. -/
import Derived.Test.YtfjdfdgpkncpfaaGreatDoorQb29
set_option maxHeartbeats 64000000
section

end
