/- The law StampOrder: its walk lies in StampO. -/
import Derived.Test.YtbeciinkecmbaaaDoorStampO
