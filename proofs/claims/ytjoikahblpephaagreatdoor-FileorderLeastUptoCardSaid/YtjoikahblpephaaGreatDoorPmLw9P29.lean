/- A part of the proof of one law: the machine on pure values and the walks of functions. -/
import Derived.Test.YtjoikahblpephaaGreatDoorPmLw9P27
import Derived.Test.YtjoikahblpephaaGreatDoorPmLw9P28
set_option linter.all false
