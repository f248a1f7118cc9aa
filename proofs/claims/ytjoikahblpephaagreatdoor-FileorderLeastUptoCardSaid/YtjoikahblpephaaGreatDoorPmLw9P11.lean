/- A part of the proof of one law: the machine on pure values and the walks of functions. -/
import Derived.Test.YtjoikahblpephaaGreatDoorPmLw9P9
import Derived.Laws.IdiomStrings
set_option linter.all false
