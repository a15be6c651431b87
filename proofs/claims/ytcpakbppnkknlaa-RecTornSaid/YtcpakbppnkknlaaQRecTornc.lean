-- the last of the chain
import Derived.Test.YtcpakbppnkknlaaQRecTornc5
